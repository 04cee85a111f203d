/- What the package stamp computes, in plain Lean: no program in sight. -/
namespace Gw.Stamp
structure Stamp where
  c : Int
  r : Int
def check (s : Stamp) : Bool := decide (1 ≤ s.c) && (decide (s.c ≤ 1048576) && (decide (0 ≤ s.r) && decide (s.r ≤ 63)))
def less (a b : Stamp) : Bool := decide (a.c < b.c) || (decide (a.c = b.c) && decide (a.r < b.r))
/-- Whether a number is a node's; its stamp; whether it is a file's. -/
def ok (id : Int) : Bool := decide (128 ≤ id) && decide (id < 134217856)
def of (id : Int) : Stamp := if ok id = true then ⟨id / 128, id % 128 / 2⟩ else ⟨0, 0⟩
def file (id : Int) : Bool := ok id && decide (id % 2 = 1)
def dir (id : Int) : Bool := decide (id = 0) || (decide (id = 2) || (ok id && !file id))
def later (at_ : Stamp) (id : Int) : Bool := ok id && less at_ (of id)
end Gw.Stamp



