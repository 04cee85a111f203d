/- What the package op computes, in plain Lean. -/
import Derived.Test.YtkflmicpifohhaaStampFn
import Derived.Test.YtkflmicpifohhaaNameFn
import Derived.Test.YtkflmicpifohhaaVlqFn
namespace Gw.Op
open Gw.Stamp
structure Op where
  at_ : Stamp
  kind : Int
  node : Int
  parent : Int
  name : List UInt8
  data : List UInt8
def fitsMove (o : Op) : Bool := ok o.node && (dir o.parent && (!later o.at_ o.parent && (Gw.Name.check o.name && decide (o.data = []))))
def fitsWrite (o : Op) : Bool := ok o.node && (file o.node && (decide (o.data.length ≤ 64) && (decide (o.parent = 0) && decide (o.name = []))))
/-- Whether an operation may be. -/
def check (o : Op) : Bool := if o.kind = 1 then Gw.Stamp.check o.at_ && (!later o.at_ o.node && fitsMove o) else if o.kind = 2 then Gw.Stamp.check o.at_ && (!later o.at_ o.node && fitsWrite o) else false
def head (o : Op) : List UInt8 := Gw.Vlq.many [o.at_.c.toNat, o.at_.r.toNat, o.kind.toNat, o.node.toNat]
/-- An operation's bytes. -/
def bytes (o : Op) : List UInt8 := if o.kind = 1 then Gw.Vlq.text (head o ++ Gw.Vlq.many [o.parent.toNat]) o.name else Gw.Vlq.text (head o) o.data
def put (b : List UInt8) (o : Op) : List UInt8 := if check o = true then b ++ bytes o else []
def putErr (o : Op) : Int := if check o = true then 0 else 50

theorem ok_bounds {id : Int} (h : ok id = true) : 128 ≤ id ∧ id < 134217856 := by
  unfold ok at h
  simpa using h
theorem dir_bounds {id : Int} (h : dir id = true) : 0 ≤ id ∧ id < 134217856 := by
  unfold dir at h
  simp only [Bool.or_eq_true, Bool.and_eq_true, decide_eq_true_eq] at h
  rcases h with h | h | h
  · omega
  · omega
  · have := ok_bounds h.1; omega
theorem check_bounds {o : Op} (h : check o = true) : (0 ≤ o.at_.c ∧ o.at_.c ≤ 1048576) ∧ (0 ≤ o.at_.r ∧ o.at_.r ≤ 63) ∧ (o.kind = 1 ∨ o.kind = 2) ∧ (128 ≤ o.node ∧ o.node < 134217856) ∧ (0 ≤ o.parent ∧ o.parent < 134217856) := by
  have st : Gw.Stamp.check o.at_ = true → (0 ≤ o.at_.c ∧ o.at_.c ≤ 1048576) ∧ (0 ≤ o.at_.r ∧ o.at_.r ≤ 63) := fun h => by
    unfold Gw.Stamp.check at h
    simp only [Bool.and_eq_true, decide_eq_true_eq] at h
    omega
  unfold check at h
  split at h
  · rename_i hk
    simp only [Bool.and_eq_true] at h
    obtain ⟨h1, _, h2⟩ := h
    unfold fitsMove at h2
    simp only [Bool.and_eq_true] at h2
    obtain ⟨a, b⟩ := st h1
    exact ⟨a, b, .inl hk, ok_bounds h2.1, dir_bounds h2.2.1⟩
  · split at h
    · rename_i hk
      simp only [Bool.and_eq_true] at h
      obtain ⟨h1, _, h2⟩ := h
      unfold fitsWrite at h2
      simp only [Bool.and_eq_true, decide_eq_true_eq] at h2
      obtain ⟨a, b⟩ := st h1
      exact ⟨a, b, .inr hk, ok_bounds h2.1, by omega⟩
    · cases h
end Gw.Op
