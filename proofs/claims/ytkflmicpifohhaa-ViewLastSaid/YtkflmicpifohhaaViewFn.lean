/- What is seen of nodes, in plain Lean: no program in sight. -/
import Derived.Test.YtkflmicpifohhaaNodeFn
import Derived.Test.YtkflmicpifohhaaNameFn
namespace Gw.View
open Gw.Tree (Node)
open Gw.Stamp (Stamp)
/-- Names, and what is seen by them, with when they came. -/
abbrev M := List (Nat × List UInt8 × Node)
def findM (k : List UInt8) : M → Option Node
  | [] => none
  | e :: m => if e.2.1 = k then some e.2.2 else findM k m
def putM (k : List UInt8) (n : Node) : M → Option M
  | [] => none
  | e :: m => if e.2.1 = k then some ((e.1, e.2.1, n) :: m) else match putM k n m with
    | some l => some (e :: l)
    | none => none
def delM (k : List UInt8) : M → M
  | [] => []
  | e :: m => if e.2.1 = k then m else e :: delM k m
def inDir (n : Node) (dir : Int) : Bool := decide (n.parent = dir) && Gw.Stamp.check n.moved
def beats (n : Node) (m : M) : Bool := match findM n.name m with
  | none => true
  | some old => !Gw.Stamp.less n.moved old.moved
def setM (x : Nat × M) (n : Node) : Nat × M := match putM n.name n x.2 with
  | some m => (x.1, m)
  | none => (x.1 + 1, x.2 ++ [(x.1, n.name, n)])
def seenStep (dir : Int) (x : Nat × M) (n : Node) : Nat × M := if inDir n dir = true then (if beats n x.2 = true then setM x n else x) else x
/-- What is seen in a directory. -/
def seen (l : List Node) (dir : Int) : Nat × M := l.foldl (seenStep dir) (0, [])
/-- What is seen by a name. -/
def child (l : List Node) (dir : Int) (s : List UInt8) : Option Node := if Gw.Tree.check l = true then findM s (seen l dir).2 else none
/-- What is seen at a path; 81: what should be a directory is none; 80: there is none. -/
def findF (l : List Node) : Int → List (List UInt8) → Int × Int
  | at_, [] => (at_, 0)
  | at_, s :: r => if Gw.Stamp.dir at_ = true then (match child l at_ s with
    | some n => findF l n.id r
    | none => (0, 80)) else (0, 81)
def find (l : List Node) (names : List (List UInt8)) : Int × Int := findF l 0 names
end Gw.View
