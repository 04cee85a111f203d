/- What op.Take computes, in plain Lean, step by step. -/
import Derived.Test.YtjfnelgmagmgoaaOpFn
import Derived.Test.YtjfnelgmagmgoaaVlqTake
namespace Gw.Op
open Gw.Stamp
/-- What is behind the numbers and the text, if the operation may be. -/
def done (o : Op) (rest : List UInt8) : Option (Op × List UInt8) := if check o = true then some (o, rest) else none
def fText (mk : List UInt8 → Op) (rest : List UInt8) : Option (Op × List UInt8) := match Go.Proofs.Ytjfnelgmagmgoaa.takeText rest with
  | none => none
  | some (n, u) => done (mk ((rest.drop u).take n)) (rest.drop (u + n))
def f5 (c r n p : Nat) (rest : List UInt8) : Option (Op × List UInt8) := fText (fun t => ⟨⟨c, r⟩, 1, n, p, t, []⟩) rest
def f45 (c r n : Nat) (rest : List UInt8) : Option (Op × List UInt8) := match Gw.Vlq.take rest with | none => none | some (p, u) => f5 c r n p (rest.drop u)
def f4 (c r k n : Nat) (rest : List UInt8) : Option (Op × List UInt8) :=
  if k = 1 then f45 c r n rest else fText (fun t => ⟨⟨c, r⟩, k, n, 0, [], t⟩) rest
def f3 (c r k : Nat) (rest : List UInt8) : Option (Op × List UInt8) := match Gw.Vlq.take rest with | none => none | some (n, u) => f4 c r k n (rest.drop u)
def f2 (c r : Nat) (rest : List UInt8) : Option (Op × List UInt8) := match Gw.Vlq.take rest with | none => none | some (k, u) => f3 c r k (rest.drop u)
def f1 (c : Nat) (rest : List UInt8) : Option (Op × List UInt8) := match Gw.Vlq.take rest with | none => none | some (r, u) => f2 c r (rest.drop u)
/-- The operation that bytes begin with, and what is behind it. -/
def take (rest : List UInt8) : Option (Op × List UInt8) := match Gw.Vlq.take rest with | none => none | some (c, u) => f1 c (rest.drop u)
end Gw.Op
