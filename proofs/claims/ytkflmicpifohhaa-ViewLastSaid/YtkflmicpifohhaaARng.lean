/- The loops over functions in a text. No claim of its own. -/
import Derived.Test.YtkflmicpifohhaaAmTab
namespace Go.Proofs.Ytkflmicpifohhaa
open Go.RowKit Go.Am

/-- The loops over functions of a piece of code: what each assigns, and its body. -/
noncomputable def rangesOf (c : Code) : List (Code × Code) :=
  Code.rec (motive := fun _ => List (Code × Code)) [] (fun _ _ _ => []) (fun _ _ x y => x ++ y) (fun _ _ _ x y => x ++ y) (fun _ _ x => x) (fun _ x => x) (fun _ _ x y _ _ => [(x, y)]) (fun _ => []) (fun _ x => x) (fun _ => []) (fun _ => []) [] (fun _ => []) c
noncomputable def rangeAt (fn : Func) (i : Nat) : Code × Code := match fn.body with
  | some c => match nth (rangesOf c) i with | some x => x | none => (.skip, .skip)
  | none => (.skip, .skip)
end Go.Proofs.Ytkflmicpifohhaa
