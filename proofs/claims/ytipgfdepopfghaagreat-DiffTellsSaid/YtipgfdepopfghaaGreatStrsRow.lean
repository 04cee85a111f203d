/- Texts, as an argument. No claim of its own. -/
import Derived.Test.YtipgfdepopfghaaGreatAmRow
namespace Go.Proofs.YtipgfdepopfghaaGreat
open Go.Am Go.ChangeShapes Go.WideShapes Go.ChangeAt Go.RowKit

set_option maxRecDepth 4000 in
theorem open_strs {H : Type} {enc : TypeId × Value → H} {W : World} {base : Nat} {v : Value} {d : DataW H} {q : List MemPlace} (hval : Value.okWide Tryz.prog W .any base 23 v) (hd : DataW.Trod enc Tryz.prog W 0 (fun _ => true) true 23 v d q) :
    ∃ (isNil : Bool) (l : List (List UInt8)), PRep W (allF W) (.lst isNil 1 (l.map fun t => [V.str t]) .none) v ∧ (isNil = true → l = []) ∧ l.length ≤ maxLen := by
  obtain ⟨a0, len, cap, rfl⟩ := okWide_slice Tryz.underlying23 hval
  obtain ⟨fuel, hf⟩ := hd
  obtain ⟨b, l, h1, h2, h3, _⟩ := open_lst (α := List UInt8) Tryz.underlying23 (sz := 1) (by kernel_rfl) (by decide) (fun t => [V.str t]) (fun _ => True) (fun n cs y hcs ht => by
    obtain ⟨s, hs, _, ls⟩ := DataW.trod_string Tryz.underlying9 ht
    subst hs
    refine ⟨s.data.toList, trivial, rfl, fun j x c hx hc => ?_⟩
    match j, hx, hc with
    | 0, hx, hc => cases hx; cases hc; exact ⟨.str rfl, rfl⟩
    | j + 1, hx, _ => cases hx) hf
  exact ⟨b, l, h1, h2, h3⟩
end Go.Proofs.YtipgfdepopfghaaGreat
