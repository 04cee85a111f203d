/- Events, as an argument. No claim of its own. -/
import Derived.Test.YtipgfdepopfghaaGreatAmRow
import Derived.Test.YtipgfdepopfghaaGreatADiff1
namespace Go.Proofs.YtipgfdepopfghaaGreat
open Go.Am Go.ChangeShapes Go.WideShapes Go.ChangeAt Go.RowKit

set_option maxRecDepth 20000 in
theorem open_events {H : Type} {enc : TypeId × Value → H} {W : World} {base : Nat} {v : Value} {d : DataW H} {q : List MemPlace} (hval : Value.okWide Tryz.prog W .any base 24 v) (hd : DataW.Trod enc Tryz.prog W 0 (fun _ => true) true 24 v d q) :
    ∃ (isNil : Bool) (l : List Gw.Diff.Event), PRep W (allF W) (.lst isNil 2 (encE l) .none) v ∧ (isNil = true → l = []) ∧ l.length ≤ maxLen := by
  obtain ⟨a0, len, cap, rfl⟩ := okWide_slice Tryz.underlying24 hval
  obtain ⟨fuel, hf⟩ := hd
  obtain ⟨b, l, h1, h2, h3, _⟩ := open_lst (α := Gw.Diff.Event) Tryz.underlying24 (sz := 2) (by kernel_rfl) (by decide) cellsE (fun _ => True) (fun n cs y hcs ht => by
    match cs, hcs, ht with
    | [c0, c1], _, ht =>
      obtain ⟨z0, z1, k, rfl, _, g0, g1⟩ := trod_struct2 Tryz.underlying43 ht
      obtain ⟨a, ha, _, _⟩ := DataW.trod_int Tryz.underlying3 (show DataW.trod enc Tryz.prog W 0 (fun _ => true) true k 3 [c0] = some z0 from g0)
      obtain ⟨s, hs, _, _⟩ := DataW.trod_string Tryz.underlying9 (show DataW.trod enc Tryz.prog W 0 (fun _ => true) true k 9 [c1] = some z1 from g1)
      simp only [List.cons.injEq, and_true] at ha hs
      subst ha hs
      refine ⟨⟨a, s.data.toList⟩, trivial, rfl, fun j x c hx hc => ?_⟩
      match j, hx, hc with
      | 0, hx, hc => cases hx; cases hc; exact ⟨.int _ _, rfl⟩
      | 1, hx, hc => cases hx; cases hc; exact ⟨.str rfl, rfl⟩
      | j + 2, hx, _ => cases hx) hf
  exact ⟨b, l, h1, h2, h3⟩
end Go.Proofs.YtipgfdepopfghaaGreat
