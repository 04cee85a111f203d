/- Steps of a log, as an argument. No claim of its own. -/
import Derived.Test.YtjhblbipjljojaaDoorAmRow
import Derived.Test.YtjhblbipjljojaaDoorAWalM
namespace Go.Proofs.YtjhblbipjljojaaDoor
open Go.Am Go.ChangeShapes Go.WideShapes Go.ChangeAt Go.RowKit

set_option maxRecDepth 4000 in
theorem open_steps {H : Type} {enc : TypeId × Value → H} {W : World} {base : Nat} {v : Value} {d : DataW H} {q : List MemPlace} (hval : Value.okWide Tryd.prog W .any base 22 v) (hd : DataW.Trod enc Tryd.prog W 0 (fun _ => true) true 22 v d q) :
    ∃ (isNil : Bool) (l : List (Int × List UInt8)), PRep W (allF W) (.lst isNil 2 (l.map encSt) .none) v ∧ (isNil = true → l = []) ∧ l.length ≤ maxLen := by
  obtain ⟨a0, len, cap, rfl⟩ := okWide_slice Tryd.underlying22 hval
  obtain ⟨fuel, hf⟩ := hd
  obtain ⟨b, l, h1, h2, h3, _⟩ := open_lst (α := Int × List UInt8) Tryd.underlying22 (sz := 2) (by kernel_rfl) (by decide) encSt (fun _ => True) (fun n cs y hcs ht => by
    obtain ⟨z0, z1, k, _, _, h0, h1⟩ := trod_struct2 Tryd.underlying41 ht
    match cs, hcs with
    | [c0, c1], _ =>
      obtain ⟨z, hz, _, hw⟩ := DataW.trod_int Tryd.underlying3 (show DataW.trod enc Tryd.prog W 0 (fun _ => true) true k 3 [c0] = some z0 from h0)
      obtain ⟨s, hs, _, hws⟩ := DataW.trod_string Tryd.underlying9 (show DataW.trod enc Tryd.prog W 0 (fun _ => true) true k 9 [c1] = some z1 from h1)
      obtain rfl : c0 = .int .i64 z := by simpa using hz
      obtain rfl : c1 = .string s := by simpa using hs
      refine ⟨(z, s.data.toList), trivial, rfl, fun j x c hx hc => ?_⟩
      match j, hx, hc with
      | 0, hx, hc => cases hx; cases hc; exact ⟨.int _ _, rfl⟩
      | 1, hx, hc => cases hx; cases hc; exact ⟨.str rfl, rfl⟩
      | j + 2, hx, _ => cases hx) hf
  exact ⟨b, l, h1, h2, h3⟩
end Go.Proofs.YtjhblbipjljojaaDoor
