/- A disk, as an argument. No claim of its own. -/
import Derived.Test.YtjhblbipjljojaaDoorADiskM
import Derived.Test.YtjhblbipjljojaaDoorAmRow
namespace Go.Proofs.YtjhblbipjljojaaDoor
open Go.Am Go.ChangeShapes Go.WideShapes Go.ChangeAt Go.RowKit

set_option maxRecDepth 4000 in
/-- A disk, as an argument. -/
theorem open_dsk {H : Type} {enc : TypeId × Value → H} {W : World} {base : Nat} {v : Value} {d : DataW H} {q : List MemPlace}
    (hval : Value.okWide Tryd.prog W .any base 25 v) (hd : DataW.Trod enc Tryd.prog W 0 (fun _ => true) true 25 v d q) :
    ∃ (nil : Bool) (D : Gw.Disk.Disk), PRep W (allF W) (encD nil D) v ∧ (nil = true → D.loose = []) ∧ D.loose.length ≤ maxLen ∧ I64 D.size := by
  obtain ⟨v0, v1, v2, y0, y1, y2, n, rfl, _, _, h0, h1, h2⟩ := Go.Joins.open_agg3 Tryd.underlying25 (by kernel_rfl) (by kernel_rfl) hval hd
  obtain ⟨z, hz, _, hw⟩ := DataW.trod_int Tryd.underlying3 h0
  obtain ⟨s, hs, _, hws⟩ := DataW.trod_string Tryd.underlying9 h1
  obtain ⟨nil, l, hl, hn, hlen, _⟩ := open_lst (α := Int × ByteArray) Tryd.underlying23 (sz := 2) (by kernel_rfl) (by decide) encP (fun _ => True) (fun n cs y hcs ht => by
    obtain ⟨z0, z1, k, _, _, h0, h1⟩ := trod_struct2 Tryd.underlying58 ht
    match cs, hcs with
    | [c0, c1], _ =>
      obtain ⟨z, hz, _, hw⟩ := DataW.trod_int Tryd.underlying3 (show DataW.trod enc Tryd.prog W 0 (fun _ => true) true k 3 [c0] = some z0 from h0)
      obtain ⟨s, hs, _, hws⟩ := DataW.trod_string Tryd.underlying9 (show DataW.trod enc Tryd.prog W 0 (fun _ => true) true k 9 [c1] = some z1 from h1)
      obtain rfl : c0 = .int .i64 z := by simpa using hz
      obtain rfl : c1 = .string s := by simpa using hs
      refine ⟨(z, s), trivial, rfl, fun j x c hx hc => ?_⟩
      match j, hx, hc with
      | 0, hx, hc => cases hx; cases hc; exact ⟨.int _ _, rfl⟩
      | 1, hx, hc => cases hx; cases hc; exact ⟨.str rfl, rfl⟩
      | j + 2, hx, _ => cases hx) h2
  obtain rfl : v0 = .int .i64 z := by simpa using hz
  obtain rfl : v1 = .string s := by simpa using hs
  exact ⟨nil, ⟨z, s, l⟩, .agg (vs := [_, _, _]) rfl (reps_cons (.int _ _) (reps_cons (.str rfl) (reps_cons hl reps_nil))), hn, hlen, bounds_i64 hw⟩
end Go.Proofs.YtjhblbipjljojaaDoor
