/- What stands at the head of the statements of the package vlq: it is true. -/
import Derived.Test.YtfcmknoipceciaaVlqTake
import Derived.Test.YtfcmknoipceciaaVlqLaw
namespace Go.Proofs.Ytfcmknoipceciaa
open Go.RowKit

theorem intsAt_new {w : World} {b c : Nat} (zs : List Int) (t : TypeId) (hb : b = w.heap.size) : IntsAt (w.alloc (.cells (zs.map (Value.int .i64)).toArray t)) (.slice (some ⟨b, 0, none⟩) zs.length c) zs := by
  subst hb
  refine .inr ⟨_, 0, c, rfl, by simp, fun i hi => ?_⟩
  rw [Nat.zero_add]
  refine new_cell rfl ?_
  simp [List.getD_eq_getElem?_getD, List.getElem?_eq_getElem hi]

theorem awPut : putRes ⟨#[120]⟩ [5, 300, 0] = .tuple #[.string ⟨#[120, 5, 130, 44, 0]⟩, .int .i64 0] := by kernel_rfl
theorem awBad : putRes ⟨#[]⟩ [-1] = .tuple #[.string ⟨#[]⟩, .int .i64 40] := by kernel_rfl
theorem awTake : takeRes ⟨#[130, 44, 121]⟩ = .tuple #[.int .i64 300, .string ⟨#[121]⟩, .int .i64 0] := by
  have h : Gw.Vlq.take (⟨#[130, 44, 121]⟩ : ByteArray).data.toList = some (300, 2) := by kernel_rfl
  rw [takeRes_some h]
  congr 4
theorem awNone : takeRes ⟨#[128, 1]⟩ = .tuple #[.int .i64 0, .string ⟨#[]⟩, .int .i64 40] := takeRes_none (by kernel_rfl)
theorem awText : textOfL ⟨#[]⟩ ⟨#[97, 98]⟩ = ⟨#[2, 97, 98]⟩ := by kernel_rfl
theorem awTakeText : takeTextRes ⟨#[2, 97, 98]⟩ = .tuple #[.string ⟨#[97, 98]⟩, .string ⟨#[]⟩, .int .i64 0] := by
  have h : takeText (⟨#[2, 97, 98]⟩ : ByteArray).data.toList = some (2, 1) := by kernel_rfl
  unfold takeTextRes
  rw [h]
  congr 4
theorem awSizes : Gw.Vlq.size 127 = 1 ∧ Gw.Vlq.size 128 = 2 ∧ Gw.Vlq.size 9223372036854775807 = 9 := by refine ⟨?_, ?_, ?_⟩ <;> kernel_rfl

set_option maxRecDepth 1000000 in
set_option maxHeartbeats 1000000 in
theorem awake_any (w : World) :
    Calls Try.prog 9 #[] w fun e w' => e = .returned (.bool true) ∧ Below w.heap.size w w' := by
  have H1 := Lib.hid (put_any ⟨#[120]⟩ [5, 300, 0] (by decide) (by simp [ByteArray.size]))
  rw [awPut] at H1
  have H2 := Lib.hid (put_any ⟨#[]⟩ [-1] (by decide) (by simp [ByteArray.size]))
  rw [awBad] at H2
  have H3 := Lib.hid (take_any ⟨#[130, 44, 121]⟩ (by simp [ByteArray.size]))
  rw [awTake] at H3
  have H4 := Lib.hid (take_any ⟨#[128, 1]⟩ (by simp [ByteArray.size]))
  rw [awNone] at H4
  have H5 := Lib.hid (text_any ⟨#[]⟩ ⟨#[97, 98]⟩ (by simp [ByteArray.size]))
  rw [awText] at H5
  have H6 := Lib.hid (takeText_any ⟨#[2, 97, 98]⟩ (by simp [ByteArray.size]))
  rw [awTakeText] at H6
  have H7 := Lib.hid (vsize_any 127 (by omega))
  have H8 := Lib.hid (vsize_any 128 (by omega))
  have H9 := Lib.hid (vsize_any 9223372036854775807 (by omega))
  rw [awSizes.1] at H7
  rw [awSizes.2.1] at H8
  rw [awSizes.2.2] at H9
  go_enter Try.func9, Try.ntmps9
  go_wp2_with fail
  refine (H1.out _ _ (intsAt_new (w := w) [5, 300, 0] 3 rfl)).mono ?_
  rintro e w1 ⟨rfl, hb1⟩
  go_wp2_with fail
  refine (H2.out _ _ (intsAt_new (w := w1) [-1] 3 rfl)).mono ?_
  rintro e w2 ⟨rfl, hb2⟩
  go_wp2_with fail
  refine (H3.out _).mono ?_
  rintro e w3 ⟨rfl, hb3⟩
  go_wp2_with fail
  refine (H4.out _).mono ?_
  rintro e w4 ⟨rfl, hb4⟩
  go_wp2_with fail
  refine (H5.out _).mono ?_
  rintro e w5 ⟨rfl, hb5⟩
  go_wp2_with fail
  refine (H6.out _).mono ?_
  rintro e w6 ⟨rfl, hb6⟩
  go_wp2_with fail
  refine (H7.out _).mono ?_
  rintro e w7 ⟨rfl, rfl⟩
  go_wp2_with fail
  refine (H8.out _).mono ?_
  rintro e w7 ⟨rfl, rfl⟩
  go_wp2_with fail
  refine (H9.out _).mono ?_
  rintro e w7 ⟨rfl, rfl⟩
  go_wp2_with fail
  go_ret
  have z1 := hb1.size
  have z2 := hb2.size
  have z3 := hb3.size
  have z4 := hb4.size
  have z5 := hb5.size
  simp only [World.size_alloc] at z1 z2
  refine ⟨rfl, ?_⟩
  refine Below.trans ?_ (hb6.mono (by omega))
  refine Below.trans ?_ (hb5.mono (by omega))
  refine Below.trans ?_ (hb4.mono (by omega))
  refine Below.trans ?_ (hb3.mono (by omega))
  refine Below.trans ?_ (hb2.mono (by simp only [World.size_alloc]; omega))
  refine Below.alloc ?_ (by omega) _
  refine Below.trans ?_ (hb1.mono (by simp only [World.size_alloc]; omega))
  exact (Below.refl _ _).alloc (Nat.le_refl _) _
end Go.Proofs.Ytfcmknoipceciaa
