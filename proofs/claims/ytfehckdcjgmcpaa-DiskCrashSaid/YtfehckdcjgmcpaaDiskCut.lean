/- The walk of disk.cut. -/
import Derived.Test.YtfehckdcjgmcpaaDiskCheck
import Derived.Test.YtfehckdcjgmcpaaCopyStr
import Derived.Test.YtfehckdcjgmcpaaMake
import Derived.Deep.RegionLaw
namespace Go.Proofs.Ytfehckdcjgmcpaa
open Go.RowKit

set_option maxRecDepth 1000000 in
set_option maxHeartbeats 1000000 in
theorem cut_any (s : ByteArray) (hs : s.size ≤ 1000000) (w : World) :
    Calls Try.prog 27 #[.string s] w fun e w' => ∃ B, e = .returned (.slice (some ⟨B, 0, none⟩) (Gw.Disk.manyOf s) (Gw.Disk.manyOf s)) ∧
      Own w' w.heap.size 1 (.slice (some ⟨B, 0, none⟩) (Gw.Disk.manyOf s * 16) (Gw.Disk.manyOf s * 16)) (Gw.Disk.manyOf s * 16) (cellsOf (Gw.Disk.pad s)) ∧ Below w.heap.size w w' := by
  have H := Lib.hid (many_any s (by omega) w)
  have hn : Gw.Disk.manyOf s ≤ 1000000 := by unfold Gw.Disk.manyOf; omega
  have hm := make_own (P := Try.prog) w 46 49 (.agg (Array.replicate 16 (.int .u8 0))) 16 16 Try.underlying46 (by kernel_rfl) .i64 .i64 (Gw.Disk.manyOf s) (Gw.Disk.manyOf s) (Nat.le_refl _) (by omega) (by unfold maxLen; omega) w.heap.size (Nat.le_refl _)
  have hbw := (Below.refl w.heap.size w).new (.cells (madeCells (Value.agg (Array.replicate 16 (.int .u8 0))).cells (Gw.Disk.manyOf s * 16)) 49)
  obtain ⟨hm1, hm2⟩ := hm
  rw [made_sectors _ _ (by omega), List.take_of_length_le (by rw [cellsOf_length, List.length_replicate]; exact Nat.le_refl _), ← Gw.Disk.padTo_zero] at hm2
  have hz := World.size_alloc w (.cells (madeCells (Value.agg (Array.replicate 16 (.int .u8 0))).cells (Gw.Disk.manyOf s * 16)) 49)
  generalize w.alloc (.cells (madeCells (Value.agg (Array.replicate 16 (.int .u8 0))).cells (Gw.Disk.manyOf s * 16)) 49) = w1 at *
  have hown : Own w1 w.heap.size 1 (.slice (some ⟨w.heap.size, 0, none⟩) (Gw.Disk.manyOf s * 16) (Gw.Disk.manyOf s * 16)) (Gw.Disk.manyOf s * 16) (cellsOf (Gw.Disk.padTo s 0)) := by
    rcases hm2.2 with ⟨h0, _⟩ | ⟨b, off, cap, h0, h3, h4, h5, h6, h7, h8⟩
    · cases h0
    · cases h0
      exact ⟨by rw [cellsOf_length, Gw.Disk.padTo_length, Nat.mul_one], .inr ⟨_, _, _, rfl, h3, h4, Nat.le_refl _, by unfold maxLen; omega, by rw [Nat.mul_one]; exact h7, h8⟩⟩
  have HOWN := Lib.hid hown
  have HN := Lib.hid (show (s.size + 15) / 16 = Gw.Disk.manyOf s from rfl)
  have HSZ : s.size ≤ Gw.Disk.manyOf s * 16 := by unfold Gw.Disk.manyOf; omega
  have HS2 : Gw.Disk.manyOf s * 16 ≤ s.size + 15 := by unfold Gw.Disk.manyOf; omega
  clear hm2 hown
  rw [HN.out] at H
  have HALL := Lib.hid (Gw.Disk.padTo_all s)
  have HSUCC := Lib.hid (Gw.Disk.padTo_succ s)
  have HLEN := Lib.hid (Gw.Disk.padTo_length s)
  clear HN
  generalize Gw.Disk.manyOf s = n at *
  go_enter Try.func27, Try.ntmps27
  go_wp2_with fail
  refine (H.out).mono ?_
  rintro e w0 ⟨rfl, rfl⟩
  go_wp2_with fail
  go_loopw [10] (fun i wr => ∃ k : Nat, k ≤ n ∧ i = .int .i64 k ∧ Below w.heap.size w wr ∧ Own wr w.heap.size 1 (.slice (some ⟨w.heap.size, 0, none⟩) (n * 16) (n * 16)) (n * 16) (cellsOf (Gw.Disk.padTo s k))) (fun i _ => n - (intOf i).toNat)
  case atStart => exact ⟨0, Nat.zero_le _, rfl, hbw, HOWN.out⟩
  case round =>
    obtain ⟨k, hk, rfl, hbr, hor⟩ := hrel
    have HBR := Lib.hid hbr
    have HOR := Lib.hid hor
    clear hor hbr
    by_cases hlt : k < n
    · have hks : (k : Int) * 16 ≤ (s.size : Int) := by omega
      have hk0 : (0 : Int) ≤ (k : Int) * 16 := by omega
      have hkt : ((k : Int) * 16).toNat = k * 16 := by omega
      have hw1 : IntKind.i64.wrap ((k : Int) * 16) = (k : Int) * 16 := IntWalk.i64_in _ (by omega)
      have ht : ((s.data.toList.drop (k * 16)).take (s.size - k * 16)).take (Nat.min (s.size - k * 16) 16) = (s.data.toList.drop (k * 16)).take 16 := by
        have h : s.data.toList.length = s.size := rfl
        rw [List.take_of_length_le (i := s.size - k * 16) (by rw [List.length_drop]; omega)]
        have h2 : Nat.min (s.size - k * 16) 16 = min (s.size - k * 16) 16 := rfl
        rw [h2]
        rcases Nat.le_total (s.size - k * 16) 16 with h3 | h3
        · rw [List.take_of_length_le (by rw [List.length_drop]; omega), List.take_of_length_le (by rw [List.length_drop]; omega)]
        · rw [Nat.min_eq_right h3]
      have htl : ((s.data.toList.drop (k * 16)).take 16).length ≤ 16 := by rw [List.length_take]; omega
      have hcop : ∀ j, j < Nat.min (s.extract (k * 16) s.size).size 16 → (wr.drew.cell? ⟨w.heap.size, k * 16 + j, none⟩).isSome = true ∧ wr.drew.frozen? ⟨w.heap.size, k * 16 + j, none⟩ = false := fun j hj => by
        have := HOR.out.drew.room (k * 16) 16 (by omega) j (Nat.lt_of_lt_of_le hj (Nat.min_le_right _ _))
        rwa [Nat.zero_add] at this
      have hdone := HOR.out.drew.copied (t := (s.data.toList.drop (k * 16)).take 16) (k * 16) (by rw [HLEN.out]; omega)
      rw [Nat.zero_add, ← HSUCC.out k hlt] at hdone
      have HT := Lib.hid ht
      have HC := Lib.hid hcop
      have HD := Lib.hid hdone
      clear ht hcop hdone htl
      go_wp2_with fail
      go_region_law (refine step_copy_str rfl (.tmp 16) (.tmp 20) 50 9 rfl 5 Try.underlying50 (by kernel_rfl) w.heap.size (k * 16) 16 16 (by kernel_rfl) (s.extract (k * 16) s.size) (by kernel_rfl) HC.out ?_)
      all_goals
        rw [HT.out]
        go_wp2_with fail
        go_roundw
        case rel =>
          exact ⟨k + 1, by omega, by go_num, HBR.out.drew.grown (setCells_grown _ _ _ _) HBR.out.size (fun _ h => by cases h; exact Nat.le_refl _), HD.out⟩
        case measure => simp [intOf]; omega
    · obtain rfl : k = n := by omega
      have ho := HOR.out
      rw [HALL.out] at ho
      have HO := Lib.hid ho
      clear ho
      go_wp2_with fail
      go_ret
      exact ⟨_, rfl, HO.out, HBR.out⟩
end Go.Proofs.Ytfehckdcjgmcpaa
