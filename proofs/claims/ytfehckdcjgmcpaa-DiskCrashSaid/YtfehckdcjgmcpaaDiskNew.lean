/- The walk of disk.New. -/
import Derived.Test.YtfehckdcjgmcpaaDiskMem
import Derived.Test.YtfehckdcjgmcpaaMake
import Derived.Lib.MinMax
namespace Go.Proofs.Ytfehckdcjgmcpaa
open Go.RowKit

set_option maxRecDepth 1000000 in
set_option maxHeartbeats 400000 in
theorem new_any (size : Int) (hr : -9223372036854775808 ≤ size ∧ size ≤ 9223372036854775807) (w : World) :
    Calls Try.prog 23 #[.int .i64 size] w fun e w' => e = .returned (diskV (Gw.Disk.new size) (.slice none 0 0)) ∧ Below w.heap.size w w' := by
  have hn : ∃ n : Nat, min (max size 0) 65536 = (n : Int) ∧ n ≤ 65536 := ⟨(min (max size 0) 65536).toNat, by omega, by omega⟩
  unfold Gw.Disk.new
  unfold diskV
  obtain ⟨n, hmn, hn⟩ := hn
  simp only [hmn, Int.toNat_natCast]
  have hm := make_own (P := Try.prog) (w.alloc (.cells #[.int .i64 0, .string ⟨#[]⟩, .slice none 0 0] 24)) 50 5 (.int .u8 0) 1 1 Try.underlying50 (by kernel_rfl) .i64 .i64 (n * 16) (n * 16) (Nat.le_refl _) (by omega) (by unfold maxLen; omega) (w.heap.size + 1) (by simp)
  obtain ⟨hm1, hm2⟩ := hm
  rw [Nat.mul_one, made_bytes, World.size_alloc] at hm2
  rw [Nat.mul_one, World.size_alloc, show ((n * 16 : Nat) : Int) = (n : Int) * 16 from rfl] at hm1
  rw [List.take_of_length_le (by rw [cellsOf_length, List.length_replicate]; exact Nat.le_refl _)] at hm2
  have hcv := string_conv_own (P := Try.prog) _ 50 9 5 _ _ _ _ Try.underlying50 Try.underlying5 Try.underlying9 hm2
  clear hm2
  generalize madeCells (Value.int .u8 0).cells (n * 16) = Z at *
  go_enter Try.func23, Try.ntmps23
  go_wp2_with fail
  exact bodyPost_ret (v := .agg #[.int .i64 (n : Int), .string ⟨(List.replicate (n * 16) 0).toArray⟩, .slice none 0 0]) (by simp [results, Try.results23, go_sem]) rfl ⟨rfl, ((Below.refl _ _).new _).alloc (by simp) _⟩
end Go.Proofs.Ytfehckdcjgmcpaa
