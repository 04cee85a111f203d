/- disk.Write, all ends together. -/
import Derived.Test.YtfehckdcjgmcpaaDiskWrite
import Derived.Test.YtfehckdcjgmcpaaDiskPut
namespace Go.Proofs.Ytfehckdcjgmcpaa
open Go.RowKit

theorem write_any (d : Gw.Disk.Disk) (hsz : -9223372036854775808 ≤ d.size ∧ d.size ≤ 9223372036854775807) (hl : d.loose.length ≤ 1000000000) (sl : Value) (at_ : Int) (s : ByteArray) (hs : s.size ≤ 1000000) (w : World) (hp : PatchesAt w sl d.loose) :
    Calls Try.prog 12 #[diskV d sl, .int .i64 at_, .string s] w (SaidDiskErr (Gw.Disk.write d at_ s) (Gw.Disk.writeErr d at_ s) w) := by
  by_cases hc : Gw.Disk.check d = true
  · by_cases hn : at_ < 0
    · have h1 : Gw.Disk.writeErr d at_ s = 121 := by simp [Gw.Disk.writeErr, hn]
      have h2 : Gw.Disk.write d at_ s = d := by simp [Gw.Disk.write, h1]
      rw [h1, h2]
      exact write_bad d hsz hl sl at_ s w hp hc hn
    · by_cases hf : d.size - (Gw.Disk.manyOf s : Int) < at_
      · have h1 : Gw.Disk.writeErr d at_ s = 120 := by simp [Gw.Disk.writeErr, hn, hc, hf]
        have h2 : Gw.Disk.write d at_ s = d := by simp [Gw.Disk.write, h1]
        rw [h1, h2]
        exact write_full d hsz hl sl at_ s w hp hc hn hs hf
      · have h1 : Gw.Disk.writeErr d at_ s = 0 := by simp [Gw.Disk.writeErr, hn, hc, hf]
        have h2 : Gw.Disk.write d at_ s = ⟨d.size, d.firm, d.loose ++ Gw.Disk.wrote at_ s (Gw.Disk.manyOf s)⟩ := by simp [Gw.Disk.write, h1]
        rw [h1, h2]
        exact write_ok d hsz hl sl at_ s w hp hc hn hs hf
  · have hcf : Gw.Disk.check d = false := Bool.eq_false_iff.mpr hc
    have h1 : Gw.Disk.writeErr d at_ s = 121 := by simp [Gw.Disk.writeErr, hcf]
    have h2 : Gw.Disk.write d at_ s = d := by simp [Gw.Disk.write, h1]
    rw [h1, h2]
    exact write_ill d hsz hl sl at_ s w hp hcf
end Go.Proofs.Ytfehckdcjgmcpaa
