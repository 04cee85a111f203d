/- The walk of disk.Write. -/
import Derived.Test.YtfehckdcjgmcpaaDiskRead
import Derived.Test.YtfehckdcjgmcpaaDiskCut
import Derived.Test.YtfehckdcjgmcpaaDiskWrFn
namespace Go.Proofs.Ytfehckdcjgmcpaa
open Go.RowKit

set_option maxRecDepth 1000000 in
set_option maxHeartbeats 1000000 in
/-- Where the place is below 0. -/
theorem write_bad (d : Gw.Disk.Disk) (hsz : -9223372036854775808 ≤ d.size ∧ d.size ≤ 9223372036854775807) (hl : d.loose.length ≤ 1000000000) (sl : Value) (at_ : Int) (s : ByteArray) (w : World) (hp : PatchesAt w sl d.loose) (hc : Gw.Disk.check d = true) (hn : at_ < 0) :
    Calls Try.prog 12 #[diskV d sl, .int .i64 at_, .string s] w (SaidDiskErr d 121 w) := by
  have H := Lib.hid (check_any d hsz (by unfold maxLen; omega) sl)
  rw [hc] at H
  have H2 := Lib.hid (fun w' hp' => same_any d hl sl w' hp')
  obtain ⟨size, firm, ps⟩ := d
  unfold SaidDisk diskV at H2
  unfold SaidDiskErr diskV
  unfold diskV at H
  simp only at hp hl hsz H H2 ⊢
  have hb0 := ((Below.refl w.heap.size w).new (.cells #[.int .i64 size, .string firm, sl] 24)).alloc (by simp) (.cells #[.int .i64 0, .string ⟨#[]⟩, .slice none 0 0] 24)
  have hp0 := hp.below hb0 (Nat.le_refl _)
  have H1 := Lib.hid (H.out _ hp0)
  have e0 : decide (at_ < 0) = true := decide_eq_true hn
  clear H hc
  go_enter Try.func12, Try.ntmps12
  go_wp2_with fail
  refine (H1.out).mono ?_
  rintro e w1 ⟨rfl, hb1⟩
  have HP1 := Lib.hid (hp0.below hb1 (Nat.le_refl _))
  rw [World.size_alloc, World.size_alloc] at hb1
  have H3 := Lib.hid (H2.out w1 HP1.out)
  have l0 : w.heap.size < w.heap.size + 1 + 1 := by omega
  have l1 : w.heap.size + 1 < w.heap.size + 1 + 1 := by omega
  have c00 := hb1.cell (p := ⟨w.heap.size, 0, none⟩) l0
  have c01 := hb1.cell (p := ⟨w.heap.size, 1, none⟩) l0
  have c02 := hb1.cell (p := ⟨w.heap.size, 2, none⟩) l0
  have c10 := hb1.cell (p := ⟨w.heap.size + 1, 0, none⟩) l1
  have c11 := hb1.cell (p := ⟨w.heap.size + 1, 1, none⟩) l1
  have c12 := hb1.cell (p := ⟨w.heap.size + 1, 2, none⟩) l1
  have f10 := hb1.frozen (p := ⟨w.heap.size + 1, 0, none⟩) l1
  have f11 := hb1.frozen (p := ⟨w.heap.size + 1, 1, none⟩) l1
  have f12 := hb1.frozen (p := ⟨w.heap.size + 1, 2, none⟩) l1
  simp at c00 c01 c02 c10 c11 c12 f10 f11 f12
  have hz1 : w.heap.size + 1 + 1 ≤ w1.heap.size := by
    have h := hb1.size
    rw [World.size_alloc, World.size_alloc] at h
    exact h
  have HB := Lib.hid (hb0.trans (hb1.mono (by omega)))
  clear hb0 hb1 hp0 H2 l0 l1
  have l1 : w.heap.size + 1 < w1.heap.size := by omega
  go_wp2_with fail
  refine (H3.out).mono ?_
  rintro e w2 ⟨sl2, rfl, ho2, hb2⟩
  have d10 := (hb2.cell (p := ⟨w.heap.size + 1, 0, none⟩) l1).trans c10
  have d11 := (hb2.cell (p := ⟨w.heap.size + 1, 1, none⟩) l1).trans c11
  have d12 := (hb2.cell (p := ⟨w.heap.size + 1, 2, none⟩) l1).trans c12
  have g10 := (hb2.frozen (p := ⟨w.heap.size + 1, 0, none⟩) l1).trans f10
  have g11 := (hb2.frozen (p := ⟨w.heap.size + 1, 1, none⟩) l1).trans f11
  have g12 := (hb2.frozen (p := ⟨w.heap.size + 1, 2, none⟩) l1).trans f12
  obtain ⟨ao2, cap2, rfl⟩ := ho2.form
  have HO := Lib.hid ho2
  have HB2 := Lib.hid (HB.out.trans (hb2.mono HB.out.size))
  clear hb2 ho2
  go_wp2_with fail
  refine bodyPost_ret (v := .tuple #[.agg #[.int .i64 size, .string firm, .slice ao2 ps.length cap2], .int .i64 121]) (by simp [results, Try.results12, go_sem, d10, d11, d12]) rfl ⟨.slice ao2 ps.length cap2, rfl, ?_, ?_⟩
  · exact (((HO.out.setBelow _ _ l1).setBelow _ _ l1).setBelow _ _ l1).mono (by omega)
  · exact ((HB2.out.setCell (p := ⟨w.heap.size + 1, 0, none⟩) (Nat.le_succ _) _).setCell (p := ⟨w.heap.size + 1, 1, none⟩) (Nat.le_succ _) _).setCell (p := ⟨w.heap.size + 1, 2, none⟩) (Nat.le_succ _) _
set_option maxRecDepth 1000000 in
set_option maxHeartbeats 1000000 in
/-- Where the disk is none. -/
theorem write_ill (d : Gw.Disk.Disk) (hsz : -9223372036854775808 ≤ d.size ∧ d.size ≤ 9223372036854775807) (hl : d.loose.length ≤ 1000000000) (sl : Value) (at_ : Int) (s : ByteArray) (w : World) (hp : PatchesAt w sl d.loose) (hc : Gw.Disk.check d = false) :
    Calls Try.prog 12 #[diskV d sl, .int .i64 at_, .string s] w (SaidDiskErr d 121 w) := by
  have H := Lib.hid (check_any d hsz (by unfold maxLen; omega) sl)
  rw [hc] at H
  have H2 := Lib.hid (fun w' hp' => same_any d hl sl w' hp')
  obtain ⟨size, firm, ps⟩ := d
  unfold SaidDisk diskV at H2
  unfold SaidDiskErr diskV
  unfold diskV at H
  simp only at hp hl hsz H H2 ⊢
  have hb0 := ((Below.refl w.heap.size w).new (.cells #[.int .i64 size, .string firm, sl] 24)).alloc (by simp) (.cells #[.int .i64 0, .string ⟨#[]⟩, .slice none 0 0] 24)
  have hp0 := hp.below hb0 (Nat.le_refl _)
  have H1 := Lib.hid (H.out _ hp0)
  clear H hc
  go_enter Try.func12, Try.ntmps12
  go_wp2_with fail
  refine (H1.out).mono ?_
  rintro e w1 ⟨rfl, hb1⟩
  have HP1 := Lib.hid (hp0.below hb1 (Nat.le_refl _))
  rw [World.size_alloc, World.size_alloc] at hb1
  have H3 := Lib.hid (H2.out w1 HP1.out)
  have l0 : w.heap.size < w.heap.size + 1 + 1 := by omega
  have l1 : w.heap.size + 1 < w.heap.size + 1 + 1 := by omega
  have c00 := hb1.cell (p := ⟨w.heap.size, 0, none⟩) l0
  have c01 := hb1.cell (p := ⟨w.heap.size, 1, none⟩) l0
  have c02 := hb1.cell (p := ⟨w.heap.size, 2, none⟩) l0
  have c10 := hb1.cell (p := ⟨w.heap.size + 1, 0, none⟩) l1
  have c11 := hb1.cell (p := ⟨w.heap.size + 1, 1, none⟩) l1
  have c12 := hb1.cell (p := ⟨w.heap.size + 1, 2, none⟩) l1
  have f10 := hb1.frozen (p := ⟨w.heap.size + 1, 0, none⟩) l1
  have f11 := hb1.frozen (p := ⟨w.heap.size + 1, 1, none⟩) l1
  have f12 := hb1.frozen (p := ⟨w.heap.size + 1, 2, none⟩) l1
  simp at c00 c01 c02 c10 c11 c12 f10 f11 f12
  have hz1 : w.heap.size + 1 + 1 ≤ w1.heap.size := by
    have h := hb1.size
    rw [World.size_alloc, World.size_alloc] at h
    exact h
  have HB := Lib.hid (hb0.trans (hb1.mono (by omega)))
  clear hb0 hb1 hp0 H2 l0 l1
  have l1 : w.heap.size + 1 < w1.heap.size := by omega
  go_wp2_with fail
  refine (H3.out).mono ?_
  rintro e w2 ⟨sl2, rfl, ho2, hb2⟩
  have d10 := (hb2.cell (p := ⟨w.heap.size + 1, 0, none⟩) l1).trans c10
  have d11 := (hb2.cell (p := ⟨w.heap.size + 1, 1, none⟩) l1).trans c11
  have d12 := (hb2.cell (p := ⟨w.heap.size + 1, 2, none⟩) l1).trans c12
  have g10 := (hb2.frozen (p := ⟨w.heap.size + 1, 0, none⟩) l1).trans f10
  have g11 := (hb2.frozen (p := ⟨w.heap.size + 1, 1, none⟩) l1).trans f11
  have g12 := (hb2.frozen (p := ⟨w.heap.size + 1, 2, none⟩) l1).trans f12
  obtain ⟨ao2, cap2, rfl⟩ := ho2.form
  have HO := Lib.hid ho2
  have HB2 := Lib.hid (HB.out.trans (hb2.mono HB.out.size))
  clear hb2 ho2
  go_wp2_with fail
  refine bodyPost_ret (v := .tuple #[.agg #[.int .i64 size, .string firm, .slice ao2 ps.length cap2], .int .i64 121]) (by simp [results, Try.results12, go_sem, d10, d11, d12]) rfl ⟨.slice ao2 ps.length cap2, rfl, ?_, ?_⟩
  · exact (((HO.out.setBelow _ _ l1).setBelow _ _ l1).setBelow _ _ l1).mono (by omega)
  · exact ((HB2.out.setCell (p := ⟨w.heap.size + 1, 0, none⟩) (Nat.le_succ _) _).setCell (p := ⟨w.heap.size + 1, 1, none⟩) (Nat.le_succ _) _).setCell (p := ⟨w.heap.size + 1, 2, none⟩) (Nat.le_succ _) _
set_option maxRecDepth 1000000 in
set_option maxHeartbeats 1000000 in
/-- Where there is no room. -/
theorem write_full (d : Gw.Disk.Disk) (hsz : -9223372036854775808 ≤ d.size ∧ d.size ≤ 9223372036854775807) (hl : d.loose.length ≤ 1000000000) (sl : Value) (at_ : Int) (s : ByteArray) (w : World) (hp : PatchesAt w sl d.loose) (hc : Gw.Disk.check d = true) (hn : ¬ at_ < 0) (hs : s.size ≤ 1000000) (hf : d.size - (Gw.Disk.manyOf s : Int) < at_) :
    Calls Try.prog 12 #[diskV d sl, .int .i64 at_, .string s] w (SaidDiskErr d 120 w) := by
  have H := Lib.hid (check_any d hsz (by unfold maxLen; omega) sl)
  have hspec := Gw.Disk.check_spec hc
  rw [hc] at H
  have H2 := Lib.hid (fun w' hp' => same_any d hl sl w' hp')
  obtain ⟨size, firm, ps⟩ := d
  unfold SaidDisk diskV at H2
  unfold SaidDiskErr diskV
  unfold diskV at H
  simp only at hp hl hsz H H2 hspec hf ⊢
  obtain ⟨hs0, hs1, _, _⟩ := hspec
  have hb0 := ((Below.refl w.heap.size w).new (.cells #[.int .i64 size, .string firm, sl] 24)).alloc (by simp) (.cells #[.int .i64 0, .string ⟨#[]⟩, .slice none 0 0] 24)
  have hp0 := hp.below hb0 (Nat.le_refl _)
  have H1 := Lib.hid (H.out _ hp0)
  have e0 : decide (at_ < 0) = false := decide_eq_false hn
  have hnm : Gw.Disk.manyOf s ≤ 1000000 := by unfold Gw.Disk.manyOf; omega
  have hw1 : IntKind.i64.wrap (size - (Gw.Disk.manyOf s : Int)) = size - (Gw.Disk.manyOf s : Int) := IntWalk.i64_in _ (by omega)
  have e1 : decide (size - (Gw.Disk.manyOf s : Int) < at_) = true := decide_eq_true hf
  have HM : Hid (∀ w', Calls Try.prog 26 #[.string s] w' fun e w'' => e = .returned (.int .i64 (Gw.Disk.manyOf s : Nat)) ∧ w' = w'') := Lib.hid (fun w' => many_any s (by omega) w')
  clear H hc
  go_enter Try.func12, Try.ntmps12
  go_wp2_with fail
  refine (H1.out).mono ?_
  rintro e w1 ⟨rfl, hb1⟩
  have HP1 := Lib.hid (hp0.below hb1.drew (Nat.le_refl _))
  rw [World.size_alloc, World.size_alloc] at hb1
  have H3 := Lib.hid (H2.out w1.drew HP1.out)
  have l0 : w.heap.size < w.heap.size + 1 + 1 := by omega
  have l1 : w.heap.size + 1 < w.heap.size + 1 + 1 := by omega
  have c00 := hb1.cell (p := ⟨w.heap.size, 0, none⟩) l0
  have c01 := hb1.cell (p := ⟨w.heap.size, 1, none⟩) l0
  have c02 := hb1.cell (p := ⟨w.heap.size, 2, none⟩) l0
  have c10 := hb1.cell (p := ⟨w.heap.size + 1, 0, none⟩) l1
  have c11 := hb1.cell (p := ⟨w.heap.size + 1, 1, none⟩) l1
  have c12 := hb1.cell (p := ⟨w.heap.size + 1, 2, none⟩) l1
  have f10 := hb1.frozen (p := ⟨w.heap.size + 1, 0, none⟩) l1
  have f11 := hb1.frozen (p := ⟨w.heap.size + 1, 1, none⟩) l1
  have f12 := hb1.frozen (p := ⟨w.heap.size + 1, 2, none⟩) l1
  simp at c00 c01 c02 c10 c11 c12 f10 f11 f12
  have hz1 : w.heap.size + 1 + 1 ≤ w1.heap.size := by
    have h := hb1.size
    rw [World.size_alloc, World.size_alloc] at h
    exact h
  have HB := Lib.hid ((hb0.trans (hb1.mono (by omega))).drew)
  clear hb0 hb1 hp0 H2 l0 l1
  have l1 : w.heap.size + 1 < w1.heap.size := by omega
  go_wp2_with fail
  go_region_with (refine (HM.out _).mono ?_; rintro e w2 ⟨rfl, rfl⟩)
  all_goals
    go_wp2_with fail
    refine (H3.out).mono ?_
    rintro e w2 ⟨sl2, rfl, ho2, hb2⟩
    have d10 := (hb2.cell (p := ⟨w.heap.size + 1, 0, none⟩) l1).trans c10
    have d11 := (hb2.cell (p := ⟨w.heap.size + 1, 1, none⟩) l1).trans c11
    have d12 := (hb2.cell (p := ⟨w.heap.size + 1, 2, none⟩) l1).trans c12
    have g10 := (hb2.frozen (p := ⟨w.heap.size + 1, 0, none⟩) l1).trans f10
    have g11 := (hb2.frozen (p := ⟨w.heap.size + 1, 1, none⟩) l1).trans f11
    have g12 := (hb2.frozen (p := ⟨w.heap.size + 1, 2, none⟩) l1).trans f12
    obtain ⟨ao2, cap2, rfl⟩ := ho2.form
    have HO := Lib.hid ho2
    have HB2 := Lib.hid (HB.out.trans (hb2.mono HB.out.size))
    clear hb2 ho2
    go_wp2_with fail
    refine bodyPost_ret (v := .tuple #[.agg #[.int .i64 size, .string firm, .slice ao2 ps.length cap2], .int .i64 120]) (by simp [results, Try.results12, go_sem, d10, d11, d12]) rfl ⟨.slice ao2 ps.length cap2, rfl, ?_, ?_⟩
    · exact (((HO.out.setBelow _ _ l1).setBelow _ _ l1).setBelow _ _ l1).mono (Nat.le_of_lt (Nat.lt_of_succ_lt l1))
    · exact ((HB2.out.setCell (p := ⟨w.heap.size + 1, 0, none⟩) (Nat.le_succ _) _).setCell (p := ⟨w.heap.size + 1, 1, none⟩) (Nat.le_succ _) _).setCell (p := ⟨w.heap.size + 1, 2, none⟩) (Nat.le_succ _) _
end Go.Proofs.Ytfehckdcjgmcpaa
