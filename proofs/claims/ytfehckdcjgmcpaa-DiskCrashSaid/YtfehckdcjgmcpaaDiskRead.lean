/- The walks of disk.Read and disk.Flush. -/
import Derived.Test.YtfehckdcjgmcpaaDiskCheck
import Derived.Test.YtfehckdcjgmcpaaDiskSeen
import Derived.Test.YtfehckdcjgmcpaaDiskSame
namespace Go.Proofs.Ytfehckdcjgmcpaa
open Go.RowKit

set_option maxRecDepth 1000000 in
set_option maxHeartbeats 1000000 in
theorem read_any (d : Gw.Disk.Disk) (hsz : -9223372036854775808 ≤ d.size ∧ d.size ≤ 9223372036854775807) (hl : d.loose.length ≤ maxLen) (sl : Value) (at_ n : Int) (ha : -9223372036854775808 ≤ at_ ∧ at_ ≤ 9223372036854775807) (hn : -9223372036854775808 ≤ n ∧ n ≤ 9223372036854775807) (w : World) (hp : PatchesAt w sl d.loose) :
    Calls Try.prog 14 #[diskV d sl, .int .i64 at_, .int .i64 n] w fun e w' => e = .returned (.tuple #[.string ⟨(Gw.Disk.read d at_ n).toArray⟩, .int .i64 (Gw.Disk.readErr d at_ n : Nat)]) ∧ Below w.heap.size w w' := by
  have H := Lib.hid (check_any d hsz hl sl)
  by_cases hm : Gw.Disk.mayRead d at_ n = true
  · have hR : Gw.Disk.read d at_ n = Gw.Disk.seen d at_.toNat n.toNat := by simp [Gw.Disk.read, hm]
    have hE : Gw.Disk.readErr d at_ n = 0 := by simp [Gw.Disk.readErr, hm]
    rw [hR, hE]
    unfold Gw.Disk.mayRead at hm
    simp only [Bool.and_eq_true, decide_eq_true_eq] at hm
    obtain ⟨hc, h0, h1, h2⟩ := hm
    have hspec := Gw.Disk.check_spec hc
    rw [hc] at H
    obtain ⟨A, rfl⟩ := Int.eq_ofNat_of_zero_le h0
    obtain ⟨N, rfl⟩ := Int.eq_ofNat_of_zero_le h1
    rw [Int.toNat_natCast, Int.toNat_natCast]
    have hL := Gw.Disk.seen_length d hc A N h2
    have H2 := Lib.hid (fun w' hp' => seen_any d hc hl sl A N (by omega) w' hp')
    obtain ⟨size, firm, ps⟩ := d
    unfold diskV at H H2 ⊢
    simp only at hp hl hsz hspec h2 H H2 ⊢
    have hs1 := hspec.2.1
    clear hspec hE hR
    generalize Gw.Disk.seen ⟨size, firm, ps⟩ A N = L at *
    have hb0 := (Below.refl w.heap.size w).new (.cells #[.int .i64 size, .string firm, sl] 24)
    have hp0 := hp.below hb0 (Nat.le_refl _)
    have H1 := Lib.hid (H.out _ hp0)
    have e0 : decide ((A : Int) < 0) = false := decide_eq_false (by omega)
    have e1 : decide ((N : Int) < 0) = false := decide_eq_false (by omega)
    have e2 : decide (size - (A : Int) < (N : Int)) = false := decide_eq_false (by omega)
    clear H
    go_enter Try.func14, Try.ntmps14
    go_wp2_with fail
    refine (H1.out).mono ?_
    rintro e w1 ⟨rfl, hb1⟩
    have HP1 := Lib.hid (hp0.below hb1 (Nat.le_refl _))
    rw [World.size_alloc] at hb1
    have l0 : w.heap.size < w.heap.size + 1 := Nat.lt_succ_self _
    have c00 := hb1.cell (p := ⟨w.heap.size, 0, none⟩) l0
    have c01 := hb1.cell (p := ⟨w.heap.size, 1, none⟩) l0
    have c02 := hb1.cell (p := ⟨w.heap.size, 2, none⟩) l0
    simp at c00 c01 c02
    have HB := Lib.hid (hb0.trans (hb1.mono (Nat.le_succ _)))
    clear hb0 hb1 hp0
    have H3 := Lib.hid (H2.out w1 HP1.out)
    clear H2
    go_wp2_with fail
    refine (H3.out).mono ?_
    rintro e w2 ⟨rfl, hb2⟩
    have HB2 := Lib.hid (HB.out.trans (hb2.mono HB.out.size))
    clear hb2
    go_wp2_with fail
    go_ret2
    exact ⟨rfl, HB2.out⟩
  · have hR : Gw.Disk.read d at_ n = [] := by simp [Gw.Disk.read, hm]
    have hE : Gw.Disk.readErr d at_ n = 121 := by simp [Gw.Disk.readErr, hm]
    rw [hR, hE]
    by_cases hc : Gw.Disk.check d = true
    · have hspec := Gw.Disk.check_spec hc
      rw [hc] at H
      obtain ⟨size, firm, ps⟩ := d
      unfold diskV at H ⊢
      simp only at hp hl hsz hspec H ⊢
      have hs0 := hspec.1
      have hs1 := hspec.2.1
      clear hspec hE hR
      by_cases h0 : 0 ≤ at_
      · by_cases h1 : 0 ≤ n
        · have h2 : ¬ n ≤ size - at_ := fun h2 => hm (by simp [Gw.Disk.mayRead, hc, h0, h1, h2])
          clear hm hc
          have hb0 := (Below.refl w.heap.size w).new (.cells #[.int .i64 size, .string firm, sl] 24)
          have hp0 := hp.below hb0 (Nat.le_refl _)
          have H1 := Lib.hid (H.out _ hp0)
          have e0 : decide (at_ < 0) = false := decide_eq_false (by omega)
          have e1 : decide (n < 0) = false := decide_eq_false (by omega)
          have e2 : decide (size - at_ < n) = true := decide_eq_true (by omega)
          clear H
          go_enter Try.func14, Try.ntmps14
          go_wp2_with fail
          refine (H1.out).mono ?_
          rintro e w1 ⟨rfl, hb1⟩
          rw [World.size_alloc] at hb1
          have l0 : w.heap.size < w.heap.size + 1 := Nat.lt_succ_self _
          have c00 := hb1.cell (p := ⟨w.heap.size, 0, none⟩) l0
          have c01 := hb1.cell (p := ⟨w.heap.size, 1, none⟩) l0
          have c02 := hb1.cell (p := ⟨w.heap.size, 2, none⟩) l0
          simp at c00 c01 c02
          have HB := Lib.hid (hb0.trans (hb1.mono (Nat.le_succ _)))
          clear hb0 hb1 hp0
          go_wp2_with fail
          go_ret2
          exact ⟨rfl, HB.out⟩
        · clear hm hc
          have hb0 := (Below.refl w.heap.size w).new (.cells #[.int .i64 size, .string firm, sl] 24)
          have hp0 := hp.below hb0 (Nat.le_refl _)
          have H1 := Lib.hid (H.out _ hp0)
          have e0 : decide (at_ < 0) = false := decide_eq_false (by omega)
          have e1 : decide (n < 0) = true := decide_eq_true (by omega)
          clear H
          go_enter Try.func14, Try.ntmps14
          go_wp2_with fail
          refine (H1.out).mono ?_
          rintro e w1 ⟨rfl, hb1⟩
          rw [World.size_alloc] at hb1
          have l0 : w.heap.size < w.heap.size + 1 := Nat.lt_succ_self _
          have c00 := hb1.cell (p := ⟨w.heap.size, 0, none⟩) l0
          have c01 := hb1.cell (p := ⟨w.heap.size, 1, none⟩) l0
          have c02 := hb1.cell (p := ⟨w.heap.size, 2, none⟩) l0
          simp at c00 c01 c02
          have HB := Lib.hid (hb0.trans (hb1.mono (Nat.le_succ _)))
          clear hb0 hb1 hp0
          go_wp2_with fail
          go_ret2
          exact ⟨rfl, HB.out⟩
      · clear hm hc
        have hb0 := (Below.refl w.heap.size w).new (.cells #[.int .i64 size, .string firm, sl] 24)
        have hp0 := hp.below hb0 (Nat.le_refl _)
        have H1 := Lib.hid (H.out _ hp0)
        have e0 : decide (at_ < 0) = true := decide_eq_true (by omega)
        clear H
        go_enter Try.func14, Try.ntmps14
        go_wp2_with fail
        refine (H1.out).mono ?_
        rintro e w1 ⟨rfl, hb1⟩
        rw [World.size_alloc] at hb1
        have l0 : w.heap.size < w.heap.size + 1 := Nat.lt_succ_self _
        have c00 := hb1.cell (p := ⟨w.heap.size, 0, none⟩) l0
        have c01 := hb1.cell (p := ⟨w.heap.size, 1, none⟩) l0
        have c02 := hb1.cell (p := ⟨w.heap.size, 2, none⟩) l0
        simp at c00 c01 c02
        have HB := Lib.hid (hb0.trans (hb1.mono (Nat.le_succ _)))
        clear hb0 hb1 hp0
        go_wp2_with fail
        go_ret2
        exact ⟨rfl, HB.out⟩
    · have hcf : Gw.Disk.check d = false := Bool.eq_false_iff.mpr hc
      rw [hcf] at H
      obtain ⟨size, firm, ps⟩ := d
      unfold diskV at H ⊢
      simp only at hp H ⊢
      clear hm hR hE hc hcf
      have hb0 := (Below.refl w.heap.size w).new (.cells #[.int .i64 size, .string firm, sl] 24)
      have hp0 := hp.below hb0 (Nat.le_refl _)
      have H1 := Lib.hid (H.out _ hp0)
      clear H
      go_enter Try.func14, Try.ntmps14
      go_wp2_with fail
      refine (H1.out).mono ?_
      rintro e w1 ⟨rfl, hb1⟩
      rw [World.size_alloc] at hb1
      have l0 : w.heap.size < w.heap.size + 1 := Nat.lt_succ_self _
      have c00 := hb1.cell (p := ⟨w.heap.size, 0, none⟩) l0
      have c01 := hb1.cell (p := ⟨w.heap.size, 1, none⟩) l0
      have c02 := hb1.cell (p := ⟨w.heap.size, 2, none⟩) l0
      simp at c00 c01 c02
      have HB := Lib.hid (hb0.trans (hb1.mono (Nat.le_succ _)))
      clear hb0 hb1 hp0
      go_wp2_with fail
      go_ret2
      exact ⟨rfl, HB.out⟩

set_option maxRecDepth 1000000 in
set_option maxHeartbeats 1000000 in
theorem flush_any (d : Gw.Disk.Disk) (hsz : -9223372036854775808 ≤ d.size ∧ d.size ≤ 9223372036854775807) (hl : d.loose.length ≤ 1000000000) (sl : Value) (w : World) (hp : PatchesAt w sl d.loose) :
    Calls Try.prog 19 #[diskV d sl] w (SaidDisk (Gw.Disk.flush d) w) := by
  have H := Lib.hid (check_any d hsz (by unfold maxLen; omega) sl)
  by_cases hc : Gw.Disk.check d = true
  · rw [show Gw.Disk.flush d = ⟨d.size, ⟨(Gw.Disk.seen d 0 d.size.toNat).toArray⟩, []⟩ from by simp [Gw.Disk.flush, hc]]
    have hspec := Gw.Disk.check_spec hc
    rw [hc] at H
    obtain ⟨size, firm, ps⟩ := d
    simp only at hp hl hsz hspec ⊢
    obtain ⟨N, rfl⟩ := Int.eq_ofNat_of_zero_le hspec.1
    have hs1 := hspec.2.1
    clear hspec
    have hL := Gw.Disk.seen_length ⟨(N : Int), firm, ps⟩ hc 0 N (by simp only; omega)
    have H2 := Lib.hid (fun w' hp' => seen_any ⟨(N : Int), firm, ps⟩ hc (by unfold maxLen; simp only; omega) sl 0 N (by simp only; omega) w' hp')
    rw [Int.toNat_natCast]
    unfold diskV at H H2 ⊢
    simp only at H H2 ⊢
    generalize Gw.Disk.seen ⟨(N : Int), firm, ps⟩ 0 N = L at *
    have hb0 := ((Below.refl w.heap.size w).new (.cells #[.int .i64 (N : Int), .string firm, sl] 24)).alloc (by simp) (.cells #[.int .i64 0, .string ⟨#[]⟩, .slice none 0 0] 24)
    have hp0 := hp.below hb0 (Nat.le_refl _)
    have H1 := Lib.hid (H.out _ hp0)
    clear H
    go_enter Try.func19, Try.ntmps19
    go_wp2_with fail
    refine (H1.out).mono ?_
    rintro e w1 ⟨rfl, hb1⟩
    have HP1 := Lib.hid (hp0.below hb1 (Nat.le_refl _))
    rw [World.size_alloc, World.size_alloc] at hb1
    have H3 := Lib.hid (H2.out w1.drew (HP1.out.below ((Below.refl w1.heap.size w1).drew) (Nat.le_refl _)))
    have HB := Lib.hid hb1
    have HB0 := Lib.hid hb0
    have l0 : w.heap.size < w.heap.size + 1 + 1 := by omega
    have l1 : w.heap.size + 1 < w.heap.size + 1 + 1 := by omega
    have c00 := hb1.cell (p := ⟨w.heap.size, 0, none⟩) l0
    have c01 := hb1.cell (p := ⟨w.heap.size, 1, none⟩) l0
    have c02 := hb1.cell (p := ⟨w.heap.size, 2, none⟩) l0
    have c10 := hb1.cell (p := ⟨w.heap.size + 1, 0, none⟩) l1
    have c11 := hb1.cell (p := ⟨w.heap.size + 1, 1, none⟩) l1
    have c12 := hb1.cell (p := ⟨w.heap.size + 1, 2, none⟩) l1
    have f10 := hb1.frozen (p := ⟨w.heap.size + 1, 0, none⟩) l1
    have f11 := hb1.frozen (p := ⟨w.heap.size + 1, 1, none⟩) l1
    have f12 := hb1.frozen (p := ⟨w.heap.size + 1, 2, none⟩) l1
    simp at c00 c01 c02 c10 c11 c12 f10 f11 f12
    have hz1 : w.heap.size + 1 + 1 ≤ w1.drew.heap.size := by
      have h := hb1.size
      rw [World.size_alloc, World.size_alloc] at h
      exact h
    clear hb0 hb1 hp0 H2 l0 l1
    have l0 : w.heap.size < w1.drew.heap.size := by omega
    have l1 : w.heap.size + 1 < w1.drew.heap.size := by omega
    go_wp2_with fail
    go_region_with (refine (H3.out).mono ?_; rintro e w2 ⟨rfl, hb2⟩; have d00 := (hb2.cell (p := ⟨w.heap.size, 0, none⟩) l0).trans c00; have d01 := (hb2.cell (p := ⟨w.heap.size, 1, none⟩) l0).trans c01; have d02 := (hb2.cell (p := ⟨w.heap.size, 2, none⟩) l0).trans c02; have d10 := (hb2.cell (p := ⟨w.heap.size + 1, 0, none⟩) l1).trans c10; have d11 := (hb2.cell (p := ⟨w.heap.size + 1, 1, none⟩) l1).trans c11; have d12 := (hb2.cell (p := ⟨w.heap.size + 1, 2, none⟩) l1).trans c12; have g10 := (hb2.frozen (p := ⟨w.heap.size + 1, 0, none⟩) l1).trans f10; have g11 := (hb2.frozen (p := ⟨w.heap.size + 1, 1, none⟩) l1).trans f11; have g12 := (hb2.frozen (p := ⟨w.heap.size + 1, 2, none⟩) l1).trans f12; have HB2 := Lib.hid hb2; clear hb2)
    all_goals
      go_wp2_with fail
      refine bodyPost_ret (v := .agg #[.int .i64 (N : Int), .string ⟨L.toArray⟩, .slice none 0 0]) (by simp [results, Try.results19, go_sem, d10, d11, d12]) rfl ⟨.slice none 0 0, rfl, Own.nil _ _ _, ?_⟩
      have hb := (HB0.out.trans (HB.out.mono (by omega))).drew.trans (HB2.out.mono (by omega))
      exact ((hb.setCell (p := ⟨w.heap.size + 1, 0, none⟩) (Nat.le_succ _) _).setCell (p := ⟨w.heap.size + 1, 1, none⟩) (Nat.le_succ _) _).setCell (p := ⟨w.heap.size + 1, 2, none⟩) (Nat.le_succ _) _
  · have hcf : Gw.Disk.check d = false := Bool.eq_false_iff.mpr hc
    rw [show Gw.Disk.flush d = d from by simp [Gw.Disk.flush, hcf]]
    rw [hcf] at H
    have H2 := Lib.hid (fun w' hp' => same_any d hl sl w' hp')
    obtain ⟨size, firm, ps⟩ := d
    unfold SaidDisk diskV at H2 ⊢
    unfold diskV at H
    simp only at hp hl hsz H H2 ⊢
    have hb0 := ((Below.refl w.heap.size w).new (.cells #[.int .i64 size, .string firm, sl] 24)).alloc (by simp) (.cells #[.int .i64 0, .string ⟨#[]⟩, .slice none 0 0] 24)
    have hp0 := hp.below hb0 (Nat.le_refl _)
    have H1 := Lib.hid (H.out _ hp0)
    clear H hc hcf
    go_enter Try.func19, Try.ntmps19
    go_wp2_with fail
    refine (H1.out).mono ?_
    rintro e w1 ⟨rfl, hb1⟩
    have HP1 := Lib.hid (hp0.below hb1 (Nat.le_refl _))
    rw [World.size_alloc, World.size_alloc] at hb1
    have H3 := Lib.hid (H2.out w1 HP1.out)
    have l0 : w.heap.size < w.heap.size + 1 + 1 := by omega
    have l1 : w.heap.size + 1 < w.heap.size + 1 + 1 := by omega
    have c00 := hb1.cell (p := ⟨w.heap.size, 0, none⟩) l0
    have c01 := hb1.cell (p := ⟨w.heap.size, 1, none⟩) l0
    have c02 := hb1.cell (p := ⟨w.heap.size, 2, none⟩) l0
    have c10 := hb1.cell (p := ⟨w.heap.size + 1, 0, none⟩) l1
    have c11 := hb1.cell (p := ⟨w.heap.size + 1, 1, none⟩) l1
    have c12 := hb1.cell (p := ⟨w.heap.size + 1, 2, none⟩) l1
    have f10 := hb1.frozen (p := ⟨w.heap.size + 1, 0, none⟩) l1
    have f11 := hb1.frozen (p := ⟨w.heap.size + 1, 1, none⟩) l1
    have f12 := hb1.frozen (p := ⟨w.heap.size + 1, 2, none⟩) l1
    simp at c00 c01 c02 c10 c11 c12 f10 f11 f12
    have hz1 : w.heap.size + 1 + 1 ≤ w1.heap.size := by
      have h := hb1.size
      rw [World.size_alloc, World.size_alloc] at h
      exact h
    have HB := Lib.hid (hb0.trans (hb1.mono (by omega)))
    clear hb0 hb1 hp0 H2 l0 l1
    have l1 : w.heap.size + 1 < w1.heap.size := by omega
    go_wp2_with fail
    refine (H3.out).mono ?_
    rintro e w2 ⟨sl2, rfl, ho2, hb2⟩
    have d10 := (hb2.cell (p := ⟨w.heap.size + 1, 0, none⟩) l1).trans c10
    have d11 := (hb2.cell (p := ⟨w.heap.size + 1, 1, none⟩) l1).trans c11
    have d12 := (hb2.cell (p := ⟨w.heap.size + 1, 2, none⟩) l1).trans c12
    have g10 := (hb2.frozen (p := ⟨w.heap.size + 1, 0, none⟩) l1).trans f10
    have g11 := (hb2.frozen (p := ⟨w.heap.size + 1, 1, none⟩) l1).trans f11
    have g12 := (hb2.frozen (p := ⟨w.heap.size + 1, 2, none⟩) l1).trans f12
    obtain ⟨ao2, cap2, rfl⟩ := ho2.form
    have HO := Lib.hid ho2
    have HB2 := Lib.hid (HB.out.trans (hb2.mono HB.out.size))
    clear hb2 ho2
    go_wp2_with fail
    refine bodyPost_ret (v := .agg #[.int .i64 size, .string firm, .slice ao2 ps.length cap2]) (by simp [results, Try.results19, go_sem, d10, d11, d12]) rfl ⟨.slice ao2 ps.length cap2, rfl, ?_, ?_⟩
    · exact (((HO.out.setBelow _ _ l1).setBelow _ _ l1).setBelow _ _ l1).mono (by omega)
    · exact ((HB2.out.setCell (p := ⟨w.heap.size + 1, 0, none⟩) (Nat.le_succ _) _).setCell (p := ⟨w.heap.size + 1, 1, none⟩) (Nat.le_succ _) _).setCell (p := ⟨w.heap.size + 1, 2, none⟩) (Nat.le_succ _) _
end Go.Proofs.Ytfehckdcjgmcpaa
