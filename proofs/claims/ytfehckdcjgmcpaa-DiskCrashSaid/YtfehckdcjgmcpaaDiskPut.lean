/- The walk of disk.Write, where there is room. -/
import Derived.Test.YtfehckdcjgmcpaaDiskRead
import Derived.Test.YtfehckdcjgmcpaaDiskCut
import Derived.Test.YtfehckdcjgmcpaaDiskWrFn
namespace Go.Proofs.Ytfehckdcjgmcpaa
open Go.RowKit

theorem bytes_new (w : World) (l : List UInt8) (t : TypeId) : BytesAt (w.alloc (.cells (cellsOf l).toArray t)) w.heap.size 0 l := by
  intro j hj
  rw [Nat.zero_add]
  have hjl : j < (cellsOf l).length := by rwa [cellsOf_length]
  refine ⟨new_cell rfl ?_, ?_⟩
  · rw [List.getElem?_toArray]
    unfold cellsOf
    rw [List.getElem?_map, List.getElem?_eq_getElem hj, List.getD_eq_getElem?_getD, List.getElem?_eq_getElem hj]
    rfl
  · simp
theorem sixteen {l : List UInt8} (h : l.length = 16) : ∃ x0 x1 x2 x3 x4 x5 x6 x7 x8 x9 x10 x11 x12 x13 x14 x15, l = [x0, x1, x2, x3, x4, x5, x6, x7, x8, x9, x10, x11, x12, x13, x14, x15] := by
  match l, h with
  | [x0, x1, x2, x3, x4, x5, x6, x7, x8, x9, x10, x11, x12, x13, x14, x15], _ => exact ⟨x0, x1, x2, x3, x4, x5, x6, x7, x8, x9, x10, x11, x12, x13, x14, x15, rfl⟩
set_option maxRecDepth 1000000 in
set_option maxHeartbeats 1000000 in
/-- Where there is room. -/
theorem write_ok (d : Gw.Disk.Disk) (hsz : -9223372036854775808 ≤ d.size ∧ d.size ≤ 9223372036854775807) (hl : d.loose.length ≤ 1000000000) (sl : Value) (at_ : Int) (s : ByteArray) (w : World) (hp : PatchesAt w sl d.loose) (hc : Gw.Disk.check d = true) (hn : ¬ at_ < 0) (hs : s.size ≤ 1000000) (hf : ¬ d.size - (Gw.Disk.manyOf s : Int) < at_) :
    Calls Try.prog 12 #[diskV d sl, .int .i64 at_, .string s] w (SaidDiskErr ⟨d.size, d.firm, d.loose ++ Gw.Disk.wrote at_ s (Gw.Disk.manyOf s)⟩ 0 w) := by
  have H := Lib.hid (check_any d hsz (by unfold maxLen; omega) sl)
  have hspec := Gw.Disk.check_spec hc
  rw [hc] at H
  obtain ⟨size, firm, ps⟩ := d
  unfold SaidDiskErr diskV
  unfold diskV at H
  simp only at hp hl hsz H hspec hf ⊢
  obtain ⟨hs0, hs1, _, _⟩ := hspec
  obtain ⟨ao, cap, rfl⟩ := hp.form
  have hb0 := ((Below.refl w.heap.size w).new (.cells #[.int .i64 size, .string firm, .slice ao ps.length cap] 24)).alloc (by simp) (.cells #[.int .i64 0, .string ⟨#[]⟩, .slice none 0 0] 24)
  have hp0 := hp.below hb0 (Nat.le_refl _)
  have H1 := Lib.hid (H.out _ hp0)
  have e0 : decide (at_ < 0) = false := decide_eq_false hn
  have hnm : Gw.Disk.manyOf s ≤ 1000000 := by unfold Gw.Disk.manyOf; omega
  have hw1 : IntKind.i64.wrap (size - (Gw.Disk.manyOf s : Int)) = size - (Gw.Disk.manyOf s : Int) := IntWalk.i64_in _ (by omega)
  have e1 : decide (size - (Gw.Disk.manyOf s : Int) < at_) = false := decide_eq_false hf
  have HM : Hid (∀ w', Calls Try.prog 26 #[.string s] w' fun e w'' => e = .returned (.int .i64 (Gw.Disk.manyOf s : Nat)) ∧ w' = w'') := Lib.hid (fun w' => many_any s (by omega) w')
  obtain ⟨C, hC⟩ : ∃ C, C = ps.length + Gw.Disk.manyOf s := ⟨_, rfl⟩
  have hw2 : wrap64 ((ps.length : Int) + (Gw.Disk.manyOf s : Int)) = (C : Int) := by unfold wrap64; omega
  have hC24 : 24 * C ≤ 281474976710656 := by omega
  have hCm : C ≤ maxLen := by unfold maxLen; omega
  have HC := Lib.hid hC
  clear H hc hC
  go_enter Try.func12, Try.ntmps12
  go_wp2_with fail
  refine (H1.out).mono ?_
  rintro e w1 ⟨rfl, hb1⟩
  have HP1 := Lib.hid (hp0.below hb1.drew (Nat.le_refl _))
  rw [World.size_alloc, World.size_alloc] at hb1
  have H3 := Lib.hid (cut_any s hs w1.drew)
  have l0 : w.heap.size < w.heap.size + 1 + 1 := by omega
  have l1 : w.heap.size + 1 < w.heap.size + 1 + 1 := by omega
  have c00 := hb1.cell (p := ⟨w.heap.size, 0, none⟩) l0
  have c01 := hb1.cell (p := ⟨w.heap.size, 1, none⟩) l0
  have c02 := hb1.cell (p := ⟨w.heap.size, 2, none⟩) l0
  have c10 := hb1.cell (p := ⟨w.heap.size + 1, 0, none⟩) l1
  have c11 := hb1.cell (p := ⟨w.heap.size + 1, 1, none⟩) l1
  have c12 := hb1.cell (p := ⟨w.heap.size + 1, 2, none⟩) l1
  have f10 := hb1.frozen (p := ⟨w.heap.size + 1, 0, none⟩) l1
  have f11 := hb1.frozen (p := ⟨w.heap.size + 1, 1, none⟩) l1
  have f12 := hb1.frozen (p := ⟨w.heap.size + 1, 2, none⟩) l1
  have f02 := hb1.frozen (p := ⟨w.heap.size, 2, none⟩) l0
  simp at c00 c01 c02 c10 c11 c12 f10 f11 f12 f02
  have hz1 : w.heap.size + 1 + 1 ≤ w1.heap.size := by
    have h := hb1.size
    rw [World.size_alloc, World.size_alloc] at h
    exact h
  have HB := Lib.hid ((hb0.trans (hb1.mono (by omega))).drew)
  clear hb0 hb1 hp0 l0 l1
  have l1 : w.heap.size + 1 < w1.heap.size := by omega
  go_wp2_with fail
  go_region_with (refine (HM.out _).mono ?_; rintro e w2 ⟨rfl, rfl⟩)
  all_goals
    go_wp2_with fail
    refine (H3.out).mono ?_
    rintro e w2 ⟨B, rfl, ho2, hb2⟩
    have d00 := (hb2.cell (p := ⟨w.heap.size, 0, none⟩) (Nat.lt_of_succ_lt l1)).trans c00
    have d01 := (hb2.cell (p := ⟨w.heap.size, 1, none⟩) (Nat.lt_of_succ_lt l1)).trans c01
    have d02 := (hb2.cell (p := ⟨w.heap.size, 2, none⟩) (Nat.lt_of_succ_lt l1)).trans c02
    have d10 := (hb2.cell (p := ⟨w.heap.size + 1, 0, none⟩) l1).trans c10
    have d11 := (hb2.cell (p := ⟨w.heap.size + 1, 1, none⟩) l1).trans c11
    have d12 := (hb2.cell (p := ⟨w.heap.size + 1, 2, none⟩) l1).trans c12
    have g10 := (hb2.frozen (p := ⟨w.heap.size + 1, 0, none⟩) l1).trans f10
    have g11 := (hb2.frozen (p := ⟨w.heap.size + 1, 1, none⟩) l1).trans f11
    have g12 := (hb2.frozen (p := ⟨w.heap.size + 1, 2, none⟩) l1).trans f12
    have g02 := (hb2.frozen (p := ⟨w.heap.size, 2, none⟩) (Nat.lt_of_succ_lt l1)).trans f02
    have hz2 : w.heap.size + 1 + 1 ≤ w2.heap.size := Nat.le_trans hz1 hb2.size
    have HP2 := Lib.hid (HP1.out.below hb2 (Nat.le_refl _))
    obtain ⟨hm1, hm2⟩ := make_own (P := Try.prog) w2 22 40 (.agg #[.int .i64 0, .string ⟨#[]⟩]) 2 24 Try.underlying22 (by kernel_rfl) .i64 .i64 0 C (Nat.zero_le _) hC24 hCm w2.heap.size (Nat.le_refl _)
    have hbM := (Below.refl w2.heap.size w2).new (.cells (madeCells (Value.agg #[.int .i64 0, .string ⟨#[]⟩]).cells (C * 2)) 40)
    have hzM := World.size_alloc w2 (.cells (madeCells (Value.agg #[.int .i64 0, .string ⟨#[]⟩]).cells (C * 2)) 40)
    have hm3 : Own (w2.alloc (.cells (madeCells (Value.agg #[.int .i64 0, .string ⟨#[]⟩]).cells (C * 2)) 40)) w2.heap.size 2 (.slice (some ⟨w2.heap.size, 0, none⟩) 0 C) 0 [] := hm2
    rw [show ((C : Nat) : Int) = (ps.length : Int) + (Gw.Disk.manyOf s : Int) from by have := HC.out; omega] at hm1
    have hm1' : (Instr.makeSlice 22 (.int .i64 0) (.int .i64 ((ps.length : Int) + (Gw.Disk.manyOf s : Int)))).run Try.prog w2 = _ := hm1
    clear hm1 hm2
    generalize w2.alloc (.cells (madeCells (Value.agg #[.int .i64 0, .string ⟨#[]⟩]).cells (C * 2)) 40) = wM at *
    have q1 : w.heap.size + 1 < w2.heap.size := by omega
    have q0 : w.heap.size < w2.heap.size := by omega
    have m00 := (hbM.cell (p := ⟨w.heap.size, 0, none⟩) q0).trans d00
    have m01 := (hbM.cell (p := ⟨w.heap.size, 1, none⟩) q0).trans d01
    have m02 := (hbM.cell (p := ⟨w.heap.size, 2, none⟩) q0).trans d02
    have HSRC := Lib.hid ((HP2.out.below hbM (Nat.le_refl _)).src (P := Try.prog) (tx := 22) (e := 40) Try.underlying22)
    have HM3 := Lib.hid hm3
    have HBM := Lib.hid hbM
    have HB2 := Lib.hid hb2
    have HO2 := Lib.hid ho2
    have hbase : w2.heap.size ≤ wM.heap.size := by omega
    have hmx : 0 + ps.length ≤ maxLen := by unfold maxLen; omega
    have hmy : (0 + ps.length) * 24 ≤ 140737488355328 := by omega
    have HL := Lib.hid (And.intro hmx hmy)
    clear hm3 ho2 hb2 hbM hmx hmy
    go_wp2_with (at_builtin; refine wpList_append_own rfl _ _ 22 22 rfl w2.heap.size 40 (.agg #[.int .i64 0, .string ⟨#[]⟩]) 2 24 Try.underlying22 (by kernel_rfl) rfl _ _ _ rfl HM3.out _ ps.length (pcells ps) rfl HSRC.out HL.out.1 HL.out.2 hbase (fun h => by cases h) ?_; intro v3 w3 hown' hgr' hform; have HO' := Lib.hid hown'; have HG' := Lib.hid hgr'; clear hown' hgr' hform)
    rw [Nat.zero_add, List.nil_append] at HO'
    have hgr := HBM.out.grown HG'.out hbase (fun k hk => by cases hk; exact Nat.le_refl _)
    have HGR := Lib.hid hgr
    have HPL := Lib.hid (Gw.Disk.pad_length s)
    have HWS := Lib.hid (Gw.Disk.wrote_succ at_ s)
    have h0 : Own w3 w2.heap.size 2 v3 (ps.length + 0) (pcells (ps ++ Gw.Disk.wrote at_ s 0)) := by
      rw [show Gw.Disk.wrote at_ s 0 = [] from rfl, List.append_nil]
      exact HO'.out
    have H0 := Lib.hid h0
    clear h0 hgr HO' HG' HM3 HSRC HBM
    go_loopw [9, 45] (fun lo i wr => ∃ k : Nat, k ≤ Gw.Disk.manyOf s ∧ i = .int .i64 k ∧ Below w2.heap.size w2 wr ∧ Own wr w2.heap.size 2 lo (ps.length + k) (pcells (ps ++ Gw.Disk.wrote at_ s k))) (fun _ i _ => Gw.Disk.manyOf s - (intOf i).toNat)
    case atStart => exact ⟨0, Nat.zero_le _, rfl, HGR.out, H0.out⟩
    case round =>
      obtain ⟨k, hk, rfl, hbr, hor⟩ := hrel
      have HBR := Lib.hid hbr
      have HOR := Lib.hid hor
      by_cases hlt : k < Gw.Disk.manyOf s
      · clear hor
        have hcl : (((Gw.Disk.pad s).drop (k * 16)).take 16).length = 16 := by rw [List.length_take, List.length_drop, HPL.out]; omega
        have hso := HO2.out.below hbr (Nat.le_refl _)
        have hcell : ∀ (j : Nat) (x : UInt8), (((Gw.Disk.pad s).drop (k * 16)).take 16)[j]? = some x → wr.cell? ⟨B, k * 16 + j, none⟩ = some (.int .u8 x.toNat) := by
          intro j x hx
          rw [List.getElem?_take] at hx
          split at hx
          · rw [List.getElem?_drop] at hx
            have := hso.cell (b := B) (off := 0) rfl (j := k * 16 + j) (u := .int .u8 x.toNat) (by unfold cellsOf; rw [List.getElem?_map, hx]; rfl)
            rwa [Nat.zero_add] at this
          · cases hx
        have hws := HWS.out k
        obtain ⟨x0, x1, x2, x3, x4, x5, x6, x7, x8, x9, x10, x11, x12, x13, x14, x15, hx⟩ := sixteen hcl
        rw [hx] at hcell hws
        have a0 := hcell 0 _ rfl
        have a1 := hcell 1 _ rfl
        have a2 := hcell 2 _ rfl
        have a3 := hcell 3 _ rfl
        have a4 := hcell 4 _ rfl
        have a5 := hcell 5 _ rfl
        have a6 := hcell 6 _ rfl
        have a7 := hcell 7 _ rfl
        have a8 := hcell 8 _ rfl
        have a9 := hcell 9 _ rfl
        have a10 := hcell 10 _ rfl
        have a11 := hcell 11 _ rfl
        have a12 := hcell 12 _ rfl
        have a13 := hcell 13 _ rfl
        have a14 := hcell 14 _ rfl
        have a15 := hcell 15 _ rfl
        simp only [Nat.add_zero] at a0
        have HWS1 := Lib.hid hws
        have hcv : (convert 50 9 (.slice (some ⟨wr.heap.size, 0, none⟩) 16 16)).run Try.prog (wr.alloc (.cells (cellsOf [x0, x1, x2, x3, x4, x5, x6, x7, x8, x9, x10, x11, x12, x13, x14, x15]).toArray 49)) = .ok (.string ⟨#[x0, x1, x2, x3, x4, x5, x6, x7, x8, x9, x10, x11, x12, x13, x14, x15]⟩) (wr.alloc (.cells (cellsOf [x0, x1, x2, x3, x4, x5, x6, x7, x8, x9, x10, x11, x12, x13, x14, x15]).toArray 49)) := string_conv (P := Try.prog) (wr.alloc (.cells (cellsOf [x0, x1, x2, x3, x4, x5, x6, x7, x8, x9, x10, x11, x12, x13, x14, x15]).toArray 49)) 50 9 5 wr.heap.size 0 16 [x0, x1, x2, x3, x4, x5, x6, x7, x8, x9, x10, x11, x12, x13, x14, x15] Try.underlying50 Try.underlying5 Try.underlying9 (bytes_new _ _ _)
        simp only [cellsOf, List.map_cons, List.map_nil] at hcv
        have hw3 : wrap64 (at_ + (k : Int)) = at_ + (k : Int) := by unfold wrap64; omega
        have hsrc : Src Try.prog 2 22 (.slice (some ⟨wr.heap.size + 1, 0, none⟩) 1 1) 1 (pcells [(at_ + (k : Int), ⟨#[x0, x1, x2, x3, x4, x5, x6, x7, x8, x9, x10, x11, x12, x13, x14, x15]⟩)]) ((wr.alloc (.cells (cellsOf [x0, x1, x2, x3, x4, x5, x6, x7, x8, x9, x10, x11, x12, x13, x14, x15]).toArray 49)).alloc (.cells #[.int .i64 (at_ + (k : Int)), .string ⟨#[x0, x1, x2, x3, x4, x5, x6, x7, x8, x9, x10, x11, x12, x13, x14, x15]⟩] 40)) := by
          refine Src.ofSlice _ Try.underlying22 ⟨wr.heap.size + 1, 0, none⟩ 1 1 _ rfl (fun j u hj => ?_) (pcells_cell _)
          rw [addr_add, Nat.zero_add]
          exact new_cell (by simp) (by simpa [pcells] using hj)
        have HS4 := Lib.hid hsrc
        have HO4 := Lib.hid ((HOR.out.alloc (.cells (cellsOf [x0, x1, x2, x3, x4, x5, x6, x7, x8, x9, x10, x11, x12, x13, x14, x15]).toArray 49)).alloc (.cells #[.int .i64 (at_ + (k : Int)), .string ⟨#[x0, x1, x2, x3, x4, x5, x6, x7, x8, x9, x10, x11, x12, x13, x14, x15]⟩] 40))
        have HB4 := Lib.hid ((hbr.alloc hbr.size (.cells (cellsOf [x0, x1, x2, x3, x4, x5, x6, x7, x8, x9, x10, x11, x12, x13, x14, x15]).toArray 49)).alloc (by have := hbr.size; simp; omega) (.cells #[.int .i64 (at_ + (k : Int)), .string ⟨#[x0, x1, x2, x3, x4, x5, x6, x7, x8, x9, x10, x11, x12, x13, x14, x15]⟩] 40))
        have hk1 : ps.length + k + 1 ≤ maxLen := by unfold maxLen; omega
        have hk2 : (ps.length + k + 1) * 24 ≤ 140737488355328 := by omega
        have hk3 : w2.heap.size ≤ ((wr.alloc (.cells (cellsOf [x0, x1, x2, x3, x4, x5, x6, x7, x8, x9, x10, x11, x12, x13, x14, x15]).toArray 49)).alloc (.cells #[.int .i64 (at_ + (k : Int)), .string ⟨#[x0, x1, x2, x3, x4, x5, x6, x7, x8, x9, x10, x11, x12, x13, x14, x15]⟩] 40)).heap.size := by have := hbr.size; simp; omega
        have HK := Lib.hid (And.intro hk1 (And.intro hk2 hk3))
        clear hcl hso hcell hx hws hbr hsrc hk1 hk2 hk3
        go_wp2_with (at_builtin; refine wpList_append_own rfl _ _ 22 22 rfl w2.heap.size 40 (.agg #[.int .i64 0, .string ⟨#[]⟩]) 2 24 Try.underlying22 (by kernel_rfl) rfl _ _ _ rfl HO4.out _ 1 (pcells [(at_ + (k : Int), ⟨#[x0, x1, x2, x3, x4, x5, x6, x7, x8, x9, x10, x11, x12, x13, x14, x15]⟩)]) rfl HS4.out HK.out.1 HK.out.2.1 HK.out.2.2 (fun _ => Nat.one_pos) ?_; intro v4 w4 hown' hgr' hform; have HO5 := Lib.hid hown'; have HG5 := Lib.hid hgr'; clear hown' hgr' hform)
        go_roundw
        case rel =>
          refine ⟨k + 1, by omega, by go_num, HB4.out.grown HG5.out HK.out.2.2 (fun q hq => (HO4.out.lt q hq).1), ?_⟩
          rw [HWS1.out, ← List.append_assoc, pcells_append]
          exact HO5.out
        case measure => simp [intOf]; omega
      · obtain rfl : k = Gw.Disk.manyOf s := by omega
        obtain ⟨ao3, cap3, rfl⟩ := hor.form
        have r00 := (hbr.cell (p := ⟨w.heap.size, 0, none⟩) q0).trans d00
        have r01 := (hbr.cell (p := ⟨w.heap.size, 1, none⟩) q0).trans d01
        have r02 := (hbr.cell (p := ⟨w.heap.size, 2, none⟩) q0).trans d02
        have s02 := (hbr.frozen (p := ⟨w.heap.size, 2, none⟩) q0).trans g02
        have r10 := (hbr.cell (p := ⟨w.heap.size + 1, 0, none⟩) q1).trans d10
        have r11 := (hbr.cell (p := ⟨w.heap.size + 1, 1, none⟩) q1).trans d11
        have r12 := (hbr.cell (p := ⟨w.heap.size + 1, 2, none⟩) q1).trans d12
        have s10 := (hbr.frozen (p := ⟨w.heap.size + 1, 0, none⟩) q1).trans g10
        have s11 := (hbr.frozen (p := ⟨w.heap.size + 1, 1, none⟩) q1).trans g11
        have s12 := (hbr.frozen (p := ⟨w.heap.size + 1, 2, none⟩) q1).trans g12
        have hqq : decide ((Gw.Disk.manyOf s : Int) < (Gw.Disk.manyOf s : Int)) = false := decide_eq_false (by omega)
        have HB9 := Lib.hid (HB.out.trans ((HB2.out.mono HB.out.size).trans (hbr.mono (by omega))))
        clear hor hbr d00 d01 d02 g02 d10 d11 d12 g10 g11 g12 m00 m01 m02 c00 c01 c02 c10 c11 c12 f10 f11 f12 f02
        go_wp2_with fail
        refine bodyPost_ret (v := .tuple #[.agg #[.int .i64 size, .string firm, .slice ao3 (ps.length + Gw.Disk.manyOf s) cap3], .int .i64 0]) (by simp [results, Try.results12, go_sem, r10, r11, r12]) rfl ⟨.slice ao3 (ps.length + Gw.Disk.manyOf s) cap3, rfl, ?_, ?_⟩
        · rw [List.length_append, Gw.Disk.wrote_length]
          exact ((((HOR.out.setBelow _ _ q0).setBelow _ _ q1).setBelow _ _ q1).setBelow _ _ q1).mono (Nat.le_of_lt q0)
        · exact (((HB9.out.setCell (p := ⟨w.heap.size, 2, none⟩) (Nat.le_refl _) _).setCell (p := ⟨w.heap.size + 1, 0, none⟩) (Nat.le_succ _) _).setCell (p := ⟨w.heap.size + 1, 1, none⟩) (Nat.le_succ _) _).setCell (p := ⟨w.heap.size + 1, 2, none⟩) (Nat.le_succ _) _
end Go.Proofs.Ytfehckdcjgmcpaa
