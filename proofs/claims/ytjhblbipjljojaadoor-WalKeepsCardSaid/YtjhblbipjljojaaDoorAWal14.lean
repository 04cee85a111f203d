/- The law WalKeeps: its function is true. No claim of its own. -/
import Derived.Test.YtjhblbipjljojaaDoorAWal13
import Derived.Test.YtjhblbipjljojaaDoorWalHist
namespace Go.Proofs.YtjhblbipjljojaaDoor
open Go.Am

def strV (l : List (List UInt8)) : List V := l.map fun s => .str s
def natV (l : List Nat) : List V := l.map fun n : Nat => .int .i64 (n : Int)
theorem strV_get {l : List (List UInt8)} {q : Nat} {s : List UInt8} (h : l[q]? = some s) : (strV l)[0 + ((q : Nat) : Int).toNat * 1]? = some (.str s) := by
  unfold strV
  rw [Nat.zero_add, Nat.mul_one, Int.toNat_natCast, List.getElem?_map, h]; rfl
theorem natV_get {l : List Nat} {q s : Nat} (h : l[q]? = some s) : (natV l)[0 + ((q : Nat) : Int).toNat * 1]? = some (.int .i64 (s : Int)) := by
  unfold natV
  rw [Nat.zero_add, Nat.mul_one, Int.toNat_natCast, List.getElem?_map, h]; rfl
theorem set_map {α : Type} (f : α → V) (l : List α) (i : Nat) (x : α) (h : i < l.length) : (l.map f).take i ++ [f x] ++ (l.map f).drop (i + 1) = (l.set i x).map f := by
  rw [List.set_eq_take_append_cons_drop, if_pos h, List.map_append, List.map_cons, List.map_take, List.map_drop]
  simp
theorem mem_set {α : Type} (f : α → V) (l : List α) (x : α) {y : List V} {i n m : Nat} (hy : y = [f x]) (hn : n = i) (hm : m = i + 1) (h : i < l.length) : (l.map f).take n ++ y ++ (l.map f).drop m = (l.set i x).map f := by
  rw [hy, hn, hm]
  exact set_map f l i x h
theorem mark_fl {w : Gw.Wal.Wal} {R : List (List UInt8)} {st mst : List UInt8} (h : Gw.Wal.Inv w R st mst) (nl nw : Bool) (hf : Fl nl nw w) (p : List UInt8) (hp : p.length ≤ 200) : Fl (if markOk w p = true then false else nl) nw (Gw.Wal.mark w p).1 := by
  refine ⟨?_, ?_⟩
  · split
    · intro e; cases e
    · rename_i hno
      intro e
      have : (Gw.Wal.mark w p).1 = w := by
        unfold Gw.Wal.mark
        split
        · rfl
        split
        · rfl
        split
        · rfl
        rename_i h1 h2 h3
        exact absurd (by unfold markOk; rw [Bool.and_eq_true, Bool.and_eq_true, decide_eq_true_eq, decide_eq_true_eq, decide_eq_true_eq]; omega) hno
      rw [this]; exact hf.1 e
  · rcases h.mark hp with ⟨g1, g2⟩ | ⟨g1, g2, g3, g4, g5, _⟩
    · rw [g2]; exact hf.2
    · rw [g5]; exact hf.2
structure KS where
  k : Nat
  all : List (List UInt8)
  sts : List (List UInt8)
  bss : List Nat
  w : Gw.Wal.Wal
  a : Bool
  b : Bool
  na : Bool
structure KI where
  j : Nat
  w : Gw.Wal.Wal
  a : Bool
  b : Bool
set_option maxHeartbeats 8000000 in
set_option maxHeartbeats 8000000 in
set_option maxRecDepth 20000 in
theorem keeps_pc (n : Nat) (hn : n ≤ 255) (nil : Bool) (l : List (Int × List UInt8)) (hl : l.length ≤ 9223372036854775807) : PC Tryd.prog 4 [.int .u8 n, .lst nil 2 (l.map encSt) .none] (.bool true) := by
  have hel : (l.map encSt).length = l.length := List.length_map _
  have hnew := wnew_pc ((n % 100 : Nat) : Int)
  have hfew := fewSt_pc nil l 40 hl
  have hmod : IntKind.i64.wrap (((n : Int)).tmod 100) = ((n % 100 : Nat) : Int) := by rw [tmod_pos (by omega), w64 (by omega) (by omega)]; omega
  have hinv := Gw.Wal.new_inv (size := ((n % 100 : Nat) : Int)) (by omega)
  have hlo := Gw.Wal.new_loose (size := ((n % 100 : Nat) : Int)) (by omega)
  unfold newV at hnew
  generalize Gw.Wal.new ((n % 100 : Nat) : Int) = nw at *
  obtain ⟨w0, e0⟩ := nw
  simp only at hnew hinv hlo
  refine PC.of tabOk mixed (fn := Tryd.f4) (by kernel_rfl) rfl (by kernel_rfl) rfl rfl ?_
  conv => whnf
  refine AC.of_pc awake_pc rfl ?_
  conv => whnf
  rw [← hmod] at hnew
  refine AC.of_pc hnew rfl ?_
  conv => whnf
  refine AC.of_pc hfew rfl ?_
  conv => whnf
  refine ⟨fun h1 => ?_, fun h1 => ?_⟩
  · conv => whnf
  have h1 : (l.all fun s => decide (s.2.length ≤ 200)) = true ∧ l.length ≤ 40 := by
    simp at h1
    exact ⟨by simpa using h1.1, by omega⟩
  obtain ⟨f1, f2⟩ := h1
  conv => whnf
  refine ⟨fun h2 => ?_, fun h2 => ?_⟩
  · conv => whnf
  have h2 : e0 = 0 := by simpa using h2
  obtain ⟨i0, g1, g2, g3, g4, g5, g6, g7, g8⟩ := hinv h2
  have hlo := hlo h2
  have hH0 : Gw.Wal.Hist [] (List.replicate 210 []) ((List.replicate 210 0).set 1 1) w0 := ⟨by decide, by decide, by rw [g1]; rfl, [], [], [], i0, ⟨[], by rw [g2]; rfl, by rw [g4]; rfl⟩, by rw [g3]; rfl, by rw [g3, g2]; rfl, fun h => absurd g5 h⟩
  conv => whnf
  refine ⟨⟨by decide, by decide⟩, ?_⟩
  conv => whnf
  refine AW.row 8 9 1 rfl rfl (.inr rfl) ?_
  refine AW.boxMem 18 rfl (by kernel_rfl) ?_
  refine AW.boxMem 19 rfl (by kernel_rfl) ?_
  refine AW.loopT (fun X : KS => [(.tmp 1, .v (.lst nil 2 (l.map encSt) .none)), (.tmp 5, .v (.bool true)), (.tmp 6, .v (.ptr 8 0)), (.tmp 8, .v (.lst X.na 1 (encSL X.all) (.row 23))), (.tmp 9, .v (.ptr 18 0)), (.tmp 10, .v (.ptr 19 0)), (.tmp 11, .v (.int .i64 X.k)),
    (.blk 8, .box 31 (walC X.a X.b X.w)), (.blk 18, .mem 43 (strV X.sts)), (.blk 19, .mem 44 (natV X.bss)), (.row 23, .row 9 1 X.all.length)]) 24 (fun X => X.k ≤ l.length ∧ Gw.Wal.Hist X.all X.sts X.bss X.w ∧ Fl X.a X.b X.w ∧ X.w.disk.loose.length ≤ 2000 * X.k + 2000) (fun X => l.length - X.k) (by decide) ⟨0, [], List.replicate 210 [], (List.replicate 210 0).set 1 1, w0, true, true, true⟩
    ⟨Nat.zero_le _, hH0, ⟨fun _ => hlo, fun _ => g4⟩, by show w0.disk.loose.length ≤ _; rw [hlo]; exact Nat.zero_le _⟩ ⟨rfl, rfl, rfl, rfl, rfl, rfl, rfl, rfl, rfl, rfl, rfl, rfl, rfl, rfl, rfl, rfl, ?_, rfl, ?_, rfl, rfl, rfl, trivial⟩ ?_
  · show C.mem _ (forgetAll _) = C.mem _ _
    rfl
  · show C.mem _ (forgetAll _) = C.mem _ _
    rfl
  rintro ⟨k, all, sts, bss, w, a, b, na⟩ ⟨hk, hH, hF, hL⟩
  simp only at hk hH hF hL
  dsimp only
  obtain ⟨R0, st0, mst0, hI, _⟩ := hH.inv
  have hal := encSL_len all
  have hlen := hH.len
  have hbig := hI.big
  have hH1 : Gw.Wal.Hist (all.take (w.next - 1)) sts bss w := by rw [show w.next - 1 = all.length by omega, List.take_length]; exact hH
  refine ev_sound tabOk mixed _ _ _ _ ?_
  conv => whnf
  refine ⟨fun h3 => ?_, fun h3 => ?_⟩
  · have h3 := of_decide_eq_true h3
    have hlt : k < l.length := by omega
    have hel2 := encSt_get hlt
    have hpl := of_decide_eq_true (List.all_eq_true.1 f1 _ (List.getElem_mem hlt))
    generalize l[k].1 = kind at hel2
    generalize l[k].2 = txt at hel2 hpl
    conv => whnf
    refine ⟨_, ⟨by omega, hel2⟩, ?_⟩
    by_cases hkind : kind = 6
    · subst hkind
      conv => whnf
      repeat (first | refine ⟨fun _ => ?_, fun h => absurd h (by decide)⟩ | refine ⟨fun h => absurd h (by decide), fun _ => ?_⟩ | refine ⟨fun _ => ?_, fun h => absurd (show true = false from h) (by decide)⟩ | refine ⟨fun h => absurd (show false = true from h) (by decide), fun _ => ?_⟩
              (conv => whnf))
      refine AW.loop (fun X : KI => [(.tmp 1, .v (.lst nil 2 (l.map encSt) .none)), (.tmp 5, .v (.bool true)), (.tmp 6, .v (.ptr 8 0)), (.tmp 8, .v (.lst na 1 (encSL all) (.row 23))), (.tmp 9, .v (.ptr 18 0)), (.tmp 10, .v (.ptr 19 0)), (.tmp 11, .v (.int .i64 k)), (.tmp 12, .v (.ptr 32 0)), (.tmp 13, .v (.int .i64 w.kept)), (.tmp 14, .v (.int .i64 all.length)), (.tmp 15, .v (.int .i64 (6 + X.j : Nat))),
        (.blk 8, .box 31 (walC X.a X.b X.w)), (.blk 18, .mem 43 (strV sts)), (.blk 19, .mem 44 (natV bss)), (.row 23, .row 9 1 all.length), (.blk 32, .box 41 [.int .i64 6, .str txt])]) 33 (fun X => X.j ≤ 1 ∧ Gw.Wal.Hist (all.take (X.w.next - 1)) sts bss X.w ∧ w.kept ≤ X.w.kept ∧ X.w.next ≤ all.length + 1 ∧ Fl X.a X.b X.w ∧ X.w.disk.loose.length ≤ 2000 * k + 2000) (fun X => 1 - X.j) (by decide) ⟨0, w, a, b⟩
        ⟨Nat.zero_le _, hH1, Nat.le_refl _, by show w.next ≤ _; omega, hF, hL⟩ ⟨rfl, rfl, rfl, rfl, rfl, rfl, rfl, rfl, rfl, rfl, rfl, rfl, rfl, rfl, rfl, rfl, rfl, rfl, ?_, rfl, rfl, rfl, rfl, rfl, rfl, rfl, rfl, rfl, rfl, rfl, rfl, rfl, trivial⟩ ?_
      · show C.v (V.int .i64 (encSL all).length) = _
        rw [hal]
      rintro ⟨j, w', a', b'⟩ ⟨hj, hH', hkp, hnx', hF', hL'⟩
      simp only at hj hH' hkp hnx' hF' hL'
      dsimp only
      obtain ⟨R1, st1, mst1, hI', _⟩ := hH'.inv
      refine ev_sound tabOk mixed _ _ _ _ ?_
      conv => whnf
      refine ⟨fun h4 => ?_, fun h4 => ?_⟩
      · have h4 : ((6 + j : Nat) : Int) ≤ 6 := of_decide_eq_true h4
        have hjlt : j < 1 := by omega
        obtain ⟨c1, c2, c3, c4⟩ := crashed_pc hI' a' txt (by omega) hF'.1 (by omega)
        have hB := hH'.crash txt
        generalize Gw.Wal.open_ (Gw.Disk.crash w'.disk (Gw.Wal.ba txt)) = o at *
        obtain ⟨R2, st2, mst2, hI2, _⟩ := hB.hist.inv
        have hq1 := hI2.seq1
        have hq2 := hI2.seq2
        have hb1 := hI2.base1
        have hbig2 := hI2.big
        have hmo := hB.most
        rw [List.length_take] at hmo
        have hon : o.wal.next ≤ all.length + 1 := by omega
        have htt : (all.take (w'.next - 1)).take (o.wal.next - 1) = all.take (o.wal.next - 1) := by rw [List.take_take]; congr 1; omega
        have hkk := hB.kept
        have hkk' := hB.kept'
        have hnn := hB.next
        have hbase := natV_get hB.base
        have hstate := strV_get hB.state
        have hrecs := hB.recs
        rw [htt] at hrecs
        have hhist := hB.hist
        rw [htt] at hhist
        have her := encSL_len o.recs
        have hcut : ((encSL all).take (o.wal.next - 1)).drop (o.wal.base - 1) = encSL o.recs := by rw [hrecs]; unfold encSL; rw [List.map_drop, List.map_take]
        have v1 : IntKind.i64.wrap ((o.wal.base : Int) + ((encSL o.recs).length : Int)) = (o.wal.next : Int) := by rw [her, hnn, w64 (by omega) (by omega)]; omega
        have v2 : IntKind.i64.wrap ((o.wal.next : Int) - 1) = ((o.wal.next - 1 : Nat) : Int) := by rw [w64 (by omega) (by omega)]; omega
        have v3 : IntKind.i64.wrap ((o.wal.base : Int) - 1) = ((o.wal.base - 1 : Nat) : Int) := by rw [w64 (by omega) (by omega)]; omega
        have vj : IntKind.i64.wrap (((6 + j : Nat) : Int) + 1) = ((6 + (j + 1) : Nat) : Int) := by rw [w64 (by omega) (by omega)]; omega
        have hsm := fun na nb => strSame_pc na nb o.recs o.recs (by omega)
        conv => whnf
        refine AC.of_pc c1 rfl ?_
        conv => whnf
        refine AC.of_pc c2 rfl ?_
        conv => whnf
        repeat (first | refine ⟨fun h => absurd h (by decide), fun _ => ?_⟩
                      | refine ⟨fun _ => ?_, fun h => absurd h (by decide)⟩
                      | refine ⟨fun h => absurd h (by simp; first | done | omega | fail "x"), fun _ => ?_⟩
                      | refine ⟨fun h => absurd h (by rw [v1]; simp; first | done | omega | fail "x"), fun _ => ?_⟩
                      | refine ⟨fun h => absurd h (by rw [v2]; simp; first | done | omega | fail "x"), fun _ => ?_⟩
                      | refine ⟨⟨by omega, by omega⟩, ?_⟩
                      | refine ⟨_, hbase, ?_⟩
                      | refine ⟨_, hstate, ?_⟩
                      | refine ⟨by kernel_rfl, ?_⟩
                      | fail "end"
                (conv => whnf))
        have hsm2 : ∀ nr : Bool, PC Tryd.prog 15 [.lst nr 1 (encSL o.recs) .none, .lst na 1 (((encSL all).take (IntKind.i64.wrap ((o.wal.next : Int) - 1)).toNat).drop (IntKind.i64.wrap ((o.wal.base : Int) - 1)).toNat) .none] (.bool (decide (o.recs = o.recs))) := fun nr => by
          rw [v2, v3, Int.toNat_natCast, Int.toNat_natCast, hcut]; exact hsm nr na
        refine AC.of_pc (hsm2 _) rfl ?_
        conv => whnf
        refine ⟨fun h => absurd h (by simp; first | done | fail "x"), fun _ => ?_⟩
        conv => whnf
        refine ⟨⟨j + 1, o.wal, false, true⟩, ⟨hjlt, hhist, by show w.kept ≤ o.wal.kept; omega, hon, c4, by show o.wal.disk.loose.length ≤ _; omega⟩, by show 1 - (j + 1) < 1 - j; omega, rfl, rfl, rfl, rfl, rfl, rfl, rfl, rfl, rfl, rfl, rfl, rfl, rfl, rfl, rfl, rfl, rfl, rfl, rfl, rfl, ?_, rfl, rfl, rfl, rfl, rfl, rfl, rfl, rfl, rfl, rfl, rfl, trivial⟩
        show C.v (V.int .i64 (IntKind.i64.wrap (((6 + j : Nat) : Int) + 1))) = _
        rw [vj]
      · have h4 : ¬ ((6 + j : Nat) : Int) ≤ 6 := of_decide_eq_false h4
        have hnx2 := hI'.nxt
        have hb2 := hI'.big
        have v2 : IntKind.i64.wrap ((w'.next : Int) - 1) = ((w'.next - 1 : Nat) : Int) := by rw [w64 (by omega) (by omega)]; omega
        conv => whnf
        refine ⟨show 0 ≤ max 0 (min (IntKind.i64.wrap ((w'.next : Int) - 1)) (all.length : Int)) ∧ (max 0 (min (IntKind.i64.wrap ((w'.next : Int) - 1)) (all.length : Int))).toNat ≤ (encSL all).length from ⟨by omega, by omega⟩, ?_⟩
        conv => whnf
        refine ⟨fits_small (by show 0 + ((encSL all).take _).length ≤ _; rw [List.length_take]; omega) (by decide), ?_⟩
        conv => whnf
        have hN : (max 0 (min (IntKind.i64.wrap ((w'.next : Int) - 1)) (all.length : Int))).toNat = w'.next - 1 := by omega
        have htl : (encSL all).take (w'.next - 1) = encSL (all.take (w'.next - 1)) := by unfold encSL; rw [List.map_take]
        refine ⟨⟨k + 1, all.take (w'.next - 1), sts, bss, w', a', b', false⟩, ⟨hlt, hH', hF', by show w'.disk.loose.length ≤ 2000 * (k + 1) + 2000; omega⟩, by show l.length - (k + 1) < l.length - k; omega, ?_⟩
        refine Turns.trans (Turns.weak (es := [(.tmp 1, .v (.lst nil 2 (l.map encSt) .none)), (.tmp 5, .v (.bool true)), (.tmp 6, .v (.ptr 8 0)), (.tmp 8, .v (.lst false 1 (encSL (all.take (w'.next - 1))) (.row 46))), (.tmp 9, .v (.ptr 18 0)), (.tmp 10, .v (.ptr 19 0)), (.tmp 11, .v (.int .i64 (k + 1 : Nat))),
          (.blk 8, .box 31 (walC a' b' w')), (.blk 18, .mem 43 (strV sts)), (.blk 19, .mem 44 (natV bss)), (.row 46, .row 9 1 (all.take (w'.next - 1)).length)]) (m := 47) ⟨rfl, rfl, rfl, rfl, rfl, rfl, ?_, rfl, rfl, rfl, rfl, rfl, ?_, rfl, rfl, rfl, rfl, rfl, rfl, rfl, ?_, rfl, trivial⟩ (by decide))
          (Turns.trans (Turns.row 46 23 (by decide) (by decide) (by decide) (by decide) rfl) (Turns.weak ⟨rfl, rfl, rfl, rfl, rfl, rfl, rfl, rfl, rfl, rfl, rfl, rfl, rfl, rfl, rfl, rfl, rfl, rfl, rfl, rfl, rfl, rfl, trivial⟩ (by decide)))
        · show C.v (V.lst (false && ((encSL all).take (max 0 (min (IntKind.i64.wrap ((w'.next : Int) - 1)) (all.length : Int))).toNat).isEmpty) 1 ([] ++ (encSL all).take (max 0 (min (IntKind.i64.wrap ((w'.next : Int) - 1)) (all.length : Int))).toNat) _) = _
          rw [hN, htl]
          rfl
        · show C.v (V.int .i64 (IntKind.i64.wrap ((k : Int) + 1))) = _
          rw [w64 (by omega) (by omega)]; rfl
        · show C.row _ 1 (0 + ((encSL all).take (max 0 (min (IntKind.i64.wrap ((w'.next : Int) - 1)) (all.length : Int))).toNat).length) = _
          rw [hN, htl, encSL_len, Nat.zero_add]
    by_cases hkind7 : kind = 7
    · subst hkind7
      conv => whnf
      repeat (first | refine ⟨fun _ => ?_, fun h => absurd h (by decide)⟩ | refine ⟨fun h => absurd h (by decide), fun _ => ?_⟩ | refine ⟨fun _ => ?_, fun h => absurd (show true = false from h) (by decide)⟩ | refine ⟨fun h => absurd (show false = true from h) (by decide), fun _ => ?_⟩
              (conv => whnf))
      refine AW.loop (fun X : KI => [(.tmp 1, .v (.lst nil 2 (l.map encSt) .none)), (.tmp 5, .v (.bool true)), (.tmp 6, .v (.ptr 8 0)), (.tmp 8, .v (.lst na 1 (encSL all) (.row 23))), (.tmp 9, .v (.ptr 18 0)), (.tmp 10, .v (.ptr 19 0)), (.tmp 11, .v (.int .i64 k)), (.tmp 12, .v (.ptr 32 0)), (.tmp 13, .v (.int .i64 w.kept)), (.tmp 14, .v (.int .i64 all.length)), (.tmp 15, .v (.int .i64 (6 + X.j : Nat))),
        (.blk 8, .box 31 (walC X.a X.b X.w)), (.blk 18, .mem 43 (strV sts)), (.blk 19, .mem 44 (natV bss)), (.row 23, .row 9 1 all.length), (.blk 32, .box 41 [.int .i64 7, .str txt])]) 33 (fun X => X.j ≤ 2 ∧ Gw.Wal.Hist (all.take (X.w.next - 1)) sts bss X.w ∧ w.kept ≤ X.w.kept ∧ X.w.next ≤ all.length + 1 ∧ Fl X.a X.b X.w ∧ X.w.disk.loose.length ≤ 2000 * k + 2000) (fun X => 2 - X.j) (by decide) ⟨0, w, a, b⟩
        ⟨Nat.zero_le _, hH1, Nat.le_refl _, by show w.next ≤ _; omega, hF, hL⟩ ⟨rfl, rfl, rfl, rfl, rfl, rfl, rfl, rfl, rfl, rfl, rfl, rfl, rfl, rfl, rfl, rfl, rfl, rfl, ?_, rfl, rfl, rfl, rfl, rfl, rfl, rfl, rfl, rfl, rfl, rfl, rfl, rfl, trivial⟩ ?_
      · show C.v (V.int .i64 (encSL all).length) = _
        rw [hal]
      rintro ⟨j, w', a', b'⟩ ⟨hj, hH', hkp, hnx', hF', hL'⟩
      simp only at hj hH' hkp hnx' hF' hL'
      dsimp only
      obtain ⟨R1, st1, mst1, hI', _⟩ := hH'.inv
      refine ev_sound tabOk mixed _ _ _ _ ?_
      conv => whnf
      refine ⟨fun h4 => ?_, fun h4 => ?_⟩
      · have h4 : ((6 + j : Nat) : Int) ≤ 7 := of_decide_eq_true h4
        have hjlt : j < 2 := by omega
        obtain ⟨c1, c2, c3, c4⟩ := crashed_pc hI' a' txt (by omega) hF'.1 (by omega)
        have hB := hH'.crash txt
        generalize Gw.Wal.open_ (Gw.Disk.crash w'.disk (Gw.Wal.ba txt)) = o at *
        obtain ⟨R2, st2, mst2, hI2, _⟩ := hB.hist.inv
        have hq1 := hI2.seq1
        have hq2 := hI2.seq2
        have hb1 := hI2.base1
        have hbig2 := hI2.big
        have hmo := hB.most
        rw [List.length_take] at hmo
        have hon : o.wal.next ≤ all.length + 1 := by omega
        have htt : (all.take (w'.next - 1)).take (o.wal.next - 1) = all.take (o.wal.next - 1) := by rw [List.take_take]; congr 1; omega
        have hkk := hB.kept
        have hkk' := hB.kept'
        have hnn := hB.next
        have hbase := natV_get hB.base
        have hstate := strV_get hB.state
        have hrecs := hB.recs
        rw [htt] at hrecs
        have hhist := hB.hist
        rw [htt] at hhist
        have her := encSL_len o.recs
        have hcut : ((encSL all).take (o.wal.next - 1)).drop (o.wal.base - 1) = encSL o.recs := by rw [hrecs]; unfold encSL; rw [List.map_drop, List.map_take]
        have v1 : IntKind.i64.wrap ((o.wal.base : Int) + ((encSL o.recs).length : Int)) = (o.wal.next : Int) := by rw [her, hnn, w64 (by omega) (by omega)]; omega
        have v2 : IntKind.i64.wrap ((o.wal.next : Int) - 1) = ((o.wal.next - 1 : Nat) : Int) := by rw [w64 (by omega) (by omega)]; omega
        have v3 : IntKind.i64.wrap ((o.wal.base : Int) - 1) = ((o.wal.base - 1 : Nat) : Int) := by rw [w64 (by omega) (by omega)]; omega
        have vj : IntKind.i64.wrap (((6 + j : Nat) : Int) + 1) = ((6 + (j + 1) : Nat) : Int) := by rw [w64 (by omega) (by omega)]; omega
        have hsm := fun na nb => strSame_pc na nb o.recs o.recs (by omega)
        conv => whnf
        refine AC.of_pc c1 rfl ?_
        conv => whnf
        refine AC.of_pc c2 rfl ?_
        conv => whnf
        repeat (first | refine ⟨fun h => absurd h (by decide), fun _ => ?_⟩
                      | refine ⟨fun _ => ?_, fun h => absurd h (by decide)⟩
                      | refine ⟨fun h => absurd h (by simp; first | done | omega | fail "x"), fun _ => ?_⟩
                      | refine ⟨fun h => absurd h (by rw [v1]; simp; first | done | omega | fail "x"), fun _ => ?_⟩
                      | refine ⟨fun h => absurd h (by rw [v2]; simp; first | done | omega | fail "x"), fun _ => ?_⟩
                      | refine ⟨⟨by omega, by omega⟩, ?_⟩
                      | refine ⟨_, hbase, ?_⟩
                      | refine ⟨_, hstate, ?_⟩
                      | refine ⟨by kernel_rfl, ?_⟩
                      | fail "end"
                (conv => whnf))
        have hsm2 : ∀ nr : Bool, PC Tryd.prog 15 [.lst nr 1 (encSL o.recs) .none, .lst na 1 (((encSL all).take (IntKind.i64.wrap ((o.wal.next : Int) - 1)).toNat).drop (IntKind.i64.wrap ((o.wal.base : Int) - 1)).toNat) .none] (.bool (decide (o.recs = o.recs))) := fun nr => by
          rw [v2, v3, Int.toNat_natCast, Int.toNat_natCast, hcut]; exact hsm nr na
        refine AC.of_pc (hsm2 _) rfl ?_
        conv => whnf
        refine ⟨fun h => absurd h (by simp; first | done | fail "x"), fun _ => ?_⟩
        conv => whnf
        refine ⟨⟨j + 1, o.wal, false, true⟩, ⟨hjlt, hhist, by show w.kept ≤ o.wal.kept; omega, hon, c4, by show o.wal.disk.loose.length ≤ _; omega⟩, by show 2 - (j + 1) < 2 - j; omega, rfl, rfl, rfl, rfl, rfl, rfl, rfl, rfl, rfl, rfl, rfl, rfl, rfl, rfl, rfl, rfl, rfl, rfl, rfl, rfl, ?_, rfl, rfl, rfl, rfl, rfl, rfl, rfl, rfl, rfl, rfl, rfl, trivial⟩
        show C.v (V.int .i64 (IntKind.i64.wrap (((6 + j : Nat) : Int) + 1))) = _
        rw [vj]
      · have h4 : ¬ ((6 + j : Nat) : Int) ≤ 7 := of_decide_eq_false h4
        have hnx2 := hI'.nxt
        have hb2 := hI'.big
        have v2 : IntKind.i64.wrap ((w'.next : Int) - 1) = ((w'.next - 1 : Nat) : Int) := by rw [w64 (by omega) (by omega)]; omega
        conv => whnf
        refine ⟨show 0 ≤ max 0 (min (IntKind.i64.wrap ((w'.next : Int) - 1)) (all.length : Int)) ∧ (max 0 (min (IntKind.i64.wrap ((w'.next : Int) - 1)) (all.length : Int))).toNat ≤ (encSL all).length from ⟨by omega, by omega⟩, ?_⟩
        conv => whnf
        refine ⟨fits_small (by show 0 + ((encSL all).take _).length ≤ _; rw [List.length_take]; omega) (by decide), ?_⟩
        conv => whnf
        have hN : (max 0 (min (IntKind.i64.wrap ((w'.next : Int) - 1)) (all.length : Int))).toNat = w'.next - 1 := by omega
        have htl : (encSL all).take (w'.next - 1) = encSL (all.take (w'.next - 1)) := by unfold encSL; rw [List.map_take]
        refine ⟨⟨k + 1, all.take (w'.next - 1), sts, bss, w', a', b', false⟩, ⟨hlt, hH', hF', by show w'.disk.loose.length ≤ 2000 * (k + 1) + 2000; omega⟩, by show l.length - (k + 1) < l.length - k; omega, ?_⟩
        refine Turns.trans (Turns.weak (es := [(.tmp 1, .v (.lst nil 2 (l.map encSt) .none)), (.tmp 5, .v (.bool true)), (.tmp 6, .v (.ptr 8 0)), (.tmp 8, .v (.lst false 1 (encSL (all.take (w'.next - 1))) (.row 46))), (.tmp 9, .v (.ptr 18 0)), (.tmp 10, .v (.ptr 19 0)), (.tmp 11, .v (.int .i64 (k + 1 : Nat))),
          (.blk 8, .box 31 (walC a' b' w')), (.blk 18, .mem 43 (strV sts)), (.blk 19, .mem 44 (natV bss)), (.row 46, .row 9 1 (all.take (w'.next - 1)).length)]) (m := 47) ⟨rfl, rfl, rfl, rfl, rfl, rfl, ?_, rfl, rfl, rfl, rfl, rfl, ?_, rfl, rfl, rfl, rfl, rfl, rfl, rfl, ?_, rfl, trivial⟩ (by decide))
          (Turns.trans (Turns.row 46 23 (by decide) (by decide) (by decide) (by decide) rfl) (Turns.weak ⟨rfl, rfl, rfl, rfl, rfl, rfl, rfl, rfl, rfl, rfl, rfl, rfl, rfl, rfl, rfl, rfl, rfl, rfl, rfl, rfl, rfl, rfl, trivial⟩ (by decide)))
        · show C.v (V.lst (false && ((encSL all).take (max 0 (min (IntKind.i64.wrap ((w'.next : Int) - 1)) (all.length : Int))).toNat).isEmpty) 1 ([] ++ (encSL all).take (max 0 (min (IntKind.i64.wrap ((w'.next : Int) - 1)) (all.length : Int))).toNat) _) = _
          rw [hN, htl]
          rfl
        · show C.v (V.int .i64 (IntKind.i64.wrap ((k : Int) + 1))) = _
          rw [w64 (by omega) (by omega)]; rfl
        · show C.row _ 1 (0 + ((encSL all).take (max 0 (min (IntKind.i64.wrap ((w'.next : Int) - 1)) (all.length : Int))).toNat).length) = _
          rw [hN, htl, encSL_len, Nat.zero_add]
    have hq1 := hI.seq1
    have hq2 := hI.seq2
    have hnx := hI.nxt
    have hpl' := hpl
    have vk : IntKind.i64.wrap ((k : Int) + 1) = ((k + 1 : Nat) : Int) := by rw [w64 (by omega) (by omega)]; rfl
    by_cases hB : kind = 4 ∧ w.marked = 0 ∧ w.seq < 200
    · obtain ⟨rfl, hm0, hsq⟩ := hB
      have hwm := wmark_pc hI a b txt hpl hF.1 (by omega)
      have hml := mark_loose hI txt
      have hHm := hH.mark hpl hsq
      have hFm := mark_fl hI a b hF txt hpl
      have vs : IntKind.i64.wrap ((w.seq : Int) + 1) = ((w.seq + 1 : Nat) : Int) := by rw [w64 (by omega) (by omega)]; rfl
      have hls := hH.ls
      have hlb := hH.lb
      unfold wmarkV at hwm
      generalize (if markOk w txt = true then false else a) = a' at *
      generalize Gw.Wal.mark w txt = x at *
      obtain ⟨x, e⟩ := x
      simp only at hml hHm hFm hwm
      conv => whnf
      repeat (first | refine ⟨fun _ => ?_, fun h => absurd h (by decide)⟩ | refine ⟨fun h => absurd h (by decide), fun _ => ?_⟩ | refine ⟨fun _ => ?_, fun h => absurd (show true = false from h) (by decide)⟩ | refine ⟨fun h => absurd (show false = true from h) (by decide), fun _ => ?_⟩
              (conv => whnf))
      repeat (first | refine ⟨fun h => absurd h (by decide), fun _ => ?_⟩
                    | refine ⟨fun _ => ?_, fun h => absurd h (by decide)⟩
                    | refine ⟨fun _ => ?_, fun h => absurd h (by simp; first | done | omega | fail "x")⟩
                    | refine ⟨fun h => absurd h (by simp; first | done | omega | fail "x"), fun _ => ?_⟩
                    | fail "end"
              (conv => whnf))
      refine AC.of_pc hwm rfl ?_
      conv => whnf
      refine ⟨fun h5 => ?_, fun h5 => ?_⟩
      · have h5 : e = 0 := by simpa using h5
        rw [if_pos h5, if_pos h5] at hHm
        conv => whnf
        refine ⟨⟨by rw [vs]; omega, by rw [vs, Int.toNat_natCast]; omega⟩, ?_⟩
        conv => whnf
        refine ⟨by rw [vs, Int.toNat_natCast]; show 0 + (w.seq + 1) * 1 + 1 ≤ (strV sts).length; unfold strV; rw [List.length_map]; omega, ?_⟩
        conv => whnf
        refine ⟨⟨by rw [vs]; omega, by rw [vs, Int.toNat_natCast]; omega⟩, ?_⟩
        conv => whnf
        refine ⟨by rw [vs, Int.toNat_natCast]; show 0 + (w.seq + 1) * 1 + 1 ≤ (natV bss).length; unfold natV; rw [List.length_map]; omega, ?_⟩
        conv => whnf
        refine ⟨⟨k + 1, all, sts.set (w.seq + 1) txt, bss.set (w.seq + 1) w.next, x, a', b, na⟩, ⟨hlt, hHm, hFm, by show x.disk.loose.length ≤ 2000 * (k + 1) + 2000; omega⟩, by show l.length - (k + 1) < l.length - k; omega, Turns.weak ⟨rfl, rfl, rfl, rfl, rfl, rfl, rfl, rfl, rfl, rfl, rfl, rfl, ?_, rfl, rfl, rfl, ?_, rfl, ?_, rfl, rfl, rfl, trivial⟩ (by decide)⟩
        · show C.v (V.int .i64 (IntKind.i64.wrap ((k : Int) + 1))) = _
          rw [vk]
        · refine congrArg (C.mem 43) ?_
          exact mem_set V.str sts txt rfl (by rw [vs, Int.toNat_natCast]; show 0 + (w.seq + 1) * 1 = _; omega) (by rw [vs, Int.toNat_natCast]; show 0 + (w.seq + 1) * 1 + 1 = _; omega) (by omega)
        · refine congrArg (C.mem 44) ?_
          exact mem_set (fun n : Nat => V.int .i64 (n : Int)) bss w.next rfl (by rw [vs, Int.toNat_natCast]; show 0 + (w.seq + 1) * 1 = _; omega) (by rw [vs, Int.toNat_natCast]; show 0 + (w.seq + 1) * 1 + 1 = _; omega) (by omega)
      · have h5 : ¬ e = 0 := by simpa using h5
        rw [if_neg h5, if_neg h5] at hHm
        conv => whnf
        refine ⟨⟨k + 1, all, sts, bss, x, a', b, na⟩, ⟨hlt, hHm, hFm, by show x.disk.loose.length ≤ 2000 * (k + 1) + 2000; omega⟩, by show l.length - (k + 1) < l.length - k; omega, Turns.weak ⟨rfl, rfl, rfl, rfl, rfl, rfl, rfl, rfl, rfl, rfl, rfl, rfl, ?_, rfl, rfl, rfl, rfl, rfl, rfl, rfl, rfl, rfl, trivial⟩ (by decide)⟩
        show C.v (V.int .i64 (IntKind.i64.wrap ((k : Int) + 1))) = _
        rw [vk]
    obtain ⟨a', b', hFd, hdo⟩ := do_pc hI a b hF kind txt hpl (by omega)
    have hml := hI.looseLe kind txt
    have hHd := hH.step (k := kind) hpl (fun e1 e2 e3 => hB ⟨e1, e2, e3⟩) hkind hkind7
    generalize Gw.Wal.step w kind txt = x at *
    obtain ⟨x, e⟩ := x
    simp only at hml hHd hFd hdo
    obtain ⟨R2, st2, mst2, hI2, _⟩ := hHd.inv
    have he2 := hI2.ends2
    have hl2 := hHd.len
    have vq : IntKind.i64.wrap (((encSL all).length : Int) + 1) = ((all.length + 1 : Nat) : Int) := by rw [hal, w64 (by omega) (by omega)]; rfl
    have vq'' : (encSL all ++ [[V.str txt]]).length = all.length + 1 := by rw [List.length_append, hal]; rfl
    have vq' : IntKind.i64.wrap (((encSL all ++ [[V.str txt]]).length : Nat) + 1) = ((all.length + 2 : Nat) : Int) := by rw [vq'', w64 (by omega) (by omega)]; omega
    by_cases hk1 : kind = 1
    · by_cases he : e = 0
      · rw [if_pos ⟨hk1, he⟩] at hHd hl2
        rw [List.length_append, List.length_singleton] at hl2
        conv => whnf
        repeat (first | refine ⟨fun h => absurd h (by decide), fun _ => ?_⟩
                      | refine ⟨fun _ => ?_, fun h => absurd h (by decide)⟩
                      | refine ⟨fun _ => ?_, fun h => absurd h (by simp; first | done | omega | fail "x")⟩
                      | refine ⟨fun h => absurd h (by simp; first | done | omega | fail "x"), fun _ => ?_⟩
                      | fail "end"
                (conv => whnf))
        refine AC.of_pc hdo rfl ?_
        conv => whnf
        repeat (first | refine ⟨fun h => absurd h (by decide), fun _ => ?_⟩
                      | refine ⟨fun _ => ?_, fun h => absurd h (by decide)⟩
                      | refine ⟨fun _ => ?_, fun h => absurd h (by simp; first | done | omega | fail "x")⟩
                      | refine ⟨fun h => absurd h (by simp; first | done | omega | fail "x"), fun _ => ?_⟩
                      | fail "end"
                (conv => whnf))
        refine ⟨⟨hal.symm, fits_small (by show (encSL all).length + 1 ≤ _; omega) (by decide)⟩, ?_⟩
        conv => whnf
        repeat (first | refine ⟨fun h => absurd h (by decide), fun _ => ?_⟩
                      | refine ⟨fun _ => ?_, fun h => absurd h (by decide)⟩
                      | refine ⟨fun _ => ?_, fun h => absurd h (by simp; first | done | omega | fail "x")⟩
                      | refine ⟨fun h => absurd h (by simp; first | done | omega | fail "x"), fun _ => ?_⟩
                      | refine ⟨fun h => absurd h (by first | rw [vq] | rw [vq']; simp; first | done | omega | fail "x"), fun _ => ?_⟩
                      | fail "end"
                (conv => whnf))
        refine ⟨fun h => absurd (show ((x.next : Int) != IntKind.i64.wrap (((encSL all ++ [[V.str txt]]).length : Nat) + 1)) = true from h) (by rw [vq']; simp; omega), fun _ => ?_⟩
        conv => whnf
        refine ⟨fun h => absurd (show decide ((x.kept : Int) > ((encSL all ++ [[V.str txt]]).length : Nat)) = true from h) (by rw [vq'']; simp; omega), fun _ => ?_⟩
        conv => whnf
        refine ⟨⟨k + 1, all ++ [txt], sts, bss, x, a', b', false⟩, ⟨hlt, hHd, hFd, by show x.disk.loose.length ≤ 2000 * (k + 1) + 2000; omega⟩, by show l.length - (k + 1) < l.length - k; omega, Turns.weak ⟨rfl, rfl, rfl, rfl, rfl, rfl, ?_, rfl, rfl, rfl, rfl, rfl, ?_, rfl, rfl, rfl, rfl, rfl, rfl, rfl, ?_, rfl, trivial⟩ (by decide)⟩
        · show C.v (V.lst (na && [[V.str txt]].isEmpty) 1 (encSL all ++ [[V.str txt]]) _) = C.v (V.lst _ 1 (encSL (all ++ [txt])) _)
          rw [show encSL (all ++ [txt]) = encSL all ++ [[V.str txt]] by unfold encSL; rw [List.map_append]; rfl, show (na && [[V.str txt]].isEmpty) = false from Bool.and_false na]
        · show C.v (V.int .i64 (IntKind.i64.wrap ((k : Int) + 1))) = _
          rw [vk]
        · show C.row 9 1 ((encSL all).length + 1) = C.row 9 1 (all ++ [txt]).length
          rw [hal, List.length_append]; rfl
      · rw [if_neg (fun e => he e.2)] at hHd hl2
        conv => whnf
        repeat (first | refine ⟨fun h => absurd h (by decide), fun _ => ?_⟩
                      | refine ⟨fun _ => ?_, fun h => absurd h (by decide)⟩
                      | refine ⟨fun _ => ?_, fun h => absurd h (by simp; first | done | omega | fail "x")⟩
                      | refine ⟨fun h => absurd h (by simp; first | done | omega | fail "x"), fun _ => ?_⟩
                      | fail "end"
                (conv => whnf))
        refine AC.of_pc hdo rfl ?_
        conv => whnf
        repeat (first | refine ⟨fun h => absurd h (by decide), fun _ => ?_⟩
                      | refine ⟨fun _ => ?_, fun h => absurd h (by decide)⟩
                      | refine ⟨fun _ => ?_, fun h => absurd h (by simp; first | done | omega | fail "x")⟩
                      | refine ⟨fun h => absurd h (by simp; first | done | omega | fail "x"), fun _ => ?_⟩
                      | fail "end"
                (conv => whnf))
        refine ⟨⟨k + 1, all, sts, bss, x, a', b', na⟩, ⟨hlt, hHd, hFd, by show x.disk.loose.length ≤ 2000 * (k + 1) + 2000; omega⟩, by show l.length - (k + 1) < l.length - k; omega, Turns.weak ⟨rfl, rfl, rfl, rfl, rfl, rfl, rfl, rfl, rfl, rfl, rfl, rfl, ?_, rfl, rfl, rfl, rfl, rfl, rfl, rfl, rfl, rfl, trivial⟩ (by decide)⟩
        show C.v (V.int .i64 (IntKind.i64.wrap ((k : Int) + 1))) = _
        rw [vk]
    · rw [if_neg (fun e => hk1 e.1)] at hHd hl2
      rcases (show ¬ kind = 4 ∨ (kind = 4 ∧ ¬ w.marked = 0) ∨ (kind = 4 ∧ w.marked = 0 ∧ ¬ w.seq < 200) by
          by_cases q1 : kind = 4
          · by_cases q2 : w.marked = 0
            · exact .inr (.inr ⟨q1, q2, fun q3 => hB ⟨q1, q2, q3⟩⟩)
            · exact .inr (.inl ⟨q1, q2⟩)
          · exact .inl q1) with q1 | ⟨rfl, q2⟩ | ⟨rfl, q2, q3⟩
      · conv => whnf
        repeat (first | refine ⟨fun h => absurd h (by decide), fun _ => ?_⟩
                      | refine ⟨fun _ => ?_, fun h => absurd h (by decide)⟩
                      | refine ⟨fun _ => ?_, fun h => absurd h (by simp; first | done | omega | fail "x")⟩
                      | refine ⟨fun h => absurd h (by simp; first | done | omega | fail "x"), fun _ => ?_⟩
                      | fail "end"
                (conv => whnf))
        refine AC.of_pc hdo rfl ?_
        conv => whnf
        repeat (first | refine ⟨fun h => absurd h (by decide), fun _ => ?_⟩
                      | refine ⟨fun _ => ?_, fun h => absurd h (by decide)⟩
                      | refine ⟨fun _ => ?_, fun h => absurd h (by simp; first | done | omega | fail "x")⟩
                      | refine ⟨fun h => absurd h (by simp; first | done | omega | fail "x"), fun _ => ?_⟩
                      | fail "end"
                (conv => whnf))
        refine ⟨⟨k + 1, all, sts, bss, x, a', b', na⟩, ⟨hlt, hHd, hFd, by show x.disk.loose.length ≤ 2000 * (k + 1) + 2000; omega⟩, by show l.length - (k + 1) < l.length - k; omega, Turns.weak ⟨rfl, rfl, rfl, rfl, rfl, rfl, rfl, rfl, rfl, rfl, rfl, rfl, ?_, rfl, rfl, rfl, rfl, rfl, rfl, rfl, rfl, rfl, trivial⟩ (by decide)⟩
        show C.v (V.int .i64 (IntKind.i64.wrap ((k : Int) + 1))) = _
        rw [vk]
      · conv => whnf
        repeat (first | refine ⟨fun h => absurd h (by decide), fun _ => ?_⟩
                      | refine ⟨fun _ => ?_, fun h => absurd h (by decide)⟩
                      | refine ⟨fun _ => ?_, fun h => absurd h (by simp; first | done | omega | fail "x")⟩
                      | refine ⟨fun h => absurd h (by simp; first | done | omega | fail "x"), fun _ => ?_⟩
                      | fail "end"
                (conv => whnf))
        refine AC.of_pc hdo rfl ?_
        conv => whnf
        repeat (first | refine ⟨fun h => absurd h (by decide), fun _ => ?_⟩
                      | refine ⟨fun _ => ?_, fun h => absurd h (by decide)⟩
                      | refine ⟨fun _ => ?_, fun h => absurd h (by simp; first | done | omega | fail "x")⟩
                      | refine ⟨fun h => absurd h (by simp; first | done | omega | fail "x"), fun _ => ?_⟩
                      | fail "end"
                (conv => whnf))
        refine ⟨⟨k + 1, all, sts, bss, x, a', b', na⟩, ⟨hlt, hHd, hFd, by show x.disk.loose.length ≤ 2000 * (k + 1) + 2000; omega⟩, by show l.length - (k + 1) < l.length - k; omega, Turns.weak ⟨rfl, rfl, rfl, rfl, rfl, rfl, rfl, rfl, rfl, rfl, rfl, rfl, ?_, rfl, rfl, rfl, rfl, rfl, rfl, rfl, rfl, rfl, trivial⟩ (by decide)⟩
        show C.v (V.int .i64 (IntKind.i64.wrap ((k : Int) + 1))) = _
        rw [vk]
      · conv => whnf
        repeat (first | refine ⟨fun h => absurd h (by decide), fun _ => ?_⟩
                      | refine ⟨fun _ => ?_, fun h => absurd h (by decide)⟩
                      | refine ⟨fun _ => ?_, fun h => absurd h (by simp; first | done | omega | fail "x")⟩
                      | refine ⟨fun h => absurd h (by simp; first | done | omega | fail "x"), fun _ => ?_⟩
                      | fail "end"
                (conv => whnf))
        refine AC.of_pc hdo rfl ?_
        conv => whnf
        repeat (first | refine ⟨fun h => absurd h (by decide), fun _ => ?_⟩
                      | refine ⟨fun _ => ?_, fun h => absurd h (by decide)⟩
                      | refine ⟨fun _ => ?_, fun h => absurd h (by simp; first | done | omega | fail "x")⟩
                      | refine ⟨fun h => absurd h (by simp; first | done | omega | fail "x"), fun _ => ?_⟩
                      | fail "end"
                (conv => whnf))
        refine ⟨⟨k + 1, all, sts, bss, x, a', b', na⟩, ⟨hlt, hHd, hFd, by show x.disk.loose.length ≤ 2000 * (k + 1) + 2000; omega⟩, by show l.length - (k + 1) < l.length - k; omega, Turns.weak ⟨rfl, rfl, rfl, rfl, rfl, rfl, rfl, rfl, rfl, rfl, rfl, rfl, ?_, rfl, rfl, rfl, rfl, rfl, rfl, rfl, rfl, rfl, trivial⟩ (by decide)⟩
        show C.v (V.int .i64 (IntKind.i64.wrap ((k : Int) + 1))) = _
        rw [vk]
  · conv => whnf
end Go.Proofs.YtjhblbipjljojaaDoor
