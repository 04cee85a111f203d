/- The law WalFull: its function is true. No claim of its own. -/
import Derived.Test.YtjhblbipjljojaaDoorAWal11
namespace Go.Proofs.YtjhblbipjljojaaDoor
open Go.Am

theorem spill_loose {w : Gw.Wal.Wal} {R : List (List UInt8)} {st mst : List UInt8} (h : Gw.Wal.Inv w R st mst) : (Gw.Wal.spill w).1.disk.loose.length ≤ w.disk.loose.length + 2000 := by
  have h1 := h.looseLe 2 []
  have e : Gw.Wal.step w 2 [] = Gw.Wal.spill w := rfl
  rw [e] at h1
  exact h1
theorem wipe_loose {w : Gw.Wal.Wal} {R : List (List UInt8)} {st mst : List UInt8} (h : Gw.Wal.Inv w R st mst) : (Gw.Wal.wipe w).1.disk.loose.length ≤ w.disk.loose.length + 2000 := by
  have h1 := h.looseLe 5 []
  have e : Gw.Wal.step w 5 [] = Gw.Wal.wipe w := rfl
  rw [e] at h1
  exact h1
theorem mark_loose {w : Gw.Wal.Wal} {R : List (List UInt8)} {st mst : List UInt8} (h : Gw.Wal.Inv w R st mst) (s : List UInt8) : (Gw.Wal.mark w s).1.disk.loose.length ≤ w.disk.loose.length + 2000 := by
  have h1 := h.looseLe 4 s
  have e : Gw.Wal.step w 4 s = Gw.Wal.mark w s := rfl
  rw [e] at h1
  exact h1
theorem sync_loose {w : Gw.Wal.Wal} {R : List (List UInt8)} {st mst : List UInt8} (h : Gw.Wal.Inv w R st mst) : (Gw.Wal.sync w).disk.loose = [] := by
  obtain ⟨a1, a2, a3, a4⟩ := h.flushDisk
  unfold Gw.Wal.sync
  split <;> exact a3
/-- A spill, by its flags. -/
theorem spill_fl {w : Gw.Wal.Wal} {R : List (List UInt8)} {st mst : List UInt8} (h : Gw.Wal.Inv w R st mst) (nl nw : Bool) (hf : Fl nl nw w) (hl : w.disk.loose.length ≤ 890000) : ∃ a b, Fl a b (Gw.Wal.spill w).1 ∧ PC Tryd.prog 22 [encW nl nw w] (.tup [encW a b (Gw.Wal.spill w).1, .int .i64 ((Gw.Wal.spill w).2 : Nat)]) := by
  have hc := spill_pc h nl nw hf.1 (by omega)
  refine ⟨if (Gw.Wal.spill w).2 = 0 ∧ w.waits ≠ [] then false else nl, if (Gw.Wal.spill w).2 = 0 ∧ w.waits ≠ [] then true else nw, ⟨?_, ?_⟩, hc⟩
  · rcases h.spill with ⟨g1, g2⟩ | ⟨g1, g2, g3, g4⟩ | ⟨g1, g2, g3, g4⟩
    · rw [if_neg (fun e => g1 e.1), g2]; exact hf.1
    · rw [if_neg (fun e => e.2 g2), g4]; exact hf.1
    · by_cases hw : w.waits = []
      · rw [if_neg (fun e => e.2 hw)]
        have : Gw.Wal.spill w = (w, 0) := by
          have := g1
          unfold Gw.Wal.spill at this ⊢
          rw [if_neg (show ¬ w.marked ≠ 0 from fun e => e g2)] at this ⊢
          split at this
          · cases this
          · rename_i h5; rw [if_neg h5, if_pos hw]
        rw [this]; exact hf.1
      · rw [if_pos ⟨g1, hw⟩]; intro e; cases e
  · rcases h.spill with ⟨g1, g2⟩ | ⟨g1, g2, g3, g4⟩ | ⟨g1, g2, g3, g4, _⟩
    · rw [if_neg (fun e => g1 e.1), g2]; exact hf.2
    · rw [if_neg (fun e => e.2 g2), g4]; exact hf.2
    · intro _; exact g4
set_option maxHeartbeats 4000000 in
theorem full_pc (p s : List UInt8) : PC Tryd.prog 6 [.str p, .str s] (.bool true) := by
  have hnew := wnew_pc 24
  have h24 : newV 24 = .tup [encW true true (Gw.Wal.new 24).1, .int .i64 0] := by kernel_rfl
  have hok : (Gw.Wal.new 24).2 = 0 := by kernel_rfl
  obtain ⟨i0, g1, g2, g3, g4, g5, g6, g7, g8⟩ := Gw.Wal.new_inv (size := 24) (by decide) hok
  have hlo := Gw.Wal.new_loose (size := 24) (by decide) hok
  rw [h24] at hnew
  have hF0 : Gw.Wal.FuS 0 0 (Gw.Wal.new 24).1 := ⟨[], i0, g2, g3, g5, by rw [g7]; rfl, by rw [g1], .inl ⟨rfl, g4, g8, by omega⟩⟩
  generalize (Gw.Wal.new 24).1 = w0 at *
  refine PC.of tabOk mixed (fn := Tryd.f6) (by kernel_rfl) rfl (by kernel_rfl) rfl rfl ?_
  conv => whnf
  refine AC.of_pc awake_pc rfl ?_
  conv => whnf
  refine AC.of_pc hnew rfl ?_
  conv => whnf
  refine ⟨fun h1 => ?_, fun h1 => ?_⟩
  · conv => whnf
    repeat (first | refine ⟨fun _ => ?_, fun h => absurd h (by decide)⟩ | refine ⟨fun h => absurd h (by decide), fun _ => ?_⟩ | refine ⟨fun _ => ?_, fun h => absurd (show true = false from h) (by decide)⟩ | refine ⟨fun h => absurd (show false = true from h) (by decide), fun _ => ?_⟩
            (conv => whnf))
    rfl
  have h1 := of_decide_eq_false h1
  conv => whnf
  refine ⟨fun h2 => ?_, fun h2 => ?_⟩
  · conv => whnf
    repeat (first | refine ⟨fun _ => ?_, fun h => absurd h (by decide)⟩ | refine ⟨fun h => absurd h (by decide), fun _ => ?_⟩ | refine ⟨fun _ => ?_, fun h => absurd (show true = false from h) (by decide)⟩ | refine ⟨fun h => absurd (show false = true from h) (by decide), fun _ => ?_⟩
            (conv => whnf))
    rfl
  have h2 := of_decide_eq_false h2
  conv => whnf
  repeat (first | refine ⟨fun _ => ?_, fun h => absurd h (by decide)⟩ | refine ⟨fun h => absurd h (by decide), fun _ => ?_⟩ | refine ⟨fun _ => ?_, fun h => absurd (show true = false from h) (by decide)⟩ | refine ⟨fun h => absurd (show false = true from h) (by decide), fun _ => ?_⟩
          (conv => whnf))
  refine AW.loop (fun X : Nat × (Nat × (Gw.Wal.Wal × (Bool × Bool))) => [(.tmp 0, .v (.str p)), (.tmp 1, .v (.str s)), (.tmp 5, .v (.bool true)), (.tmp 6, .v (.ptr 5 0)), (.tmp 8, .v (.int .i64 X.1)), (.tmp 9, .v (.int .i64 X.2.1)),
    (.blk 5, .box 31 (walC X.2.2.2.1 X.2.2.2.2 X.2.2.1))]) 6 (fun X => Gw.Wal.FuS X.1 X.2.1 X.2.2.1 ∧ Fl X.2.2.2.1 X.2.2.2.2 X.2.2.1 ∧ X.2.2.1.disk.loose.length ≤ 2000 * X.1) (fun X => 20 - X.1) (by decide) (0, (0, (w0, (true, true))))
    ⟨hF0, ⟨fun _ => hlo, fun _ => g4⟩, by rw [hlo]; exact Nat.zero_le _⟩ ⟨rfl, rfl, rfl, rfl, rfl, rfl, rfl, rfl, rfl, rfl, rfl, rfl, rfl, rfl, trivial⟩ ?_
  rintro ⟨n, full, w, a, b⟩ ⟨hS, hF, hL⟩
  simp only at hS hF hL
  have hcase : (full = 0 ∧ n ≤ 12) ∨ (full = 120 ∧ n ≤ 13) := by
    obtain ⟨_, _, _, _, _, _, _, h7⟩ := hS
    omega
  refine ev_sound tabOk mixed _ _ _ _ ?_
  rcases hcase with ⟨rfl, hn⟩ | ⟨rfl, hn⟩
  · obtain ⟨hS', R', hI'⟩ := hS.turn (p := p) (by omega)
    obtain ⟨R, hI, hbs, hsq, hmk, hsz, hnx, _⟩ := hS
    have hap := append_pc a b w p (by omega) (by have := hI.nxt; omega)
    have hav : appendV a b w p = .tup [encW a false (Gw.Wal.append w p).1, .int .i64 ((Gw.Wal.append w p).2.1 : Nat), .int .i64 ((Gw.Wal.append w p).2.2 : Nat)] := by
      unfold appendV; rw [if_neg (show ¬ (40000 < p.length ∨ 1000000 < w.next) by omega)]
    rw [hav] at hap
    have hlo' : (Gw.Wal.append w p).1.disk = w.disk := by unfold Gw.Wal.append; split <;> rfl
    obtain ⟨a', b', hF', hsp⟩ := spill_fl hI' a false ⟨by rw [hlo']; exact hF.1, fun e => by cases e⟩ (by rw [hlo']; omega)
    have hL' := spill_loose hI'
    rw [hlo'] at hL'
    generalize (Gw.Wal.append w p).2.1 = n1 at *
    generalize (Gw.Wal.append w p).2.2 = n2 at *
    generalize (Gw.Wal.append w p).1 = x at *
    generalize Gw.Wal.spill x = y at *
    obtain ⟨y, e⟩ := y
    simp only at hS' hF' hsp hL'
    conv => whnf
    repeat (first | refine ⟨fun _ => ?_, fun h => absurd h (by decide)⟩ | refine ⟨fun h => absurd h (by decide), fun _ => ?_⟩ | refine ⟨fun _ => ?_, fun h => absurd (show true = false from h) (by decide)⟩ | refine ⟨fun h => absurd (show false = true from h) (by decide), fun _ => ?_⟩
            (conv => whnf))
    refine ⟨fun h3 => ?_, fun h3 => absurd h3 (by simp; first | done | omega | fail "x")⟩
    conv => whnf
    refine AC.of_pc hap rfl ?_
    conv => whnf
    refine AC.of_pc hsp rfl ?_
    conv => whnf
    refine ⟨(n + 1, (e, (y, (a', b')))), ⟨hS', hF', by show y.disk.loose.length ≤ 2000 * (n + 1); omega⟩, by show 20 - (n + 1) < 20 - n; omega, rfl, rfl, rfl, rfl, rfl, rfl, rfl, rfl, ?_, rfl, rfl, rfl, rfl, rfl, trivial⟩
    show C.v (V.int .i64 (IntKind.i64.wrap ((n : Int) + 1))) = _
    rw [w64 (by omega) (by omega)]; rfl
  · obtain ⟨⟨R, hI⟩, e1, e2, e3, e4, e5, ⟨R1, e6⟩, e7, ⟨R2, e8⟩, e9, e10, e11, e12, e13, e14, e15, e16, e17⟩ := hS.end_ (s := s) (by omega)
    have hmp := wmark_pc hI a b s (by omega) hF.1 (by omega)
    have hml := mark_loose hI s
    have hmf : Fl (if markOk w s = true then false else a) b (Gw.Wal.mark w s).1 := by
      refine ⟨?_, ?_⟩
      · split
        · intro e; cases e
        · rename_i hno
          intro e
          exfalso
          apply hno
          unfold Gw.Wal.mark at e5
          split at e5
          · cases e5
          split at e5
          · cases e5
          split at e5
          · cases e5
          unfold markOk
          rw [Bool.and_eq_true, Bool.and_eq_true, decide_eq_true_eq, decide_eq_true_eq, decide_eq_true_eq]
          omega
      · rcases hI.mark (s := s) (by omega) with ⟨k1, k2⟩ | ⟨k1, k2, k3, k4, k5, _⟩
        · rw [k2]; exact hF.2
        · rw [k5]; exact hF.2
    unfold wmarkV at hmp
    rw [e5] at hmp
    generalize (if markOk w s = true then false else a) = a1 at hmp hmf
    have hsp := spill_pc e6 a1 b hmf.1 (by omega)
    have hsv : spillV a1 b (Gw.Wal.mark w s).1 = .tup [encW a1 b (Gw.Wal.mark w s).1, .int .i64 140] := by
      unfold spillV; rw [e7]; rfl
    rw [hsv] at hsp
    have hsy := sync_pc e6 a1 b hmf.1 (by omega)
    have hsl := sync_loose e6
    have hsw : b = true → (Gw.Wal.sync (Gw.Wal.mark w s).1).waits = [] := fun e => by
      unfold Gw.Wal.sync; split <;> exact hmf.2 e
    unfold syncV at hsy
    have hwp := wipe_pc e8 true b (fun _ => hsl) hsw (by rw [hsl]; decide)
    have hwl := wipe_loose e8
    rw [hsl] at hwl
    unfold wipeV at hwp
    rw [e9] at hwp
    have hm2 : ¬ (Gw.Wal.sync (Gw.Wal.mark w s).1).marked ≠ 2 := fun e => by
      unfold Gw.Wal.wipe at e9; rw [if_pos e] at e9; cases e9
    rw [if_neg hm2] at hwp
    have h0 := e10.size0
    have hsm := e10.small
    have hop := wopen_pc false (Gw.Wal.wipe (Gw.Wal.sync (Gw.Wal.mark w s).1)).1.disk (fun e => by cases e) (by unfold I64; omega) (by simp only [List.length_nil] at hwl; omega)
    rw [openedV_of e15, e16, e17] at hop
    have hel := encSL_len w.waits
    generalize Gw.Wal.open_ (Gw.Wal.wipe (Gw.Wal.sync (Gw.Wal.mark w s).1)).1.disk = O at *
    generalize (Gw.Wal.wipe (Gw.Wal.sync (Gw.Wal.mark w s).1)).1 = z at *
    generalize Gw.Wal.sync (Gw.Wal.mark w s).1 = y at *
    generalize (Gw.Wal.mark w s).1 = x at *
    have v1 : IntKind.i64.wrap ((n : Int) + 1) = (n : Int) + 1 := w64 (by omega) (by omega)
    have v2 : IntKind.i64.wrap ((n : Int) - 1) = (n : Int) - 1 := w64 (by omega) (by omega)
    conv => whnf
    repeat (first | refine ⟨fun _ => ?_, fun h => absurd h (by decide)⟩ | refine ⟨fun h => absurd h (by decide), fun _ => ?_⟩ | refine ⟨fun _ => ?_, fun h => absurd (show true = false from h) (by decide)⟩ | refine ⟨fun h => absurd (show false = true from h) (by decide), fun _ => ?_⟩
            (conv => whnf))
    repeat (first | refine ⟨fun _ => ?_, fun h => absurd h (by decide)⟩
                  | refine ⟨fun h => absurd h (by decide), fun _ => ?_⟩
                  | refine ⟨fun h => absurd h (by rw [hel, e1]; decide), fun _ => ?_⟩
                  | refine ⟨fun h => absurd h (by rw [v1]; simp; first | done | omega | fail "x"), fun _ => ?_⟩
                  | refine ⟨fun h => absurd h (by rw [v2]; simp; first | done | omega | fail "x"), fun _ => ?_⟩
                  | refine AC.of_pc hmp rfl ?_
                  | refine AC.of_pc hsp rfl ?_
                  | refine AC.of_pc hsy rfl ?_
                  | refine AC.of_pc hwp rfl ?_
                  | refine AC.of_pc hop rfl ?_
                  | refine ⟨fun _ => ?_, fun h => absurd h (by rw [e11]; decide)⟩
                  | refine ⟨fun _ => ?_, fun h => absurd h (by rw [v1]; simp; first | done | omega | fail "x")⟩
                  | refine ⟨fun _ => ?_, fun h => absurd h (by simp; first | done | omega | fail "x")⟩
                  | fail "end"
            (conv => whnf))
    rfl
end Go.Proofs.YtjhblbipjljojaaDoor
