/- The law WalTwice: its function is true. No claim of its own. -/
import Derived.Test.YtjhblbipjljojaaDoorAWalM
import Derived.Test.YtjhblbipjljojaaDoorWalPl
namespace Go.Proofs.YtjhblbipjljojaaDoor
open Go.Am

/-- What an opened log's flags are. -/
theorem reopened_pc {w : Gw.Wal.Wal} {R : List (List UInt8)} {st mst : List UInt8} (h : Gw.Wal.Inv w R st mst) {d : Gw.Disk.Disk} (hsz : d.size = w.disk.size) (hl : d.loose = []) (he : (Gw.Wal.open_ d).err = 0) :
    PC Tryd.prog 12 [encD true d] (.tup [encW false true (Gw.Wal.open_ d).wal, .str (Gw.Wal.open_ d).state, .lst (decide ((Gw.Wal.open_ d).recs = [])) 1 (encSL (Gw.Wal.open_ d).recs) .none, .int .i64 0]) := by
  have h0 := h.size0
  have h1 := h.small
  have ho := wopen_pc true d (fun _ => hl) (by rw [hsz]; unfold I64; omega) (by rw [hl]; decide)
  rw [openedV_of he] at ho
  exact ho
set_option maxHeartbeats 4000000 in
theorem twice_pc (n : Nat) (hn : n ≤ 255) (nil : Bool) (l : List (Int × List UInt8)) (picks : List UInt8) (hl : l.length ≤ 9223372036854775807) : PC Tryd.prog 7 [.int .u8 n, .lst nil 2 (l.map encSt) .none, .str picks] (.bool true) := by
  have hel : (l.map encSt).length = l.length := List.length_map _
  have hnew := wnew_pc ((n % 100 : Nat) : Int)
  have hfew := fewSt_pc nil l 40 hl
  have hmod : IntKind.i64.wrap (((n : Int)).tmod 100) = ((n % 100 : Nat) : Int) := by rw [tmod_pos (by omega), w64 (by omega) (by omega)]; omega
  have hinv := Gw.Wal.new_inv (size := ((n % 100 : Nat) : Int)) (by omega)
  have hlo := Gw.Wal.new_loose (size := ((n % 100 : Nat) : Int)) (by omega)
  unfold newV at hnew
  generalize Gw.Wal.new ((n % 100 : Nat) : Int) = nw at *
  obtain ⟨w0, e0⟩ := nw
  simp only at hnew hinv hlo
  refine PC.of tabOk mixed (fn := Tryd.f7) (by kernel_rfl) rfl (by kernel_rfl) rfl rfl ?_
  conv => whnf
  refine AC.of_pc awake_pc rfl ?_
  conv => whnf
  rw [← hmod] at hnew
  refine AC.of_pc hnew rfl ?_
  conv => whnf
  refine AC.of_pc hfew rfl ?_
  conv => whnf
  refine ⟨fun h1 => ?_, fun h1 => ?_⟩
  · conv => whnf
    repeat (first | refine ⟨fun _ => ?_, fun h => absurd h (by decide)⟩ | refine ⟨fun h => absurd h (by decide), fun _ => ?_⟩ | refine ⟨fun _ => ?_, fun h => absurd (show true = false from h) (by decide)⟩ | refine ⟨fun h => absurd (show false = true from h) (by decide), fun _ => ?_⟩
            (conv => whnf))
  have h1 : (l.all fun s => decide (s.2.length ≤ 200)) = true ∧ l.length ≤ 40 := by
    simp at h1
    exact ⟨by simpa using h1.1, by omega⟩
  obtain ⟨f1, f2⟩ := h1
  conv => whnf
  refine ⟨fun h2 => ?_, fun h2 => ?_⟩
  · conv => whnf
    repeat (first | refine ⟨fun _ => ?_, fun h => absurd h (by decide)⟩ | refine ⟨fun h => absurd h (by decide), fun _ => ?_⟩ | refine ⟨fun _ => ?_, fun h => absurd (show true = false from h) (by decide)⟩ | refine ⟨fun h => absurd (show false = true from h) (by decide), fun _ => ?_⟩
            (conv => whnf))
  have hpk := of_decide_eq_false h2
  conv => whnf
  refine ⟨fun h2 => ?_, fun h2 => ?_⟩
  · conv => whnf
  have h2 : e0 = 0 := by simpa using h2
  obtain ⟨i0, g1, g2, g3, g4, g5, g6, g7, g8⟩ := hinv h2
  have hlo := hlo h2
  conv => whnf
  refine AW.loop (fun X : Nat × (Gw.Wal.Wal × (Bool × Bool)) => [(.tmp 1, .v (.lst nil 2 (l.map encSt) .none)), (.tmp 2, .v (.str picks)), (.tmp 7, .v (.bool true)), (.tmp 8, .v (.ptr 8 0)), (.tmp 10, .v (.int .i64 X.1)),
    (.blk 8, .box 31 (walC X.2.2.1 X.2.2.2 X.2.1))]) 9 (fun X => X.1 ≤ l.length ∧ (∃ R st mst, Gw.Wal.Inv X.2.1 R st mst) ∧ Fl X.2.2.1 X.2.2.2 X.2.1 ∧ X.2.1.disk.loose.length ≤ 2000 * X.1) (fun X => l.length - X.1) (by decide) (0, (w0, (true, true)))
    ⟨Nat.zero_le _, ⟨_, _, _, i0⟩, ⟨fun _ => hlo, fun _ => g4⟩, by rw [hlo]; exact Nat.zero_le _⟩ ⟨rfl, rfl, rfl, rfl, rfl, rfl, rfl, rfl, rfl, rfl, rfl, rfl, trivial⟩ ?_
  rintro ⟨k, w, a, b⟩ ⟨hk, ⟨R, st, mst, hI⟩, hF, hL⟩
  simp only at hk hI hF hL
  refine ev_sound tabOk mixed _ _ _ _ ?_
  conv => whnf
  refine ⟨fun h3 => ?_, fun h3 => ?_⟩
  · have h3 := of_decide_eq_true h3
    have hlt : k < l.length := by omega
    have hel2 := encSt_get hlt
    have hpl := of_decide_eq_true (List.all_eq_true.1 f1 _ (List.getElem_mem hlt))
    obtain ⟨a', b', hF', hdo⟩ := do_pc hI a b hF l[k].1 l[k].2 hpl (by omega)
    obtain ⟨R', st', mst', hI'⟩ := hI.step l[k].1 hpl
    have hL' := hI.looseLe l[k].1 l[k].2
    generalize Gw.Wal.step w l[k].1 l[k].2 = x at *
    obtain ⟨x, e⟩ := x
    simp only at hI' hL' hF' hdo
    conv => whnf
    refine ⟨_, ⟨by omega, hel2⟩, ?_⟩
    conv => whnf
    refine ⟨_, rfl, hdo, ?_⟩
    conv => whnf
    refine ⟨by kernel_rfl, ?_⟩
    conv => whnf
    refine ⟨(k + 1, (x, (a', b'))), ⟨hlt, ⟨_, _, _, hI'⟩, hF', by show x.disk.loose.length ≤ 2000 * (k + 1); omega⟩, by show l.length - (k + 1) < l.length - k; omega, rfl, rfl, rfl, rfl, rfl, rfl, rfl, rfl, ?_, rfl, rfl, rfl, trivial⟩
    show C.v (V.int .i64 (IntKind.i64.wrap ((k : Int) + 1))) = _
    rw [w64 (by omega) (by omega)]; rfl
  · obtain ⟨c1, c2, c3, c4⟩ := crashed_pc hI a picks (by omega) hF.1 (by omega)
    obtain ⟨q, bb, s, R', t1, t2⟩ := hI.crashed (Gw.Wal.ba picks)
    have hst := t1.state
    have hrc := t1.recs
    generalize Gw.Wal.open_ (Gw.Disk.crash w.disk (Gw.Wal.ba picks)) = A at *
    obtain ⟨d1, d2, d3, d4⟩ := crashed_pc t2 false picks (by omega) c4.1 (by omega)
    obtain ⟨u1, u2, u3, u4⟩ := t2.crashDisk (Gw.Wal.ba picks)
    obtain ⟨v1, v2, v3, v4, v5, v6, v7⟩ := t2.again t1.marked t1.dirty u1 u2 u4
    have x1 := wflush_pc t2 false (fun e => by cases e) (by omega)
    obtain ⟨y1, y2, y3, y4⟩ := t2.flushDisk
    obtain ⟨z1, z2, z3, z4, z5, z6, z7⟩ := t2.again t1.marked t1.dirty y1 y2 y4
    have x2 := reopened_pc t2 y2 y3 z1
    have hsm := fun na nb => strSame_pc na nb R' R' (by have := t2.spl; have := t2.big; have := t2.nxt; omega)
    rw [v2, v3] at d2
    rw [z2, z3] at x2
    rw [hst, hrc] at c2
    have hnx : A.wal.next = A.wal.base + R'.length := by rw [t1.next, t1.base]
    generalize Gw.Wal.open_ (Gw.Disk.crash A.wal.disk (Gw.Wal.ba picks)) = B at *
    generalize Gw.Wal.open_ (Gw.Disk.flush A.wal.disk) = C at *
    conv => whnf
    refine AC.of_pc c1 rfl ?_
    conv => whnf
    refine AC.of_pc c2 rfl ?_
    conv => whnf
    refine AC.of_pc d1 rfl ?_
    conv => whnf
    refine AC.of_pc d2 rfl ?_
    conv => whnf
    refine AC.of_pc x1 rfl ?_
    conv => whnf
    refine AC.of_pc x2 rfl ?_
    conv => whnf
    repeat (first | refine ⟨fun _ => ?_, fun h => absurd h (by decide)⟩
                  | refine ⟨fun _ => ?_, fun h => absurd h (by rw [v4]; simp; first | done | fail "x")⟩
                  | refine ⟨fun _ => ?_, fun h => absurd h (by rw [v5]; simp; first | done | fail "x")⟩
                  | refine ⟨fun _ => ?_, fun h => absurd h (by rw [v6, hnx]; simp; first | done | fail "x")⟩
                  | refine ⟨fun _ => ?_, fun h => absurd h (by rw [v7]; simp; first | done | fail "x")⟩
                  | refine ⟨fun _ => ?_, fun h => absurd h (by rw [z4]; simp; first | done | fail "x")⟩
                  | refine ⟨fun _ => ?_, fun h => absurd h (by rw [z6, hnx]; simp; first | done | fail "x")⟩
                  | refine ⟨fun _ => ?_, fun h => absurd h (by simp; first | done | fail "x")⟩
                  | refine AC.of_pc (hsm _ _) rfl ?_
                  | fail "end"
            (conv => whnf))
    rw [decide_eq_true rfl]
end Go.Proofs.YtjhblbipjljojaaDoor
