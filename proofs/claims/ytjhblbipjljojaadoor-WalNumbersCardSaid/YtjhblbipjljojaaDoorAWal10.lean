/- The law WalNumbers: its function is true. No claim of its own. -/
import Derived.Test.YtjhblbipjljojaaDoorAWalM
import Derived.Test.YtjhblbipjljojaaDoorWalPl
namespace Go.Proofs.YtjhblbipjljojaaDoor
open Go.Am

set_option maxHeartbeats 4000000 in
theorem numbers_pc (n : Nat) (hn : n ≤ 255) (nil : Bool) (l : List (Int × List UInt8)) (hl : l.length ≤ 9223372036854775807) : PC Tryd.prog 8 [.int .u8 n, .lst nil 2 (l.map encSt) .none] (.bool true) := by
  have hel : (l.map encSt).length = l.length := List.length_map _
  have hnew := wnew_pc ((n % 100 : Nat) : Int)
  have hfew := fewSt_pc nil l 40 hl
  have hmod : IntKind.i64.wrap (((n : Int)).tmod 100) = ((n % 100 : Nat) : Int) := by rw [tmod_pos (by omega), w64 (by omega) (by omega)]; omega
  have hinv := Gw.Wal.new_inv (size := ((n % 100 : Nat) : Int)) (by omega)
  have hlo := Gw.Wal.new_loose (size := ((n % 100 : Nat) : Int)) (by omega)
  unfold newV at hnew
  generalize Gw.Wal.new ((n % 100 : Nat) : Int) = nw at *
  obtain ⟨w0, e0⟩ := nw
  simp only at hnew hinv hlo
  refine PC.of tabOk mixed (fn := Tryd.f8) (by kernel_rfl) rfl (by kernel_rfl) rfl rfl ?_
  conv => whnf
  refine AC.of_pc awake_pc rfl ?_
  conv => whnf
  rw [← hmod] at hnew
  refine AC.of_pc hnew rfl ?_
  conv => whnf
  refine AC.of_pc hfew rfl ?_
  conv => whnf
  refine ⟨fun h1 => ?_, fun h1 => ?_⟩
  · conv => whnf
  have h1 : (l.all fun s => decide (s.2.length ≤ 200)) = true ∧ l.length ≤ 40 := by
    simp at h1
    exact ⟨by simpa using h1.1, by omega⟩
  obtain ⟨f1, f2⟩ := h1
  conv => whnf
  refine ⟨fun h2 => ?_, fun h2 => ?_⟩
  · conv => whnf
  have h2 : e0 = 0 := by simpa using h2
  obtain ⟨i0, g1, g2, g3, g4, g5, g6, g7, g8⟩ := hinv h2
  have hlo := hlo h2
  conv => whnf
  refine AW.loop (fun X : Nat × (Gw.Wal.Wal × (Bool × Bool)) => [(.tmp 1, .v (.lst nil 2 (l.map encSt) .none)), (.tmp 5, .v (.bool true)), (.tmp 6, .v (.ptr 8 0)), (.tmp 8, .v (.int .i64 X.1)),
    (.blk 8, .box 31 (walC X.2.2.1 X.2.2.2 X.2.1))]) 9 (fun X => X.1 ≤ l.length ∧ (∃ R st mst, Gw.Wal.Inv X.2.1 R st mst) ∧ Fl X.2.2.1 X.2.2.2 X.2.1 ∧ X.2.1.disk.loose.length ≤ 2000 * X.1) (fun X => l.length - X.1) (by decide) (0, (w0, (true, true)))
    ⟨Nat.zero_le _, ⟨_, _, _, i0⟩, ⟨fun _ => hlo, fun _ => g4⟩, by rw [hlo]; exact Nat.zero_le _⟩ ⟨rfl, rfl, rfl, rfl, rfl, rfl, rfl, rfl, rfl, rfl, trivial⟩ ?_
  rintro ⟨k, w, a, b⟩ ⟨hk, ⟨R, st, mst, hI⟩, hF, hL⟩
  simp only at hk hI hF hL
  refine ev_sound tabOk mixed _ _ _ _ ?_
  conv => whnf
  refine ⟨fun h3 => ?_, fun h3 => ?_⟩
  · have h3 := of_decide_eq_true h3
    have hlt : k < l.length := by omega
    have hel2 := encSt_get hlt
    have hpl := of_decide_eq_true (List.all_eq_true.1 f1 _ (List.getElem_mem hlt))
    obtain ⟨a', b', hF', hdo⟩ := do_pc hI a b hF l[k].1 l[k].2 hpl (by omega)
    obtain ⟨R', st', mst', hI'⟩ := hI.step l[k].1 hpl
    have hL' := hI.looseLe l[k].1 l[k].2
    have hnum := hI.nums l[k].1 (p := l[k].2)
    have hb := hI.ends2
    have hb' := hI'.ends2
    generalize Gw.Wal.step w l[k].1 l[k].2 = x at *
    obtain ⟨x, e⟩ := x
    simp only at hI' hL' hnum hb' hF' hdo
    generalize l[k].1 = kind at *
    generalize l[k].2 = txt at *
    have hwl := encSL_len x.waits
    conv => whnf
    refine ⟨_, ⟨by omega, hel2⟩, ?_⟩
    conv => whnf
    refine ⟨_, rfl, hdo, ?_⟩
    conv => whnf
    refine ⟨by kernel_rfl, ?_⟩
    conv => whnf
    refine ⟨_, ⟨by omega, hel2⟩, ?_⟩
    conv => whnf
    obtain ⟨u1, u2, u3, u4, u5, u6, u7, u8, u9, u10, u11⟩ := hb'
    have v1 : IntKind.i64.wrap ((w.next : Int) + 1) = (w.next : Int) + 1 := w64 (by omega) (by omega)
    have v2 : IntKind.i64.wrap ((x.next : Int) - 1) = (x.next : Int) - 1 := w64 (by omega) (by omega)
    have v3 : IntKind.i64.wrap ((x.next : Int) - 1 - (x.spilled : Int)) = (x.next : Int) - 1 - (x.spilled : Int) := w64 (by omega) (by omega)
    have v4 : IntKind.i64.wrap (x.disk.size.tdiv 4) = x.disk.size / 4 := by rw [tdiv_pos u9, w64 (by omega) (by omega)]
    have v5 : IntKind.i64.wrap (2 * (x.disk.size / 4)) = 2 * (x.disk.size / 4) := w64 (by omega) (by omega)
    rcases hnum with ⟨hk1, he, hx⟩ | ⟨hk1, he⟩ | ⟨hk2, he, hx1, hx2⟩ | ⟨hk2, he⟩ | ⟨hk3, hx⟩ | ⟨hk1, hk2, hk3⟩
    all_goals
      repeat (first
                | refine ⟨fun _ => ?_, fun h => absurd h (by decide)⟩
                | refine ⟨fun h => absurd h (by decide), fun _ => ?_⟩
                | refine ⟨fun _ => ?_, fun h => absurd (show true = false from h) (by decide)⟩
                | refine ⟨fun h => absurd (show false = true from h) (by decide), fun _ => ?_⟩
                | refine ⟨fun h => absurd h (by simp [v1, v2, v3, v4, v5, hwl]; first | done | omega | fail "x"), fun _ => ?_⟩
                | refine ⟨fun _ => ?_, fun h => absurd h (by simp [hwl]; first | done | omega | fail "x")⟩
                | refine ⟨fun h => absurd h (by rw [hwl, hx2]; decide), fun _ => ?_⟩
                | refine ⟨_, ⟨by omega, hel2⟩, ?_⟩
                | fail "end"
              (conv => whnf))
    all_goals
      refine ⟨(k + 1, (x, (a', b'))), ⟨hlt, ⟨_, _, _, hI'⟩, hF', by show x.disk.loose.length ≤ 2000 * (k + 1); omega⟩, by show l.length - (k + 1) < l.length - k; omega, rfl, rfl, rfl, rfl, rfl, rfl, ?_, rfl, rfl, rfl, trivial⟩
      show C.v (V.int .i64 (IntKind.i64.wrap ((k : Int) + 1))) = _
      rw [w64 (by omega) (by omega)]; rfl
  · conv => whnf
end Go.Proofs.YtjhblbipjljojaaDoor
