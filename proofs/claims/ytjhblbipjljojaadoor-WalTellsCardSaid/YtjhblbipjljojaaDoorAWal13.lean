/- The law WalSyncs: its function is true. No claim of its own. -/
import Derived.Test.YtjhblbipjljojaaDoorAWal12
namespace Go.Proofs.YtjhblbipjljojaaDoor
open Go.Am

set_option maxHeartbeats 4000000 in
theorem syncs_pc (na nb : Bool) (a b : List (List UInt8)) (picks : List UInt8) (hla : a.length ≤ 9223372036854775807) (hlb : b.length ≤ 9223372036854775807) : PC Tryd.prog 5 [.lst na 1 (encSL a) .none, .lst nb 1 (encSL b) .none, .str picks] (.bool true) := by
  have hnew := wnew_pc 1000
  have h24 : newV 1000 = .tup [encW true true (Gw.Wal.new 1000).1, .int .i64 0] := by kernel_rfl
  have hok : (Gw.Wal.new 1000).2 = 0 := by kernel_rfl
  obtain ⟨i0, g1, g2, g3, g4, g5, g6, g7, g8⟩ := Gw.Wal.new_inv (size := 1000) (by decide) hok
  have hlo := Gw.Wal.new_loose (size := 1000) (by decide) hok
  rw [h24] at hnew
  have hS0 : Gw.Wal.SyS a (a ++ b) 0 (Gw.Wal.new 1000).1 := ⟨by rw [if_pos (Nat.zero_le _)]; exact i0, g2, g5, by rw [g7]; rfl, by rw [g4]; simp, by rw [g6, if_pos (Nat.zero_le _)]⟩
  generalize (Gw.Wal.new 1000).1 = w0 at *
  have hea := encSL_len a
  have heb := encSL_len b
  refine PC.of tabOk mixed (fn := Tryd.f5) (by kernel_rfl) rfl (by kernel_rfl) rfl rfl ?_
  conv => whnf
  refine AC.of_pc awake_pc rfl ?_
  conv => whnf
  refine AC.of_pc hnew rfl ?_
  conv => whnf
  refine ⟨fun h1 => ?_, fun h1 => ?_⟩
  · conv => whnf
    repeat (first | refine ⟨fun _ => ?_, fun h => absurd h (by decide)⟩ | refine ⟨fun h => absurd h (by decide), fun _ => ?_⟩ | refine ⟨fun _ => ?_, fun h => absurd (show true = false from h) (by decide)⟩ | refine ⟨fun h => absurd (show false = true from h) (by decide), fun _ => ?_⟩
            (conv => whnf))
    rfl
  have h1 := of_decide_eq_false h1
  conv => whnf
  refine ⟨fun h2 => ?_, fun h2 => ?_⟩
  · conv => whnf
    repeat (first | refine ⟨fun _ => ?_, fun h => absurd h (by decide)⟩ | refine ⟨fun h => absurd h (by decide), fun _ => ?_⟩ | refine ⟨fun _ => ?_, fun h => absurd (show true = false from h) (by decide)⟩ | refine ⟨fun h => absurd (show false = true from h) (by decide), fun _ => ?_⟩
            (conv => whnf))
    rfl
  have h2 := of_decide_eq_false h2
  conv => whnf
  refine ⟨fun h3 => ?_, fun h3 => ?_⟩
  · conv => whnf
    repeat (first | refine ⟨fun _ => ?_, fun h => absurd h (by decide)⟩ | refine ⟨fun h => absurd h (by decide), fun _ => ?_⟩ | refine ⟨fun _ => ?_, fun h => absurd (show true = false from h) (by decide)⟩ | refine ⟨fun h => absurd (show false = true from h) (by decide), fun _ => ?_⟩
            (conv => whnf))
    rfl
  have h3 := of_decide_eq_false h3
  conv => whnf
  repeat (first | refine ⟨fun _ => ?_, fun h => absurd h (by decide)⟩ | refine ⟨fun h => absurd h (by decide), fun _ => ?_⟩ | refine ⟨fun _ => ?_, fun h => absurd (show true = false from h) (by decide)⟩ | refine ⟨fun h => absurd (show false = true from h) (by decide), fun _ => ?_⟩
          (conv => whnf))
  refine ⟨fits_small (by rw [hea]; show 0 + a.length ≤ _; omega) (by decide), ?_⟩
  conv => whnf
  have happ : [] ++ encSL a ++ encSL b = encSL (a ++ b) := by simp [encSL]
  have hablen : (encSL (a ++ b)).length = (a ++ b).length := encSL_len _
  have habl : (a ++ b).length = a.length + b.length := List.length_append
  refine ⟨⟨by simp, fits_small (by rw [List.nil_append, hea, heb]; omega) (by decide)⟩, ?_⟩
  conv => whnf
  refine AW.loop (fun X : Nat × (Gw.Wal.Wal × (Bool × Bool)) => [(.tmp 0, .v (.lst na 1 (encSL a) .none)), (.tmp 1, .v (.lst nb 1 (encSL b) .none)), (.tmp 2, .v (.str picks)), (.tmp 7, .v (.bool true)), (.tmp 8, .v (.ptr 5 0)), (.tmp 10, .v (.lst false 1 (encSL (a ++ b)) (.row 27))), (.tmp 11, .v (.int .i64 X.1)),
    (.blk 5, .box 31 (walC X.2.2.1 X.2.2.2 X.2.1))]) 28 (fun X => X.1 ≤ (a ++ b).length ∧ Gw.Wal.SyS a (a ++ b) X.1 X.2.1 ∧ Fl X.2.2.1 X.2.2.2 X.2.1 ∧ X.2.1.disk.loose.length ≤ 2000 * X.1) (fun X => (a ++ b).length - X.1) (by decide) (0, (w0, (true, true)))
    ⟨Nat.zero_le _, hS0, ⟨fun _ => hlo, fun _ => g4⟩, by rw [hlo]; exact Nat.zero_le _⟩ ⟨rfl, rfl, rfl, rfl, rfl, rfl, rfl, rfl, rfl, rfl, ?_, rfl, rfl, rfl, rfl, rfl, trivial⟩ ?_
  · show C.v (V.lst (false && (encSL a).isEmpty && (encSL b).isEmpty) 1 ([] ++ encSL a ++ encSL b) _) = _
    rw [happ]
    rfl
  rintro ⟨k, w, fa, fb⟩ ⟨hk, hS, hF, hL⟩
  simp only at hk hS hF hL
  refine ev_sound tabOk mixed _ _ _ _ ?_
  conv => whnf
  refine ⟨fun h4 => ?_, fun h4 => ?_⟩
  · have h4 := of_decide_eq_true h4
    have hlt : k < (a ++ b).length := by omega
    have hgt := encSL_get hlt
    have hwa : IntKind.i64.wrap ((k : Int) + 1) = ((k + 1 : Nat) : Int) := by rw [w64 (by omega) (by omega)]; omega
    conv => whnf
    refine ⟨_, ⟨by omega, hgt⟩, ?_⟩
    conv => whnf
    refine ⟨fun h5 => ?_, fun h5 => ?_⟩
    · conv => whnf
    have h5 := of_decide_eq_false h5
    have hp : (a ++ b)[k].length ≤ 200 := by omega
    generalize hpk : (a ++ b)[k] = p at hp hgt
    -- what is appended
    have more : ∀ (x : Gw.Wal.Wal) (fa fb : Bool), Gw.Wal.SyM a (a ++ b) k x → Fl fa fb x → x.disk.loose.length ≤ 2000 * k + 2000 → PC Tryd.prog 24 [encW fa fb x, .str p] (.tup [encW fa false (Gw.Wal.append x p).1, .int .i64 (k + 1 : Nat), .int .i64 (0 : Nat)]) ∧ Gw.Wal.SyS a (a ++ b) (k + 1) (Gw.Wal.append x p).1 ∧ Fl fa false (Gw.Wal.append x p).1 ∧ (Gw.Wal.append x p).1.disk.loose.length ≤ 2000 * (k + 1) := fun x fa fb hM hFx hLx => by
      have hm := hM.more hlt (by rw [hpk]; exact hp) (by omega)
      rw [hpk] at hm
      have hap := append_pc fa fb x p (by have := hM.next; omega) (by have := hM.inv.nxt; have := hM.next; omega)
      have hd : (Gw.Wal.append x p).1.disk = x.disk := by unfold Gw.Wal.append; split <;> rfl
      unfold appendV at hap
      rw [if_neg (show ¬ (40000 < p.length ∨ 1000000 < x.next) by have := hM.next; omega), hm.1, hm.2.1] at hap
      exact ⟨hap, hm.2.2, ⟨by rw [hd]; exact hFx.1, fun e => by cases e⟩, by rw [hd]; omega⟩
    conv => whnf
    refine ⟨fun h6 => ?_, fun h6 => ?_⟩
    · have h6 : k = a.length := by
        have : (k : Int) = ((encSL a).length : Int) := by simpa using h6
        omega
      obtain ⟨s1, s2, s3⟩ := hS.turn h6 (by omega)
      obtain ⟨fa', fb', hF', hsp⟩ := spill_fl hS.inv fa fb hF (by omega)
      rw [s1] at hsp
      obtain ⟨R', st', mst', hI'⟩ := inv_spill hS.inv
      have hsl := spill_loose hS.inv
      have hsy := sync_pc hI' fa' fb' hF'.1 (by omega)
      have hyl := sync_loose hI'
      unfold syncV at hsy
      have hFy : Fl true fb' (Gw.Wal.sync (Gw.Wal.spill w).1) := ⟨fun _ => hyl, fun e => by unfold Gw.Wal.sync; split <;> exact hF'.2 e⟩
      obtain ⟨m1, m2, m3, m4⟩ := more _ true fb' s2 hFy (by rw [hyl]; exact Nat.zero_le _)
      generalize Gw.Wal.sync (Gw.Wal.spill w).1 = y at *
      generalize (Gw.Wal.spill w).1 = x at *
      generalize (Gw.Wal.append y p).1 = z at *
      conv => whnf
      refine AC.of_pc hsp rfl ?_
      conv => whnf
      refine AC.of_pc hsy rfl ?_
      conv => whnf
      repeat (first | refine ⟨fun _ => ?_, fun h => absurd h (by decide)⟩ | refine ⟨fun h => absurd h (by decide), fun _ => ?_⟩ | refine ⟨fun _ => ?_, fun h => absurd (show true = false from h) (by decide)⟩ | refine ⟨fun h => absurd (show false = true from h) (by decide), fun _ => ?_⟩
              (conv => whnf))
      refine ⟨fun h => absurd h (by rw [s3, hea]; simp; first | done | omega | fail "x"), fun _ => ?_⟩
      conv => whnf
      refine ⟨_, ⟨by omega, hgt⟩, ?_⟩
      conv => whnf
      refine ⟨_, rfl, m1, ?_⟩
      conv => whnf
      refine ⟨by kernel_rfl, ?_⟩
      conv => whnf
      refine ⟨fun h => absurd h (by rw [hwa]; simp; first | done | omega | fail "x"), fun _ => ?_⟩
      conv => whnf
      repeat (first | refine ⟨fun _ => ?_, fun h => absurd h (by decide)⟩ | refine ⟨fun h => absurd h (by decide), fun _ => ?_⟩ | refine ⟨fun _ => ?_, fun h => absurd (show true = false from h) (by decide)⟩ | refine ⟨fun h => absurd (show false = true from h) (by decide), fun _ => ?_⟩
              (conv => whnf))
      refine ⟨(k + 1, (z, (true, false))), ⟨hlt, m2, m3, m4⟩, by show (a ++ b).length - (k + 1) < (a ++ b).length - k; omega, rfl, rfl, rfl, rfl, rfl, rfl, rfl, rfl, rfl, rfl, rfl, rfl, ?_, rfl, rfl, rfl, trivial⟩
      show C.v (V.int .i64 (IntKind.i64.wrap ((k : Int) + 1))) = _
      rw [hwa]
    · have h6 : k ≠ a.length := by
        intro e; rw [hea, e] at h6; simp at h6
      obtain ⟨m1, m2, m3, m4⟩ := more _ fa fb (hS.mid h6 hk) hF (by omega)
      generalize (Gw.Wal.append w p).1 = z at *
      conv => whnf
      refine ⟨_, ⟨by omega, hgt⟩, ?_⟩
      conv => whnf
      refine ⟨_, rfl, m1, ?_⟩
      conv => whnf
      refine ⟨by kernel_rfl, ?_⟩
      conv => whnf
      refine ⟨fun h => absurd h (by rw [hwa]; simp; first | done | omega | fail "x"), fun _ => ?_⟩
      conv => whnf
      repeat (first | refine ⟨fun _ => ?_, fun h => absurd h (by decide)⟩ | refine ⟨fun h => absurd h (by decide), fun _ => ?_⟩ | refine ⟨fun _ => ?_, fun h => absurd (show true = false from h) (by decide)⟩ | refine ⟨fun h => absurd (show false = true from h) (by decide), fun _ => ?_⟩
              (conv => whnf))
      refine ⟨(k + 1, (z, (fa, false))), ⟨hlt, m2, m3, m4⟩, by show (a ++ b).length - (k + 1) < (a ++ b).length - k; omega, rfl, rfl, rfl, rfl, rfl, rfl, rfl, rfl, rfl, rfl, rfl, rfl, ?_, rfl, rfl, rfl, trivial⟩
      show C.v (V.int .i64 (IntKind.i64.wrap ((k : Int) + 1))) = _
      rw [hwa]
  · have h4 := of_decide_eq_false h4
    obtain rfl : k = (a ++ b).length := by omega
    obtain ⟨s1, s2, s3, s4, s5⟩ := hS.end_ (by omega)
    obtain ⟨fa', fb', hF', hsp⟩ := spill_fl hS.inv fa fb hF (by omega)
    rw [s1] at hsp
    have hsl := spill_loose hS.inv
    obtain ⟨c1, c2, c3, c4⟩ := crashed_pc s2 fa' picks (by omega) hF'.1 (by omega)
    obtain ⟨q, bb, s, R', t1, t2⟩ := s2.crashed (Gw.Wal.ba picks)
    obtain ⟨m, t3, t4, t5⟩ : ∃ m, m ≤ (a ++ b).length ∧ R' = (a ++ b).take m ∧ (if b = [] then 0 else a.length) ≤ m := by
      rcases t1.how with ⟨_, _, _, _, m, h1, h2, h3, _⟩ | ⟨h1, _⟩
      · rw [s4, s5] at h3
        exact ⟨m, h1, h2, by omega⟩
      · exact absurd s3 h1
    have t6 : s = [] := by
      rcases t1.how with ⟨_, _, _, h1, _⟩ | ⟨h1, _⟩
      · exact h1
      · exact absurd s3 h1
    rw [t1.state, t1.recs, t6] at c2
    have hRl : R'.length = m := by rw [t4, List.length_take]; omega
    have hsm := fun na nb => strSame_pc na nb R' R' (by rw [hRl]; omega)
    have heR := encSL_len R'
    have htk : (encSL (a ++ b)).take m = encSL R' := by rw [t4]; unfold encSL; rw [List.map_take]
    generalize Gw.Wal.open_ (Gw.Disk.crash (Gw.Wal.spill w).1.disk (Gw.Wal.ba picks)) = O at *
    generalize (Gw.Wal.spill w).1 = x at *
    conv => whnf
    refine AC.of_pc hsp rfl ?_
    conv => whnf
    refine AC.of_pc c1 rfl ?_
    conv => whnf
    refine AC.of_pc c2 rfl ?_
    conv => whnf
    have hmin : (min ((encSL R').length : Int) ((encSL (a ++ b)).length : Int)).toNat = m := by omega
    have hsm2 : ∀ na nb, PC Tryd.prog 15 [.lst na 1 (encSL R') .none, .lst nb 1 ((encSL (a ++ b)).take (min ((encSL R').length : Int) ((encSL (a ++ b)).length : Int)).toNat) .none] (.bool (decide (R' = R'))) := fun na nb => by
      rw [hmin, htk]; exact hsm na nb
    refine ⟨fun h6 => ?_, fun h6 => ?_⟩
    · conv => whnf
      repeat (first | refine ⟨fun _ => ?_, fun h => absurd h (by decide)⟩
                    | refine ⟨fun _ => ?_, fun h => absurd h (by simp; first | done | omega | fail "x")⟩
                    | fail "end"
              (conv => whnf))
      refine ⟨show 0 ≤ min ((encSL R').length : Int) ((encSL (a ++ b)).length : Int) ∧ (min ((encSL R').length : Int) ((encSL (a ++ b)).length : Int)).toNat ≤ (encSL (a ++ b)).length from ⟨by omega, by omega⟩, ?_⟩
      conv => whnf
      refine AC.of_pc (hsm2 _ _) rfl ?_
      conv => whnf
      rw [decide_eq_true rfl]
    · have h7 : b ≠ [] := by
        intro e; rw [e] at h6; simp [encSL] at h6
      rw [if_neg h7] at t5
      conv => whnf
      repeat (first | refine ⟨fun _ => ?_, fun h => absurd h (by decide)⟩
                    | refine ⟨fun _ => ?_, fun h => absurd h (by simp; first | done | omega | fail "x")⟩
                    | fail "end"
              (conv => whnf))
      refine ⟨show 0 ≤ min ((encSL R').length : Int) ((encSL (a ++ b)).length : Int) ∧ (min ((encSL R').length : Int) ((encSL (a ++ b)).length : Int)).toNat ≤ (encSL (a ++ b)).length from ⟨by omega, by omega⟩, ?_⟩
      conv => whnf
      refine AC.of_pc (hsm2 _ _) rfl ?_
      conv => whnf
      rw [decide_eq_true rfl]
end Go.Proofs.YtjhblbipjljojaaDoor
