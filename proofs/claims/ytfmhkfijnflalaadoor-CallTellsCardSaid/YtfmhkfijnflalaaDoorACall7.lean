/- The law CallMay: told without addresses. No claim of its own. -/
import Derived.Test.YtfmhkfijnflalaaDoorACall6
namespace Go.Proofs.YtfmhkfijnflalaaDoor
open Go.Am

set_option maxHeartbeats 4000000 in
theorem may_pc (c : Gw.Call.Call) (hn : Gw.Call.Nn c) : PC Tryd.prog 7 [encK c] (.bool true) := by
  have hfew := few_pc false [c] 1 (by simp)
  refine PC.of tabOk mixed (fn := Tryd.f7) (by kernel_rfl) rfl (by kernel_rfl) rfl rfl ?_
  conv => whnf
  refine AC.of_pc awake_pc rfl ?_
  conv => whnf
  refine AC.of_pc hfew rfl ?_
  conv => whnf
  refine ⟨fun _ => ?_, fun h => ?_⟩
  · conv => whnf
  obtain ⟨h1, -⟩ := few_one h
  obtain ⟨l1, l2, l3⟩ := few_len h1 (List.mem_singleton.2 rfl)
  have ck := check_pc c (by omega) (by omega)
  conv => whnf
  cases hc : Gw.Call.check c with
  | false =>
    rw [hc] at ck
    refine AC.of_pc ck rfl ?_
    conv => whnf
    repeat (first | (first | refine ⟨fun _ => ?_, fun h => absurd h (by decide)⟩ | refine ⟨fun h => absurd h (by decide), fun _ => ?_⟩ | refine ⟨fun _ => ?_, fun h => absurd (show true = false from h) (by decide)⟩ | refine ⟨fun h => absurd (show false = true from h) (by decide), fun _ => ?_⟩)
            (conv => whnf))
  | true =>
    rw [hc] at ck
    have hp := may_parts hc
    have hb := check_pc ⟨c.kind, c.path, c.to, [], c.n⟩ (by show c.path.length ≤ _; omega) (by show c.to.length ≤ _; omega)
    rw [bare_check hc] at hb
    have hm := check_pc ⟨c.kind, c.path, c.to, c.data, c.n + 1⟩ (by show c.path.length ≤ _; omega) (by show c.to.length ≤ _; omega)
    rw [more_check hc _ (by omega)] at hm
    refine AC.of_pc ck rfl ?_
    conv => whnf
    clear ck hfew h h1 l1 l2 hc
    unfold Gw.Call.Nn at hn
    obtain ⟨k, path, to, data, n⟩ := c
    simp only at hp hb hm l3 hn
    obtain ⟨n0, hp⟩ := hp
    unfold encK cellsK at hb hm
    simp only at hb hm
    rcases hp with ⟨hk, ⟨x, t, rfl⟩, rfl, rfl, rfl⟩ | ⟨rfl, ⟨x, t, rfl⟩, rfl, hd, rfl⟩ | ⟨hk, ⟨x, t, rfl⟩, rfl, rfl⟩ | ⟨rfl, ⟨x, t, rfl⟩, ⟨y, u, rfl⟩, rfl, rfl⟩ | ⟨hk, rfl, rfl, rfl⟩ | ⟨rfl, rfl, rfl, hd, rfl⟩ | ⟨hk, rfl, rfl, rfl, rfl⟩
    · rcases hk with rfl | rfl | rfl | rfl
      all_goals
        repeat (first | (first | (first | refine ⟨fun _ => ?_, fun h => absurd h (by decide)⟩ | refine ⟨fun h => absurd h (by decide), fun _ => ?_⟩ | refine ⟨fun _ => ?_, fun h => absurd (show true = false from h) (by decide)⟩ | refine ⟨fun h => absurd (show false = true from h) (by decide), fun _ => ?_⟩) | refine ⟨fun _ => ?_, fun h => absurd h (by simp; first | done | fail "x")⟩ | refine ⟨fun h => absurd h (by simp; first | done | fail "x"), fun _ => ?_⟩ | refine ⟨fun _ => ?_, fun h => absurd h (by simp; omega)⟩ | refine ⟨fun h => absurd h (by simp; omega), fun _ => ?_⟩ | fail "no") | refine AC.of_pc hb rfl ?_ | refine AC.of_pc hm rfl ?_
                (conv => whnf))
    · repeat (first | (first | (first | refine ⟨fun _ => ?_, fun h => absurd h (by decide)⟩ | refine ⟨fun h => absurd h (by decide), fun _ => ?_⟩ | refine ⟨fun _ => ?_, fun h => absurd (show true = false from h) (by decide)⟩ | refine ⟨fun h => absurd (show false = true from h) (by decide), fun _ => ?_⟩) | refine ⟨fun _ => ?_, fun h => absurd h (by simp; first | done | fail "x")⟩ | refine ⟨fun h => absurd h (by simp; first | done | fail "x"), fun _ => ?_⟩ | refine ⟨fun _ => ?_, fun h => absurd h (by simp; omega)⟩ | refine ⟨fun h => absurd h (by simp; omega), fun _ => ?_⟩ | fail "no") | refine AC.of_pc hb rfl ?_ | refine AC.of_pc hm rfl ?_
              (conv => whnf))
      refine And.intro (fun q => ?_) (fun q => ?_)
      all_goals conv => whnf
      all_goals
        repeat (first | (first | (first | refine ⟨fun _ => ?_, fun h => absurd h (by decide)⟩ | refine ⟨fun h => absurd h (by decide), fun _ => ?_⟩ | refine ⟨fun _ => ?_, fun h => absurd (show true = false from h) (by decide)⟩ | refine ⟨fun h => absurd (show false = true from h) (by decide), fun _ => ?_⟩) | refine ⟨fun _ => ?_, fun h => absurd h (by simp; first | done | fail "x")⟩ | refine ⟨fun h => absurd h (by simp; first | done | fail "x"), fun _ => ?_⟩ | refine ⟨fun _ => ?_, fun h => absurd h (by simp; omega)⟩ | refine ⟨fun h => absurd h (by simp; omega), fun _ => ?_⟩ | fail "no")
                (conv => whnf))
      all_goals first | rfl | (apply congrArg V.bool; simp; omega)
    · rcases hk with rfl | rfl
      all_goals
        by_cases h63 : n + 1 < 9223372036854775808
        · have hw : IntKind.i64.wrap (n + 1) = n + 1 := w64 (by omega) (by omega)
          have hneg : ¬ decide (IntKind.i64.wrap (n + 1) < 0) = true := by rw [hw]; simp; omega
          rw [← hw] at hm
          repeat (first | (first | refine ⟨fun _ => ?_, fun h => absurd h (by decide)⟩ | refine ⟨fun h => absurd h (by decide), fun _ => ?_⟩ | refine ⟨fun _ => ?_, fun h => absurd (show true = false from h) (by decide)⟩ | refine ⟨fun h => absurd (show false = true from h) (by decide), fun _ => ?_⟩) | refine ⟨fun h => absurd h hneg, fun _ => ?_⟩ | (first | (first | refine ⟨fun _ => ?_, fun h => absurd h (by decide)⟩ | refine ⟨fun h => absurd h (by decide), fun _ => ?_⟩ | refine ⟨fun _ => ?_, fun h => absurd (show true = false from h) (by decide)⟩ | refine ⟨fun h => absurd (show false = true from h) (by decide), fun _ => ?_⟩) | refine ⟨fun _ => ?_, fun h => absurd h (by simp; first | done | fail "x")⟩ | refine ⟨fun h => absurd h (by simp; first | done | fail "x"), fun _ => ?_⟩ | refine ⟨fun _ => ?_, fun h => absurd h (by simp; omega)⟩ | refine ⟨fun h => absurd h (by simp; omega), fun _ => ?_⟩ | fail "no") | refine AC.of_pc hb rfl ?_ | refine AC.of_pc hm rfl ?_
                  (conv => whnf))
        · obtain rfl : n = 9223372036854775807 := by omega
          repeat (first | (first | (first | refine ⟨fun _ => ?_, fun h => absurd h (by decide)⟩ | refine ⟨fun h => absurd h (by decide), fun _ => ?_⟩ | refine ⟨fun _ => ?_, fun h => absurd (show true = false from h) (by decide)⟩ | refine ⟨fun h => absurd (show false = true from h) (by decide), fun _ => ?_⟩) | refine ⟨fun _ => ?_, fun h => absurd h (by simp; first | done | fail "x")⟩ | refine ⟨fun h => absurd h (by simp; first | done | fail "x"), fun _ => ?_⟩ | refine ⟨fun _ => ?_, fun h => absurd h (by simp; omega)⟩ | refine ⟨fun h => absurd h (by simp; omega), fun _ => ?_⟩ | fail "no") | refine AC.of_pc hb rfl ?_
                  (conv => whnf))
    · repeat (first | (first | (first | refine ⟨fun _ => ?_, fun h => absurd h (by decide)⟩ | refine ⟨fun h => absurd h (by decide), fun _ => ?_⟩ | refine ⟨fun _ => ?_, fun h => absurd (show true = false from h) (by decide)⟩ | refine ⟨fun h => absurd (show false = true from h) (by decide), fun _ => ?_⟩) | refine ⟨fun _ => ?_, fun h => absurd h (by simp; first | done | fail "x")⟩ | refine ⟨fun h => absurd h (by simp; first | done | fail "x"), fun _ => ?_⟩ | refine ⟨fun _ => ?_, fun h => absurd h (by simp; omega)⟩ | refine ⟨fun h => absurd h (by simp; omega), fun _ => ?_⟩ | fail "no") | refine AC.of_pc hb rfl ?_ | refine AC.of_pc hm rfl ?_
              (conv => whnf))
    · rcases hk with rfl | rfl
      all_goals
        by_cases h63 : n + 1 < 9223372036854775808
        · have hw : IntKind.i64.wrap (n + 1) = n + 1 := w64 (by omega) (by omega)
          have hneg : ¬ decide (IntKind.i64.wrap (n + 1) < 0) = true := by rw [hw]; simp; omega
          rw [← hw] at hm
          repeat (first | (first | refine ⟨fun _ => ?_, fun h => absurd h (by decide)⟩ | refine ⟨fun h => absurd h (by decide), fun _ => ?_⟩ | refine ⟨fun _ => ?_, fun h => absurd (show true = false from h) (by decide)⟩ | refine ⟨fun h => absurd (show false = true from h) (by decide), fun _ => ?_⟩) | refine ⟨fun h => absurd h hneg, fun _ => ?_⟩ | (first | (first | refine ⟨fun _ => ?_, fun h => absurd h (by decide)⟩ | refine ⟨fun h => absurd h (by decide), fun _ => ?_⟩ | refine ⟨fun _ => ?_, fun h => absurd (show true = false from h) (by decide)⟩ | refine ⟨fun h => absurd (show false = true from h) (by decide), fun _ => ?_⟩) | refine ⟨fun _ => ?_, fun h => absurd h (by simp; first | done | fail "x")⟩ | refine ⟨fun h => absurd h (by simp; first | done | fail "x"), fun _ => ?_⟩ | refine ⟨fun _ => ?_, fun h => absurd h (by simp; omega)⟩ | refine ⟨fun h => absurd h (by simp; omega), fun _ => ?_⟩ | fail "no") | refine AC.of_pc hb rfl ?_ | refine AC.of_pc hm rfl ?_
                  (conv => whnf))
        · obtain rfl : n = 9223372036854775807 := by omega
          repeat (first | (first | (first | refine ⟨fun _ => ?_, fun h => absurd h (by decide)⟩ | refine ⟨fun h => absurd h (by decide), fun _ => ?_⟩ | refine ⟨fun _ => ?_, fun h => absurd (show true = false from h) (by decide)⟩ | refine ⟨fun h => absurd (show false = true from h) (by decide), fun _ => ?_⟩) | refine ⟨fun _ => ?_, fun h => absurd h (by simp; first | done | fail "x")⟩ | refine ⟨fun h => absurd h (by simp; first | done | fail "x"), fun _ => ?_⟩ | refine ⟨fun _ => ?_, fun h => absurd h (by simp; omega)⟩ | refine ⟨fun h => absurd h (by simp; omega), fun _ => ?_⟩ | fail "no") | refine AC.of_pc hb rfl ?_
                  (conv => whnf))
    · repeat (first | (first | (first | refine ⟨fun _ => ?_, fun h => absurd h (by decide)⟩ | refine ⟨fun h => absurd h (by decide), fun _ => ?_⟩ | refine ⟨fun _ => ?_, fun h => absurd (show true = false from h) (by decide)⟩ | refine ⟨fun h => absurd (show false = true from h) (by decide), fun _ => ?_⟩) | refine ⟨fun _ => ?_, fun h => absurd h (by simp; first | done | fail "x")⟩ | refine ⟨fun h => absurd h (by simp; first | done | fail "x"), fun _ => ?_⟩ | refine ⟨fun _ => ?_, fun h => absurd h (by simp; omega)⟩ | refine ⟨fun h => absurd h (by simp; omega), fun _ => ?_⟩ | fail "no") | refine AC.of_pc hb rfl ?_ | refine AC.of_pc hm rfl ?_
              (conv => whnf))
      refine And.intro (fun q => ?_) (fun q => ?_)
      all_goals conv => whnf
      all_goals
        repeat (first | (first | (first | refine ⟨fun _ => ?_, fun h => absurd h (by decide)⟩ | refine ⟨fun h => absurd h (by decide), fun _ => ?_⟩ | refine ⟨fun _ => ?_, fun h => absurd (show true = false from h) (by decide)⟩ | refine ⟨fun h => absurd (show false = true from h) (by decide), fun _ => ?_⟩) | refine ⟨fun _ => ?_, fun h => absurd h (by simp; first | done | fail "x")⟩ | refine ⟨fun h => absurd h (by simp; first | done | fail "x"), fun _ => ?_⟩ | refine ⟨fun _ => ?_, fun h => absurd h (by simp; omega)⟩ | refine ⟨fun h => absurd h (by simp; omega), fun _ => ?_⟩ | fail "no")
                (conv => whnf))
      all_goals first | rfl | (apply congrArg V.bool; simp; omega)
    · rcases hk with rfl | rfl
      all_goals
        repeat (first | (first | (first | refine ⟨fun _ => ?_, fun h => absurd h (by decide)⟩ | refine ⟨fun h => absurd h (by decide), fun _ => ?_⟩ | refine ⟨fun _ => ?_, fun h => absurd (show true = false from h) (by decide)⟩ | refine ⟨fun h => absurd (show false = true from h) (by decide), fun _ => ?_⟩) | refine ⟨fun _ => ?_, fun h => absurd h (by simp; first | done | fail "x")⟩ | refine ⟨fun h => absurd h (by simp; first | done | fail "x"), fun _ => ?_⟩ | refine ⟨fun _ => ?_, fun h => absurd h (by simp; omega)⟩ | refine ⟨fun h => absurd h (by simp; omega), fun _ => ?_⟩ | fail "no") | refine AC.of_pc hb rfl ?_ | refine AC.of_pc hm rfl ?_
                (conv => whnf))
end Go.Proofs.YtfmhkfijnflalaaDoor
