/- All that the document's answer sees below a directory: told without addresses. No claim of its own. -/
import Derived.Test.YtipgfdepopfghaaGreatARView2
namespace Go.Proofs.YtipgfdepopfghaaGreat
open Go.Am

theorem rbelow0_pc (nil qo : Bool) {l : List Gw.Tree.Node} (hc : Gw.Tree.check l = false) (outs : List Int) (hl : l.length ≤ 1000) (hi : ∀ n ∈ l, I64 n.id) (hs : ∀ n ∈ l, n.name.length ≤ 1000) (dir : Int) (path : List UInt8) (f : Nat) :
    PC Tryz.prog 61 [.lst nil 8 (encN l) .none, .int .i64 dir, .str path, .lst qo 1 (encZ outs) .none, .int .i64 f] (.lst true 3 [] .none) := by
  obtain ⟨qn, hls⟩ := rlist_pc nil l dir hi (by omega) (fun n hn => by have := hs n hn; omega)
  rw [show Gw.View.list l dir = [] from by unfold Gw.View.list; rw [hc]; rfl] at hls
  refine PC.ofS tabOk mixed (fn := Tryz.f61) (by kernel_rfl) rfl (by kernel_rfl) rfl rfl ?_
  conv => whnf
  refine AC.of_pc hls rfl ?_
  conv => whnf
  refine AW.nilSlot 11 3 rfl ?_
  refine AW.loop (fun k : Nat => [(.tmp 4, .v (.int .i64 f)), (.tmp 11, .v (.lst true 3 [] .none)), (.tmp 12, .v (.lst qn 1 (encS1 []) .none)), (.tmp 13, .v (.int .i64 k))]) 0 (fun k => k = 0) (fun k => 0) (by decide) 0 rfl ⟨rfl, rfl, rfl, rfl, rfl, rfl, rfl, rfl, trivial⟩ ?_
  rintro k rfl
  refine ev_sound tabOk mixed _ _ _ _ ?_
  conv => whnf
  repeat (first | refine ⟨fun _ => ?_, fun h => absurd h (by decide)⟩ | refine ⟨fun h => absurd h (by decide), fun _ => ?_⟩ | refine ⟨fun _ => ?_, fun h => absurd (show true = false from h) (by decide)⟩ | refine ⟨fun h => absurd (show false = true from h) (by decide), fun _ => ?_⟩
          (conv => whnf))
  exact SubV.nil _ _ _
set_option maxHeartbeats 4000000 in
theorem rvItems_pc (nil : Bool) (l : List Gw.Tree.Node) (dir : Int) (hi : ∀ n ∈ l, I64 n.id) (hl : l.length ≤ 1000) (hs : ∀ n ∈ l, n.name.length ≤ 1000) :
    ∃ q, PC Tryz.prog 33 [.lst nil 8 (encN l) .none, .int .i64 dir] (.lst q 3 (encIt (Gw.View.items l dir)) .none) := by
  have hel := encN_len l
  have hck := rtreeCheck_pc nil l hi (by omega)
  have hat := fun z => rat_pc nil l z (by omega)
  unfold Gw.View.items
  cases hc : Gw.Tree.check l with
  | false =>
    have hb := rbelow0_pc nil false hc ([] ++ [dir]) hl hi hs dir [] l.length
    rw [hc] at hck
    refine ⟨true, ?_⟩
    refine PC.of tabOk mixed (fn := Tryz.f33) (by kernel_rfl) rfl (by kernel_rfl) rfl rfl ?_
    conv => whnf
    refine AC.of tabOk mixed (fn := Tryz.f62) (by kernel_rfl) rfl (by kernel_rfl) rfl rfl ?_
    conv => whnf
    refine AC.of_pc hck rfl ?_
    conv => whnf
    repeat (first | refine ⟨fun _ => ?_, fun h => absurd h (by decide)⟩ | refine ⟨fun h => absurd h (by decide), fun _ => ?_⟩ | refine ⟨fun _ => ?_, fun h => absurd (show true = false from h) (by decide)⟩ | refine ⟨fun h => absurd (show false = true from h) (by decide), fun _ => ?_⟩
            (conv => whnf))
    refine ⟨fits_small (show 0 + 1 ≤ _ by decide) (by decide), ?_⟩
    conv => whnf
    rw [hel]
    refine AC.of_pc hb rfl ?_
    conv => whnf
    rfl
  | true =>
  rw [hc] at hck
  rw [if_pos rfl]
  have hou : Gw.View.outsOf l dir = dir :: Gw.Tree.climb l l.length dir := by unfold Gw.View.outsOf Gw.Tree.above; rw [hc, if_pos rfl]
  have hlo := Gw.Tree.climb_len l l.length dir
  obtain ⟨q, hb⟩ := rbelow_pc nil false hc (Gw.Tree.climb l l.length dir ++ [dir]) (by rw [List.length_append, List.length_singleton]; omega) hl hi hs (top := dir) (by simp) l.length (by omega) .top (path := []) (Nat.zero_le _)
  rw [belowF_congr (o := Gw.Tree.climb l l.length dir ++ [dir]) (o' := Gw.View.outsOf l dir) (fun y => by rw [hou, List.contains_append, List.contains_cons, List.contains_cons, List.contains_nil, Bool.or_false, Bool.or_comm])] at hb
  generalize Gw.View.belowF l (Gw.View.outsOf l dir) l.length dir [] = R at *
  have hZ := hlo
  have hb : PC Tryz.prog 61 [.lst nil 8 (encN l) .none, .int .i64 dir, .str [], .lst false 1 (encZ (Gw.Tree.climb l l.length dir ++ [dir])) .none, .int .i64 ((encN l).length : Nat)] (.lst q 3 (encIt R) .none) := by rw [hel]; exact hb
  refine ⟨q, ?_⟩
  refine PC.of tabOk mixed (fn := Tryz.f33) (by kernel_rfl) rfl (by kernel_rfl) rfl rfl ?_
  conv => whnf
  refine AC.of tabOk mixed (fn := Tryz.f62) (by kernel_rfl) rfl (by kernel_rfl) rfl rfl ?_
  conv => whnf
  refine AC.of_pc hck rfl ?_
  conv => whnf
  repeat (first | refine ⟨fun _ => ?_, fun h => absurd h (by decide)⟩ | refine ⟨fun h => absurd h (by decide), fun _ => ?_⟩ | refine ⟨fun _ => ?_, fun h => absurd (show true = false from h) (by decide)⟩ | refine ⟨fun h => absurd (show false = true from h) (by decide), fun _ => ?_⟩
          (conv => whnf))
  refine AW.row 5 3 1 rfl rfl (.inr rfl) ?_
  refine AW.loop (X := List Int × Int) (fun x => [(.tmp 0, .v (.lst nil 8 (encN l) .none)), (.tmp 1, .v (.int .i64 x.2)), (.tmp 7, .v (.int .i64 x.1.length)), (.tmp 5, .v (.lst (decide (x.1 = [])) 1 (encZ x.1) (.row 12))), (.row 12, .row 3 1 x.1.length)]) 13
    (fun x => x.1.length ≤ l.length ∧ Gw.Tree.climb l l.length dir = x.1 ++ Gw.Tree.climb l (l.length - x.1.length) x.2) (fun x => l.length - x.1.length) (by decide) ([], dir) ⟨Nat.zero_le _, by rw [List.nil_append, List.length_nil, Nat.sub_zero]⟩ ⟨rfl, rfl, rfl, rfl, rfl, rfl, rfl, rfl, rfl, rfl, trivial⟩ ?_
  rintro ⟨acc, z⟩ ⟨h1, h2⟩
  simp only at h1 h2
  dsimp only
  have hal := encZ_len acc
  refine ev_sound tabOk mixed _ _ _ _ ?_
  conv => whnf
  refine ⟨fun h => ?_, fun h => ?_⟩
  · have h := of_decide_eq_true h
    rw [hel] at h
    have hlt : acc.length < l.length := by omega
    obtain ⟨f, hf⟩ : ∃ f, l.length - acc.length = f + 1 := ⟨l.length - acc.length - 1, by omega⟩
    rw [hf, Gw.Tree.climb] at h2
    have hatz := hat z
    obtain hfd | ⟨nd, hfd⟩ : Gw.Tree.find l z = none ∨ ∃ n, Gw.Tree.find l z = some n := by
      cases Gw.Tree.find l z with
      | none => exact .inl rfl
      | some n => exact .inr ⟨n, rfl⟩
    · rw [hfd] at h2
      simp only [List.append_nil] at h2
      rw [h2] at hZ hb
      rw [Gw.Tree.at_none hc hfd] at hatz
      conv => whnf
      refine AC.of_pc hatz rfl ?_
      conv => whnf
      repeat (first | refine ⟨fun _ => ?_, fun h => absurd h (by decide)⟩ | refine ⟨fun h => absurd h (by decide), fun _ => ?_⟩ | refine ⟨fun _ => ?_, fun h => absurd (show true = false from h) (by decide)⟩ | refine ⟨fun h => absurd (show false = true from h) (by decide), fun _ => ?_⟩
              (conv => whnf))
      refine ⟨⟨(encZ_len _).symm, fits_small (by show (encZ _).length + 1 ≤ _; rw [encZ_len]; omega) (by decide)⟩, ?_⟩
      conv => whnf
      rw [← encZ_add, ← Bool.and_false (decide (acc = []))] at hb
      refine AC.of_pc hb rfl ?_
      conv => whnf
      done
    · rw [hfd] at h2
      simp only at h2
      obtain ⟨_, _, hp, hnd⟩ := Gw.Tree.find_some hfd
      have hg := encN_get hp
      rw [hnd] at hg
      rw [Gw.Tree.at_some hc hfd] at hatz
      generalize Gw.Tree.pos l z = p at hatz hg hp hnd
      conv => whnf
      refine AC.of_pc hatz rfl ?_
      conv => whnf
      refine ⟨fun h => absurd (of_decide_eq_true h) (by omega), fun _ => ?_⟩
      conv => whnf
      refine ⟨_, ⟨by omega, hg⟩, ?_⟩
      conv => whnf
      refine ⟨fun h => ?_, fun h => ?_⟩
      · have h : nd.parent = -1 := by simpa using h
        rw [if_pos h, List.append_nil] at h2
        rw [h2] at hZ hb
        conv => whnf
        refine ⟨⟨(encZ_len _).symm, fits_small (by show (encZ _).length + 1 ≤ _; rw [encZ_len]; omega) (by decide)⟩, ?_⟩
        conv => whnf
        rw [← encZ_add, ← Bool.and_false (decide (acc = []))] at hb
        refine AC.of_pc hb rfl ?_
        conv => whnf
        done
      · have h : nd.parent ≠ -1 := by simpa using h
        rw [if_neg h] at h2
        conv => whnf
        refine ⟨_, ⟨by omega, hg⟩, ?_⟩
        conv => whnf
        refine ⟨⟨hal.symm, fits_small (by show (encZ acc).length + 1 ≤ _; omega) (by decide)⟩, ?_⟩
        conv => whnf
        refine ⟨(acc ++ [nd.parent], nd.parent), ⟨by show (acc ++ [nd.parent]).length ≤ _; rw [List.length_append, List.length_singleton]; omega, ?_⟩, by show l.length - (acc ++ [nd.parent]).length < l.length - acc.length; rw [List.length_append, List.length_singleton]; omega, rfl, rfl, rfl, rfl, ?_, rfl, ?_, rfl, ?_, rfl, trivial⟩
        · show _ = (acc ++ [nd.parent]) ++ Gw.Tree.climb l (l.length - (acc ++ [nd.parent]).length) nd.parent
          rw [h2, List.append_assoc, List.length_append, List.length_singleton, show l.length - (acc.length + 1) = f by omega]
          rfl
        · show C.v (V.int .i64 (IntKind.i64.wrap ((acc.length : Int) + 1))) = C.v (V.int .i64 ((acc ++ [nd.parent]).length : Nat))
          rw [w64 (by omega) (by omega), List.length_append]; rfl
        · show C.v (V.lst (decide (acc = []) && false) 1 (encZ acc ++ [[V.int .i64 nd.parent]]) _) = C.v (V.lst (decide (acc ++ [nd.parent] = [])) 1 (encZ (acc ++ [nd.parent])) _)
          rw [Bool.and_false, decide_eq_false (by simp), encZ_add]
        · show C.row _ 1 ((encZ acc).length + 1) = C.row _ 1 (acc ++ [nd.parent]).length
          rw [hal, List.length_append]
          rfl
  · have h := of_decide_eq_false h
    rw [hel] at h
    rw [show l.length - acc.length = 0 by omega, Gw.Tree.climb, List.append_nil] at h2
    rw [h2] at hZ hb
    conv => whnf
    refine ⟨⟨(encZ_len _).symm, fits_small (by show (encZ _).length + 1 ≤ _; rw [encZ_len]; omega) (by decide)⟩, ?_⟩
    conv => whnf
    rw [← encZ_add, ← Bool.and_false (decide (acc = []))] at hb
    refine AC.of_pc hb rfl ?_
    conv => whnf
    done
end Go.Proofs.YtipgfdepopfghaaGreat
