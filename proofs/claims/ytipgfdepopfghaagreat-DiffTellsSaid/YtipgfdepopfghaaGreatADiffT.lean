/- The law DiffTells, walked without addresses. No claim of its own. -/
import Derived.Test.YtipgfdepopfghaaGreatADiffL1
import Derived.Test.YtipgfdepopfghaaGreatARDiff2
import Derived.Test.YtipgfdepopfghaaGreatAItemsS
namespace Go.Proofs.YtipgfdepopfghaaGreat
open Go.Am

def namedB (l : List Gw.Tree.Node) : Bool := l.all fun n => !Gw.Stamp.check n.moved || Gw.Name.check n.name
theorem namedB_spec {l : List Gw.Tree.Node} (h : namedB l = true) : Gw.View.Named l := fun n hn hc => by
  have := List.all_eq_true.1 h n hn
  rw [hc] at this
  simpa using this
theorem named_pc (q : Bool) (l : List Gw.Tree.Node) (hl : l.length ≤ 1048576) (hs : ∀ n ∈ l, n.name.length ≤ 1000) : PC Tryz.prog 11 [.lst q 8 (encN l) .none] (.bool (namedB l)) := by
  have hel := encN_len l
  refine PC.of tabOk mixed (fn := Tryz.f11) (by kernel_rfl) rfl (by kernel_rfl) rfl rfl ?_
  conv => whnf
  refine AW.loop (fun k : Nat => [(.tmp 0, .v (.lst q 8 (encN l) .none)), (.tmp 3, .v (.int .i64 k))]) 0
    (fun k => k ≤ l.length ∧ namedB (l.take k) = true) (fun k => l.length - k) (by decide) 0 ⟨Nat.zero_le _, rfl⟩ ⟨rfl, rfl, rfl, rfl, trivial⟩ ?_
  rintro k ⟨hk, hall⟩
  refine ev_sound tabOk mixed _ _ _ _ ?_
  conv => whnf
  refine ⟨fun h => ?_, fun h => ?_⟩
  · have h := of_decide_eq_true h
    rw [hel] at h
    have hlt : k < l.length := by omega
    have hg := encN_get hlt
    have hno : (!Gw.Stamp.check l[k].moved || Gw.Name.check l[k].name) = false → namedB l = false := fun h => by
      unfold namedB; rw [List.all_eq_false]; exact ⟨_, List.getElem_mem hlt, by rw [h]; simp⟩
    have hyes : (!Gw.Stamp.check l[k].moved || Gw.Name.check l[k].name) = true → namedB (l.take (k + 1)) = true := fun h => by
      unfold namedB at *
      rw [List.take_succ_eq_append_getElem hlt, List.all_append, hall]
      simpa using h
    have hck := stampCheck_pc l[k].moved
    have hnc := nameCheck_pc l[k].name (by have := hs _ (List.getElem_mem hlt); omega)
    have w1 : IntKind.i64.wrap ((k : Int) + 1) = ((k + 1 : Nat) : Int) := by rw [w64 (by omega) (by omega)]; rfl
    generalize l[k] = n at *
    conv => whnf
    refine ⟨_, ⟨by omega, hg⟩, ?_⟩
    conv => whnf
    refine AC.of_pc hck rfl ?_
    cases h1 : Gw.Stamp.check n.moved with
    | false =>
      rw [h1] at hyes
      conv => whnf
      repeat (first | refine ⟨fun _ => ?_, fun h => absurd h (by decide)⟩ | refine ⟨fun h => absurd h (by decide), fun _ => ?_⟩ | refine ⟨fun _ => ?_, fun h => absurd (show true = false from h) (by decide)⟩ | refine ⟨fun h => absurd (show false = true from h) (by decide), fun _ => ?_⟩
              (conv => whnf))
      refine ⟨k + 1, ⟨by omega, hyes rfl⟩, by show l.length - (k + 1) < l.length - k; omega, rfl, rfl, ?_, rfl, trivial⟩
      show C.v (V.int .i64 (IntKind.i64.wrap ((k : Int) + 1))) = _
      rw [w1]
    | true =>
      rw [h1] at hyes hno
      conv => whnf
      repeat (first | refine ⟨fun _ => ?_, fun h => absurd h (by decide)⟩ | refine ⟨fun h => absurd h (by decide), fun _ => ?_⟩ | refine ⟨fun _ => ?_, fun h => absurd (show true = false from h) (by decide)⟩ | refine ⟨fun h => absurd (show false = true from h) (by decide), fun _ => ?_⟩
              (conv => whnf))
      refine ⟨_, ⟨by omega, hg⟩, ?_⟩
      conv => whnf
      refine AC.of_pc hnc rfl ?_
      cases h2 : Gw.Name.check n.name with
      | false =>
        rw [hno (by rw [h2]; rfl)]
        conv => whnf
        repeat (first | refine ⟨fun _ => ?_, fun h => absurd h (by decide)⟩ | refine ⟨fun h => absurd h (by decide), fun _ => ?_⟩ | refine ⟨fun _ => ?_, fun h => absurd (show true = false from h) (by decide)⟩ | refine ⟨fun h => absurd (show false = true from h) (by decide), fun _ => ?_⟩
                (conv => whnf))
      | true =>
        conv => whnf
        repeat (first | refine ⟨fun _ => ?_, fun h => absurd h (by decide)⟩ | refine ⟨fun h => absurd h (by decide), fun _ => ?_⟩ | refine ⟨fun _ => ?_, fun h => absurd (show true = false from h) (by decide)⟩ | refine ⟨fun h => absurd (show false = true from h) (by decide), fun _ => ?_⟩
                (conv => whnf))
        refine ⟨k + 1, ⟨by omega, hyes (by rw [h2]; rfl)⟩, by show l.length - (k + 1) < l.length - k; omega, rfl, rfl, ?_, rfl, trivial⟩
        show C.v (V.int .i64 (IntKind.i64.wrap ((k : Int) + 1))) = _
        rw [w1]
  · have h := of_decide_eq_false h
    rw [hel] at h
    obtain rfl : k = l.length := by omega
    rw [List.take_length] at hall
    rw [hall]
    conv => whnf
theorem few9_pc (n1 n2 : Bool) (a b : List Gw.Tree.Node) (ha : a.length ≤ 9223372036854775807) (hb : b.length ≤ 9223372036854775807) :
    PC Tryz.prog 10 [.lst n1 8 (encN a) .none, .lst n2 8 (encN b) .none] (.bool (fewN a 100 && fewN b 100)) := by
  have h1 := fewN_pc n1 a 100 ha
  have h2 := fewN_pc n2 b 100 hb
  refine PC.of tabOk mixed (fn := Tryz.f10) (by kernel_rfl) rfl (by kernel_rfl) rfl rfl ?_
  conv => whnf
  refine AC.of_pc h1 rfl ?_
  cases fewN a 100 with
  | false =>
    conv => whnf
    repeat (first | refine ⟨fun _ => ?_, fun h => absurd h (by decide)⟩ | refine ⟨fun h => absurd h (by decide), fun _ => ?_⟩ | refine ⟨fun _ => ?_, fun h => absurd (show true = false from h) (by decide)⟩ | refine ⟨fun h => absurd (show false = true from h) (by decide), fun _ => ?_⟩
            (conv => whnf))
    rfl
  | true =>
    conv => whnf
    repeat (first | refine ⟨fun _ => ?_, fun h => absurd h (by decide)⟩ | refine ⟨fun h => absurd h (by decide), fun _ => ?_⟩ | refine ⟨fun _ => ?_, fun h => absurd (show true = false from h) (by decide)⟩ | refine ⟨fun h => absurd (show false = true from h) (by decide), fun _ => ?_⟩
            (conv => whnf))
    refine AC.of_pc h2 rfl ?_
    conv => whnf
    rfl
def shortT (l : List (List UInt8)) : Bool := l.all fun s => decide (s.length ≤ 1000)
theorem fewPaths_pc (q : Bool) (l : List (List UInt8)) (hl : l.length ≤ 9223372036854775807) : PC Tryz.prog 12 [.lst q 1 (encS1 l) .none] (.bool (shortT l && decide (l.length ≤ 100))) := by
  have hel := encS1_len l
  refine PC.of tabOk mixed (fn := Tryz.f12) (by kernel_rfl) rfl (by kernel_rfl) rfl rfl ?_
  conv => whnf
  refine AW.loop (fun k : Nat => [(.tmp 0, .v (.lst q 1 (encS1 l) .none)), (.tmp 3, .v (.int .i64 k))]) 0
    (fun k => k ≤ l.length ∧ shortT (l.take k) = true) (fun k => l.length - k) (by decide) 0 ⟨Nat.zero_le _, rfl⟩ ⟨rfl, rfl, rfl, rfl, trivial⟩ ?_
  rintro k ⟨hk, hall⟩
  refine ev_sound tabOk mixed _ _ _ _ ?_
  conv => whnf
  refine ⟨fun h => ?_, fun h => ?_⟩
  · have h := of_decide_eq_true h
    rw [hel] at h
    have hlt : k < l.length := by omega
    have hg := encS1_get hlt
    conv => whnf
    refine ⟨_, ⟨by omega, hg⟩, ?_⟩
    conv => whnf
    refine ⟨fun h => ?_, fun h => ?_⟩
    · have h := of_decide_eq_true h
      rw [show shortT l = false from by unfold shortT; rw [List.all_eq_false]; exact ⟨_, List.getElem_mem hlt, by simp; omega⟩, Bool.false_and]
      conv => whnf
    · have h := of_decide_eq_false h
      conv => whnf
      refine ⟨k + 1, ⟨by omega, ?_⟩, by show l.length - (k + 1) < l.length - k; omega, rfl, rfl, ?_, rfl, trivial⟩
      · unfold shortT at *
        rw [List.take_succ_eq_append_getElem hlt, List.all_append, hall]
        simp; omega
      · show C.v (V.int .i64 (IntKind.i64.wrap ((k : Int) + 1))) = _
        rw [w64 (by omega) (by omega)]; rfl
  · have h := of_decide_eq_false h
    rw [hel] at h
    obtain rfl : k = l.length := by omega
    rw [List.take_length] at hall
    rw [hall, Bool.true_and]
    conv => whnf
    rw [hel]
    exact congrArg V.bool (by rw [decide_eq_decide]; omega)
def shortE (l : List Gw.Diff.Event) : Bool := l.all fun e => decide (e.path.length ≤ 1000)
theorem fewE_pc (q : Bool) (l : List Gw.Diff.Event) (most : Int) (hl : l.length ≤ 9223372036854775807) : PC Tryz.prog 13 [.lst q 2 (encE l) .none, .int .i64 most] (.bool (shortE l && decide ((l.length : Int) ≤ most))) := by
  have hel := encE_len l
  refine PC.of tabOk mixed (fn := Tryz.f13) (by kernel_rfl) rfl (by kernel_rfl) rfl rfl ?_
  conv => whnf
  refine AW.loop (fun k : Nat => [(.tmp 0, .v (.lst q 2 (encE l) .none)), (.tmp 1, .v (.int .i64 most)), (.tmp 5, .v (.int .i64 k))]) 0
    (fun k => k ≤ l.length ∧ shortE (l.take k) = true) (fun k => l.length - k) (by decide) 0 ⟨Nat.zero_le _, rfl⟩ ⟨rfl, rfl, rfl, rfl, rfl, rfl, trivial⟩ ?_
  rintro k ⟨hk, hall⟩
  refine ev_sound tabOk mixed _ _ _ _ ?_
  conv => whnf
  refine ⟨fun h => ?_, fun h => ?_⟩
  · have h := of_decide_eq_true h
    rw [hel] at h
    have hlt : k < l.length := by omega
    have hg := encE_get hlt
    conv => whnf
    refine ⟨_, ⟨by omega, hg⟩, ?_⟩
    conv => whnf
    refine ⟨fun h => ?_, fun h => ?_⟩
    · have h := of_decide_eq_true h
      rw [show shortE l = false from by unfold shortE; rw [List.all_eq_false]; exact ⟨_, List.getElem_mem hlt, by simp; omega⟩, Bool.false_and]
      conv => whnf
    · have h := of_decide_eq_false h
      conv => whnf
      refine ⟨k + 1, ⟨by omega, ?_⟩, by show l.length - (k + 1) < l.length - k; omega, rfl, rfl, rfl, rfl, ?_, rfl, trivial⟩
      · unfold shortE at *
        rw [List.take_succ_eq_append_getElem hlt, List.all_append, hall]
        simp; omega
      · show C.v (V.int .i64 (IntKind.i64.wrap ((k : Int) + 1))) = _
        rw [w64 (by omega) (by omega)]; rfl
  · have h := of_decide_eq_false h
    rw [hel] at h
    obtain rfl : k = l.length := by omega
    rw [List.take_length] at hall
    rw [hall, Bool.true_and]
    conv => whnf
    rw [hel]
theorem diffTells_pc (n0 n1 n3 n4 : Bool) (a b : List Gw.Tree.Node) (dir : Int) (l : List (List UInt8)) (e : List Gw.Diff.Event) (ha : ∀ n ∈ a, I64 n.id) (hb : ∀ n ∈ b, I64 n.id)
    (hal : a.length ≤ 9223372036854775807) (hbl : b.length ≤ 9223372036854775807) (hll : l.length ≤ 9223372036854775807) (hel : e.length ≤ 9223372036854775807) :
    PC Tryz.prog 3 [.lst n0 8 (encN a) .none, .lst n1 8 (encN b) .none, .int .i64 dir, .lst n3 1 (encS1 l) .none, .lst n4 2 (encE e) .none] (.bool true) := by
  have haw := awake_pc
  have hfw := few9_pc n0 n1 a b hal hbl
  have hfp := fewPaths_pc n3 l hll
  have hfe := fewE_pc n4 e 100 hel
  refine PC.of tabOk mixed (fn := Tryz.f3) (by kernel_rfl) rfl (by kernel_rfl) rfl rfl ?_
  conv => whnf
  refine AC.of_pc haw rfl ?_
  conv => whnf
  refine AC.of_pc hfw rfl ?_
  cases h1 : (fewN a 100 && fewN b 100) with
  | false =>
    conv => whnf
    repeat (first | refine ⟨fun _ => ?_, fun h => absurd h (by decide)⟩ | refine ⟨fun h => absurd h (by decide), fun _ => ?_⟩ | refine ⟨fun _ => ?_, fun h => absurd (show true = false from h) (by decide)⟩ | refine ⟨fun h => absurd (show false = true from h) (by decide), fun _ => ?_⟩
            (conv => whnf))
  | true =>
  rw [Bool.and_eq_true] at h1
  obtain ⟨ha1, ha2⟩ := fewN_spec h1.1
  obtain ⟨hb1, hb2⟩ := fewN_spec h1.2
  have hna := named_pc n0 a (by omega) (fun n hn => (ha2 n hn).1)
  have hnb := named_pc n1 b (by omega) (fun n hn => (hb2 n hn).1)
  conv => whnf
  repeat (first | refine ⟨fun _ => ?_, fun h => absurd h (by decide)⟩ | refine ⟨fun h => absurd h (by decide), fun _ => ?_⟩ | refine ⟨fun _ => ?_, fun h => absurd (show true = false from h) (by decide)⟩ | refine ⟨fun h => absurd (show false = true from h) (by decide), fun _ => ?_⟩
          (conv => whnf))
  refine AC.of_pc hna rfl ?_
  cases h2 : namedB a with
  | false =>
    conv => whnf
    repeat (first | refine ⟨fun _ => ?_, fun h => absurd h (by decide)⟩ | refine ⟨fun h => absurd h (by decide), fun _ => ?_⟩ | refine ⟨fun _ => ?_, fun h => absurd (show true = false from h) (by decide)⟩ | refine ⟨fun h => absurd (show false = true from h) (by decide), fun _ => ?_⟩
            (conv => whnf))
  | true =>
  conv => whnf
  repeat (first | refine ⟨fun _ => ?_, fun h => absurd h (by decide)⟩ | refine ⟨fun h => absurd h (by decide), fun _ => ?_⟩ | refine ⟨fun _ => ?_, fun h => absurd (show true = false from h) (by decide)⟩ | refine ⟨fun h => absurd (show false = true from h) (by decide), fun _ => ?_⟩
          (conv => whnf))
  refine AC.of_pc hnb rfl ?_
  cases h3 : namedB b with
  | false =>
    conv => whnf
    repeat (first | refine ⟨fun _ => ?_, fun h => absurd h (by decide)⟩ | refine ⟨fun h => absurd h (by decide), fun _ => ?_⟩ | refine ⟨fun _ => ?_, fun h => absurd (show true = false from h) (by decide)⟩ | refine ⟨fun h => absurd (show false = true from h) (by decide), fun _ => ?_⟩
            (conv => whnf))
  | true =>
  conv => whnf
  repeat (first | refine ⟨fun _ => ?_, fun h => absurd h (by decide)⟩ | refine ⟨fun h => absurd h (by decide), fun _ => ?_⟩ | refine ⟨fun _ => ?_, fun h => absurd (show true = false from h) (by decide)⟩ | refine ⟨fun h => absurd (show false = true from h) (by decide), fun _ => ?_⟩
          (conv => whnf))
  refine AC.of_pc hfp rfl ?_
  cases h4 : (shortT l && decide (l.length ≤ 100)) with
  | false =>
    conv => whnf
    repeat (first | refine ⟨fun _ => ?_, fun h => absurd h (by decide)⟩ | refine ⟨fun h => absurd h (by decide), fun _ => ?_⟩ | refine ⟨fun _ => ?_, fun h => absurd (show true = false from h) (by decide)⟩ | refine ⟨fun h => absurd (show false = true from h) (by decide), fun _ => ?_⟩
            (conv => whnf))
  | true =>
  conv => whnf
  repeat (first | refine ⟨fun _ => ?_, fun h => absurd h (by decide)⟩ | refine ⟨fun h => absurd h (by decide), fun _ => ?_⟩ | refine ⟨fun _ => ?_, fun h => absurd (show true = false from h) (by decide)⟩ | refine ⟨fun h => absurd (show false = true from h) (by decide), fun _ => ?_⟩
          (conv => whnf))
  refine AC.of_pc hfe rfl ?_
  cases h5 : (shortE e && decide ((e.length : Int) ≤ 100)) with
  | false =>
    conv => whnf
    repeat (first | refine ⟨fun _ => ?_, fun h => absurd h (by decide)⟩ | refine ⟨fun h => absurd h (by decide), fun _ => ?_⟩ | refine ⟨fun _ => ?_, fun h => absurd (show true = false from h) (by decide)⟩ | refine ⟨fun h => absurd (show false = true from h) (by decide), fun _ => ?_⟩
            (conv => whnf))
  | true =>
  simp only [Bool.and_eq_true, decide_eq_true_eq] at h4 h5
  have hua := unlike_items (namedB_spec h2) dir
  have hub := unlike_items (namedB_spec h3) dir
  have ho := diffOf_pc n0 n1 a b dir ha hb (by omega) (by omega) (fun n hn => (ha2 n hn).1) (fun n hn => (hb2 n hn).1)
  obtain ⟨q1, hro⟩ := rdiffOf_pc n0 n1 a b dir ha hb (by omega) (by omega) (fun n hn => (ha2 n hn).1) (fun n hn => (hb2 n hn).1) hua hub
  have hla := items_len a dir
  have hlb := items_len b dir
  have hol := ofI_len (Gw.View.items a dir) (Gw.View.items b dir)
  generalize Gw.Diff.ofI (Gw.View.items a dir) (Gw.View.items b dir) = E at *
  have hse := sameE_pc (decide (E = [])) q1 E (by omega)
  have hp := play_pc n3 n4 l e (by omega) (by omega)
  obtain ⟨q2, hrp⟩ := rplay_pc n3 n4 l e h4.2 (by omega)
  have hPl : (Gw.Diff.play l e).length ≤ 200 := by
    rw [← Gw.Diff.rplay_eq]
    have k1 := rfold_len e (l.foldl Gw.Diff.withB [])
    have k2 := fold_len l []
    rw [List.length_nil] at k2
    unfold Gw.Diff.rplay
    omega
  generalize Gw.Diff.play l e = P at *
  have hsP := rsameT_pc false q2 P P (by omega)
  rw [decide_eq_true rfl] at hsP
  conv => whnf
  repeat (first | refine ⟨fun _ => ?_, fun h => absurd h (by decide)⟩ | refine ⟨fun h => absurd h (by decide), fun _ => ?_⟩ | refine ⟨fun _ => ?_, fun h => absurd (show true = false from h) (by decide)⟩ | refine ⟨fun h => absurd (show false = true from h) (by decide), fun _ => ?_⟩
          (conv => whnf))
  refine AC.of_pc ho rfl ?_
  conv => whnf
  refine AC.of_pc hro rfl ?_
  conv => whnf
  refine AC.of_pc hse rfl ?_
  conv => whnf
  repeat (first | refine ⟨fun _ => ?_, fun h => absurd h (by decide)⟩ | refine ⟨fun h => absurd h (by decide), fun _ => ?_⟩ | refine ⟨fun _ => ?_, fun h => absurd (show true = false from h) (by decide)⟩ | refine ⟨fun h => absurd (show false = true from h) (by decide), fun _ => ?_⟩
          (conv => whnf))
  refine AC.of_pc hp rfl ?_
  conv => whnf
  refine AC.of_pc hrp rfl ?_
  conv => whnf
  refine AC.of_pc hsP rfl ?_
  conv => whnf
  repeat (first | refine ⟨fun _ => ?_, fun h => absurd h (by decide)⟩ | refine ⟨fun h => absurd h (by decide), fun _ => ?_⟩ | refine ⟨fun _ => ?_, fun h => absurd (show true = false from h) (by decide)⟩ | refine ⟨fun h => absurd (show false = true from h) (by decide), fun _ => ?_⟩
          (conv => whnf))
end Go.Proofs.YtipgfdepopfghaaGreat
