/- The laws DiffPlays and DiffParts, walked without addresses. No claim of its own. -/
import Derived.Test.YtipgfdepopfghaaGreatAAwake9
import Derived.Test.YtipgfdepopfghaaGreatARDiff1
import Derived.Test.YtipgfdepopfghaaGreatAGrove
namespace Go.Proofs.YtipgfdepopfghaaGreat
open Go.Am

theorem Grove.named {l : List Gw.Tree.Node} (h : Grove l) : Gw.View.Named l := fun n hn hc => ((h.ok n hn).1 hc).2
theorem unlike_items {l : List Gw.Tree.Node} (h : Gw.View.Named l) (dir : Int) : Gw.Diff.Unlike (Gw.View.items l dir) := (Gw.View.items_ahead h dir).imp fun hab => hab.1
theorem ofI_len (A B : List Gw.View.Item) : (Gw.Diff.ofI A B).length ≤ A.length + B.length + B.length := by
  unfold Gw.Diff.ofI Gw.Diff.gone Gw.Diff.came Gw.Diff.wrote
  have h1 := List.length_filter_le (fun t => !Gw.Diff.sameAt B t) A.reverse
  have h2 := List.length_filter_le (fun t => !Gw.Diff.sameAt A t) B
  have h3 := List.length_filter_le (fun t => Gw.Diff.wroteAt A t) B
  rw [List.length_reverse] at h1
  simp only [List.length_append, List.length_map]
  omega
theorem setB_len (l : List (List UInt8)) : (Gw.Diff.setB l).length ≤ l.length := by
  unfold Gw.Diff.setB Gw.Diff.play
  rw [(Gw.Diff.sortB_perm _).length_eq]
  exact Gw.Lists.len_of_sub (Gw.Diff.play_ok l []).names fun q hq => by rw [Gw.Diff.play_mem] at hq; exact hq
theorem diffOfG_pc (q1 q2 : Bool) {a b : List Gw.Tree.Node} (ha : Grove a) (hb : Grove b) (dir : Int) : PC Tryz.prog 15 [.lst q1 8 (encN a) .none, .lst q2 8 (encN b) .none, .int .i64 dir]
    (.lst (decide (Gw.Diff.ofI (Gw.View.items a dir) (Gw.View.items b dir) = [])) 2 (encE (Gw.Diff.ofI (Gw.View.items a dir) (Gw.View.items b dir))) .none) := by
  have h1 := ha.len
  have h2 := hb.len
  exact diffOf_pc q1 q2 a b dir ha.ids hb.ids (by omega) (by omega) (fun n hn => (ha.ok n hn).2) (fun n hn => (hb.ok n hn).2)
theorem vItemsG_pc (q : Bool) {a : List Gw.Tree.Node} (ha : Grove a) (dir : Int) : PC Tryz.prog 23 [.lst q 8 (encN a) .none, .int .i64 dir] (.lst (decide (Gw.View.items a dir = [])) 3 (encIt (Gw.View.items a dir)) .none) := by
  have h1 := ha.len
  exact vItems_pc q a dir ha.ids (by omega) (fun n hn => (ha.ok n hn).2)
theorem diffPlays_pc (nil0 : Bool) (nil1 : Bool) (k l : List Gw.Op.Op) (dir : Int) (hi0 : ∀ o ∈ k, I64 o.node ∧ I64 o.parent) (hl0 : k.length ≤ 9223372036854775807) (hi1 : ∀ o ∈ l, I64 o.node ∧ I64 o.parent) (hl1 : l.length ≤ 9223372036854775807):
    PC Tryz.prog 4 [.lst nil0 7 (encOs k) .none, .lst nil1 7 (encOs l) .none, .int .i64 dir] (.bool true) := by
  have haw := awake_pc
  have hfw0 := few05_pc nil0 k 60 hl0
  have hfw1 := few05_pc nil1 l 60 hl1
  refine PC.of tabOk mixed (fn := Tryz.f4) (by kernel_rfl) rfl (by kernel_rfl) rfl rfl ?_
  conv => whnf
  refine AC.of_pc haw rfl ?_
  conv => whnf
  refine AC.of_pc hfw0 rfl ?_
  cases hfew0 : (Gw.Op.fewL k && decide ((k.length : Int) ≤ 60)) with
  | false =>
    conv => whnf
    repeat (first | refine ⟨fun _ => ?_, fun h => absurd h (by decide)⟩ | refine ⟨fun h => absurd h (by decide), fun _ => ?_⟩ | refine ⟨fun _ => ?_, fun h => absurd (show true = false from h) (by decide)⟩ | refine ⟨fun h => absurd (show false = true from h) (by decide), fun _ => ?_⟩
            (conv => whnf))
  | true =>
  simp only [Bool.and_eq_true, decide_eq_true_eq] at hfew0
  obtain ⟨hf0, hlen0⟩ := hfew0
  obtain ⟨hfine0, hnm0⟩ := few_fine05 hf0 hi0
  have hfo0 := foldG_pr nil0 k (by omega) hfine0
  conv => whnf
  repeat (first | refine ⟨fun _ => ?_, fun h => absurd h (by decide)⟩ | refine ⟨fun h => absurd h (by decide), fun _ => ?_⟩ | refine ⟨fun _ => ?_, fun h => absurd (show true = false from h) (by decide)⟩ | refine ⟨fun h => absurd (show false = true from h) (by decide), fun _ => ?_⟩
          (conv => whnf))
  refine AC.of_pc hfw1 rfl ?_
  cases hfew1 : (Gw.Op.fewL l && decide ((l.length : Int) ≤ 60)) with
  | false =>
    conv => whnf
    repeat (first | refine ⟨fun _ => ?_, fun h => absurd h (by decide)⟩ | refine ⟨fun h => absurd h (by decide), fun _ => ?_⟩ | refine ⟨fun _ => ?_, fun h => absurd (show true = false from h) (by decide)⟩ | refine ⟨fun h => absurd (show false = true from h) (by decide), fun _ => ?_⟩
            (conv => whnf))
  | true =>
  simp only [Bool.and_eq_true, decide_eq_true_eq] at hfew1
  obtain ⟨hf1, hlen1⟩ := hfew1
  obtain ⟨hfine1, hnm1⟩ := few_fine05 hf1 hi1
  have hfo1 := foldG_pr nil1 l (by omega) hfine1
  conv => whnf
  repeat (first | refine ⟨fun _ => ?_, fun h => absurd h (by decide)⟩ | refine ⟨fun h => absurd h (by decide), fun _ => ?_⟩ | refine ⟨fun _ => ?_, fun h => absurd (show true = false from h) (by decide)⟩ | refine ⟨fun h => absurd (show false = true from h) (by decide), fun _ => ?_⟩
          (conv => whnf))
  refine AC.of_pr hfo0 rfl ?_
  rintro res ⟨q0, s, hs, hsl, rfl⟩
  have hg0 := grove_of hfine0 hnm0 (by omega) hs hsl
  have hl600 := hg0.len
  have hnd0 := hg0.named
  generalize foldN s = D0 at *
  clear hs hsl hfo0 hfw0 hf0 hfine0 hnm0
  conv => whnf
  refine AC.of_pr hfo1 rfl ?_
  rintro res ⟨q1, s, hs, hsl, rfl⟩
  have hg1 := grove_of hfine1 hnm1 (by omega) hs hsl
  have hl601 := hg1.len
  have hnd1 := hg1.named
  generalize foldN s = D1 at *
  clear hs hsl hfo1 hfw1 hf1 hfine1 hnm1
  have hua := unlike_items hnd0 dir
  have hub := unlike_items hnd1 dir
  have hia := vItemsG_pc q0 hg0 dir
  have hib := vItemsG_pc q1 hg1 dir
  have hof := diffOfG_pc q0 q1 hg0 hg1 dir
  have hos := diffOfG_pc q0 q0 hg0 hg0 dir
  have hla := items_len D0 dir
  have hlb := items_len D1 dir
  generalize Gw.View.items D0 dir = A at *
  generalize Gw.View.items D1 dir = B at *
  obtain ⟨qa, hpa⟩ := paths_pc (decide (A = [])) A (by omega)
  obtain ⟨qb, hpb⟩ := paths_pc (decide (B = [])) B (by omega)
  have hsl := setB_len (A.map (·.path))
  have hsb := setB_len (B.map (·.path))
  rw [List.length_map] at hsl hsb
  have hol := ofI_len A B
  have hpl := play_pc qa (decide (Gw.Diff.ofI A B = [])) (Gw.Diff.setB (A.map (·.path))) (Gw.Diff.ofI A B) (by omega) (by omega)
  rw [Gw.Diff.play_items hua hub] at hpl
  rw [Gw.Diff.ofI_same hua] at hos
  generalize hSB : Gw.Diff.setB (B.map (·.path)) = SB at *
  have hsa := rsameT_pc false qb SB SB (by omega)
  rw [decide_eq_true rfl] at hsa
  conv => whnf
  refine AC.of_pc hia rfl ?_
  conv => whnf
  refine AC.of_pc hpa rfl ?_
  conv => whnf
  refine AC.of_pc hib rfl ?_
  conv => whnf
  refine AC.of_pc hpb rfl ?_
  conv => whnf
  repeat (first | refine ⟨fun _ => ?_, fun h => absurd h (by decide)⟩ | refine ⟨fun h => absurd h (by decide), fun _ => ?_⟩ | refine ⟨fun _ => ?_, fun h => absurd (show true = false from h) (by decide)⟩ | refine ⟨fun h => absurd (show false = true from h) (by decide), fun _ => ?_⟩
          (conv => whnf))
  refine AC.of_pc hof rfl ?_
  conv => whnf
  refine AC.of_pc hpl rfl ?_
  conv => whnf
  refine AC.of_pc hsa rfl ?_
  conv => whnf
  repeat (first | refine ⟨fun _ => ?_, fun h => absurd h (by decide)⟩ | refine ⟨fun h => absurd h (by decide), fun _ => ?_⟩ | refine ⟨fun _ => ?_, fun h => absurd (show true = false from h) (by decide)⟩ | refine ⟨fun h => absurd (show false = true from h) (by decide), fun _ => ?_⟩
          (conv => whnf))
  refine AC.of_pc hos rfl ?_
  conv => whnf
  repeat (first | refine ⟨fun _ => ?_, fun h => absurd h (by decide)⟩ | refine ⟨fun h => absurd h (by decide), fun _ => ?_⟩ | refine ⟨fun _ => ?_, fun h => absurd (show true = false from h) (by decide)⟩ | refine ⟨fun h => absurd (show false = true from h) (by decide), fun _ => ?_⟩
          (conv => whnf))
  rfl
theorem diffParts_pc (nil0 : Bool) (nil1 : Bool) (nil2 : Bool) (k l m : List Gw.Op.Op) (dir : Int) (hi0 : ∀ o ∈ k, I64 o.node ∧ I64 o.parent) (hl0 : k.length ≤ 9223372036854775807) (hi1 : ∀ o ∈ l, I64 o.node ∧ I64 o.parent) (hl1 : l.length ≤ 9223372036854775807) (hi2 : ∀ o ∈ m, I64 o.node ∧ I64 o.parent) (hl2 : m.length ≤ 9223372036854775807):
    PC Tryz.prog 7 [.lst nil0 7 (encOs k) .none, .lst nil1 7 (encOs l) .none, .lst nil2 7 (encOs m) .none, .int .i64 dir] (.bool true) := by
  have haw := awake_pc
  have hfw0 := few05_pc nil0 k 60 hl0
  have hfw1 := few05_pc nil1 l 60 hl1
  have hfw2 := few05_pc nil2 m 60 hl2
  refine PC.of tabOk mixed (fn := Tryz.f7) (by kernel_rfl) rfl (by kernel_rfl) rfl rfl ?_
  conv => whnf
  refine AC.of_pc haw rfl ?_
  conv => whnf
  refine AC.of_pc hfw0 rfl ?_
  cases hfew0 : (Gw.Op.fewL k && decide ((k.length : Int) ≤ 60)) with
  | false =>
    conv => whnf
    repeat (first | refine ⟨fun _ => ?_, fun h => absurd h (by decide)⟩ | refine ⟨fun h => absurd h (by decide), fun _ => ?_⟩ | refine ⟨fun _ => ?_, fun h => absurd (show true = false from h) (by decide)⟩ | refine ⟨fun h => absurd (show false = true from h) (by decide), fun _ => ?_⟩
            (conv => whnf))
  | true =>
  simp only [Bool.and_eq_true, decide_eq_true_eq] at hfew0
  obtain ⟨hf0, hlen0⟩ := hfew0
  obtain ⟨hfine0, hnm0⟩ := few_fine05 hf0 hi0
  have hfo0 := foldG_pr nil0 k (by omega) hfine0
  conv => whnf
  repeat (first | refine ⟨fun _ => ?_, fun h => absurd h (by decide)⟩ | refine ⟨fun h => absurd h (by decide), fun _ => ?_⟩ | refine ⟨fun _ => ?_, fun h => absurd (show true = false from h) (by decide)⟩ | refine ⟨fun h => absurd (show false = true from h) (by decide), fun _ => ?_⟩
          (conv => whnf))
  refine AC.of_pc hfw1 rfl ?_
  cases hfew1 : (Gw.Op.fewL l && decide ((l.length : Int) ≤ 60)) with
  | false =>
    conv => whnf
    repeat (first | refine ⟨fun _ => ?_, fun h => absurd h (by decide)⟩ | refine ⟨fun h => absurd h (by decide), fun _ => ?_⟩ | refine ⟨fun _ => ?_, fun h => absurd (show true = false from h) (by decide)⟩ | refine ⟨fun h => absurd (show false = true from h) (by decide), fun _ => ?_⟩
            (conv => whnf))
  | true =>
  simp only [Bool.and_eq_true, decide_eq_true_eq] at hfew1
  obtain ⟨hf1, hlen1⟩ := hfew1
  obtain ⟨hfine1, hnm1⟩ := few_fine05 hf1 hi1
  have hfo1 := foldG_pr nil1 l (by omega) hfine1
  conv => whnf
  repeat (first | refine ⟨fun _ => ?_, fun h => absurd h (by decide)⟩ | refine ⟨fun h => absurd h (by decide), fun _ => ?_⟩ | refine ⟨fun _ => ?_, fun h => absurd (show true = false from h) (by decide)⟩ | refine ⟨fun h => absurd (show false = true from h) (by decide), fun _ => ?_⟩
          (conv => whnf))
  refine AC.of_pc hfw2 rfl ?_
  cases hfew2 : (Gw.Op.fewL m && decide ((m.length : Int) ≤ 60)) with
  | false =>
    conv => whnf
    repeat (first | refine ⟨fun _ => ?_, fun h => absurd h (by decide)⟩ | refine ⟨fun h => absurd h (by decide), fun _ => ?_⟩ | refine ⟨fun _ => ?_, fun h => absurd (show true = false from h) (by decide)⟩ | refine ⟨fun h => absurd (show false = true from h) (by decide), fun _ => ?_⟩
            (conv => whnf))
  | true =>
  simp only [Bool.and_eq_true, decide_eq_true_eq] at hfew2
  obtain ⟨hf2, hlen2⟩ := hfew2
  obtain ⟨hfine2, hnm2⟩ := few_fine05 hf2 hi2
  have hfo2 := foldG_pr nil2 m (by omega) hfine2
  conv => whnf
  repeat (first | refine ⟨fun _ => ?_, fun h => absurd h (by decide)⟩ | refine ⟨fun h => absurd h (by decide), fun _ => ?_⟩ | refine ⟨fun _ => ?_, fun h => absurd (show true = false from h) (by decide)⟩ | refine ⟨fun h => absurd (show false = true from h) (by decide), fun _ => ?_⟩
          (conv => whnf))
  refine AC.of_pr hfo0 rfl ?_
  rintro res ⟨q0, s, hs, hsl, rfl⟩
  have hg0 := grove_of hfine0 hnm0 (by omega) hs hsl
  have hl600 := hg0.len
  have hnd0 := hg0.named
  generalize foldN s = D0 at *
  clear hs hsl hfo0 hfw0 hf0 hfine0 hnm0
  conv => whnf
  refine AC.of_pr hfo1 rfl ?_
  rintro res ⟨q1, s, hs, hsl, rfl⟩
  have hg1 := grove_of hfine1 hnm1 (by omega) hs hsl
  have hl601 := hg1.len
  have hnd1 := hg1.named
  generalize foldN s = D1 at *
  clear hs hsl hfo1 hfw1 hf1 hfine1 hnm1
  conv => whnf
  refine AC.of_pr hfo2 rfl ?_
  rintro res ⟨q2, s, hs, hsl, rfl⟩
  have hg2 := grove_of hfine2 hnm2 (by omega) hs hsl
  have hl602 := hg2.len
  have hnd2 := hg2.named
  generalize foldN s = D2 at *
  clear hs hsl hfo2 hfw2 hf2 hfine2 hnm2
  have hua := unlike_items hnd0 dir
  have hub := unlike_items hnd1 dir
  have huc := unlike_items hnd2 dir
  have hia := vItemsG_pc q0 hg0 dir
  have ho1 := diffOfG_pc q0 q1 hg0 hg1 dir
  have ho2 := diffOfG_pc q1 q2 hg1 hg2 dir
  have ho3 := diffOfG_pc q0 q2 hg0 hg2 dir
  have hla := items_len D0 dir
  have hlb := items_len D1 dir
  have hlc := items_len D2 dir
  generalize Gw.View.items D0 dir = A at *
  generalize Gw.View.items D1 dir = B at *
  generalize Gw.View.items D2 dir = C at *
  obtain ⟨qa, hpa⟩ := paths_pc (decide (A = [])) A (by omega)
  have hsl := setB_len (A.map (·.path))
  have hsb := setB_len (B.map (·.path))
  have hsc := setB_len (C.map (·.path))
  rw [List.length_map] at hsl hsb hsc
  have hol := ofI_len A B
  have hol2 := ofI_len B C
  have hol3 := ofI_len A C
  have hp1 := play_pc qa (decide (Gw.Diff.ofI A B = [])) (Gw.Diff.setB (A.map (·.path))) (Gw.Diff.ofI A B) (by omega) (by omega)
  have hp2 := play_pc false (decide (Gw.Diff.ofI B C = [])) (Gw.Diff.setB (B.map (·.path))) (Gw.Diff.ofI B C) (by omega) (by omega)
  have hp3 := play_pc qa (decide (Gw.Diff.ofI A C = [])) (Gw.Diff.setB (A.map (·.path))) (Gw.Diff.ofI A C) (by omega) (by omega)
  rw [Gw.Diff.play_items hua hub] at hp1
  rw [Gw.Diff.play_items hub huc] at hp2
  rw [Gw.Diff.play_items hua huc] at hp3
  generalize Gw.Diff.setB (B.map (·.path)) = SB at *
  generalize Gw.Diff.setB (C.map (·.path)) = SC at *
  have hsa := rsameT_pc false false SC SC (by omega)
  rw [decide_eq_true rfl] at hsa
  conv => whnf
  refine AC.of_pc hia rfl ?_
  conv => whnf
  refine AC.of_pc hpa rfl ?_
  conv => whnf
  refine AC.of_pc ho1 rfl ?_
  conv => whnf
  refine AC.of_pc hp1 rfl ?_
  conv => whnf
  refine AC.of_pc ho2 rfl ?_
  conv => whnf
  refine AC.of_pc hp2 rfl ?_
  conv => whnf
  repeat (first | refine ⟨fun _ => ?_, fun h => absurd h (by decide)⟩ | refine ⟨fun h => absurd h (by decide), fun _ => ?_⟩ | refine ⟨fun _ => ?_, fun h => absurd (show true = false from h) (by decide)⟩ | refine ⟨fun h => absurd (show false = true from h) (by decide), fun _ => ?_⟩
          (conv => whnf))
  refine AC.of_pc ho3 rfl ?_
  conv => whnf
  refine AC.of_pc hp3 rfl ?_
  conv => whnf
  refine AC.of_pc hsa rfl ?_
  conv => whnf
  repeat (first | refine ⟨fun _ => ?_, fun h => absurd h (by decide)⟩ | refine ⟨fun h => absurd h (by decide), fun _ => ?_⟩ | refine ⟨fun _ => ?_, fun h => absurd (show true = false from h) (by decide)⟩ | refine ⟨fun h => absurd (show false = true from h) (by decide), fun _ => ?_⟩
          (conv => whnf))
end Go.Proofs.YtipgfdepopfghaaGreat
