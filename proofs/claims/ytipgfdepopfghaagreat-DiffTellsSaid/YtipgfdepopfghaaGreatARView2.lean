/- What the document's answer finds, and all that it sees below a directory: told without addresses. No claim of its own. -/
import Derived.Test.YtipgfdepopfghaaGreatARView
namespace Go.Proofs.YtipgfdepopfghaaGreat
open Go.Am

theorem rhas_pc (nil : Bool) (l : List Int) (z : Int) (hl : l.length ≤ 1048576) : PC Tryz.prog 84 [.lst nil 1 (encZ l) .none, .int .i64 z] (.bool (l.contains z)) := by
  have hel := encZ_len l
  refine PC.of tabOk mixed (fn := Tryz.f84) (by kernel_rfl) rfl (by kernel_rfl) rfl rfl ?_
  conv => whnf
  refine AW.loop (fun k : Nat => [(.tmp 0, .v (.lst nil 1 (encZ l) .none)), (.tmp 1, .v (.int .i64 z)), (.tmp 5, .v (.int .i64 k))]) 0 (fun k => k ≤ l.length ∧ ∀ j (hj : j < l.length), j < k → l[j] ≠ z) (fun k => l.length - k) (by decide) 0 ⟨Nat.zero_le _, fun j _ h => by omega⟩ ⟨rfl, rfl, rfl, rfl, rfl, rfl, trivial⟩ ?_
  rintro k ⟨hk, hall⟩
  refine ev_sound tabOk mixed _ _ _ _ ?_
  conv => whnf
  rw [hel]
  refine ⟨fun h1 => ?_, fun h1 => ?_⟩
  · have h1 := of_decide_eq_true h1
    have hlt : k < l.length := by omega
    have hg := encZ_get hlt
    conv => whnf
    refine ⟨_, ⟨by omega, hg⟩, ?_⟩
    conv => whnf
    refine ⟨fun h3 => ?_, fun h3 => ?_⟩
    · have h3 : l[k] = z := by simpa using h3
      rw [show l.contains z = true from by rw [List.contains_iff_mem, ← h3]; exact List.getElem_mem hlt]
      conv => whnf
    · have h3 : l[k] ≠ z := by simpa using h3
      conv => whnf
      refine ⟨k + 1, ⟨by omega, fun j hj hjk => ?_⟩, by show l.length - (k + 1) < l.length - k; omega, rfl, rfl, rfl, rfl, ?_, rfl, trivial⟩
      · by_cases e : j = k
        · subst e; exact h3
        · exact hall j hj (by omega)
      · show C.v (V.int .i64 (IntKind.i64.wrap ((k : Int) + 1))) = _
        rw [w64 (by omega) (by omega)]; rfl
  · have h := of_decide_eq_false h1
    rw [show l.contains z = false from by
      rw [Bool.eq_false_iff]
      intro hc
      obtain ⟨j, hj, e⟩ := List.getElem_of_mem (List.contains_iff_mem.1 hc)
      exact hall j hj (by omega) e]
    conv => whnf
theorem list_child {l : List Gw.Tree.Node} (hc : Gw.Tree.check l = true) {dir : Int} {s : List UInt8} (h : s ∈ Gw.View.list l dir) : ∃ n, Gw.View.child l dir s = some n := by
  unfold Gw.View.list at h
  rw [if_pos hc] at h
  have h := (Gw.View.sortT_perm _).mem_iff.1 h
  unfold Gw.View.child
  rw [if_pos hc]
  exact Option.isSome_iff_exists.1 ((Gw.View.findM_isSome s _).2 h)
theorem list_len {l : List Gw.Tree.Node} (hc : Gw.Tree.check l = true) (dir : Int) : (Gw.View.list l dir).length ≤ l.length := by
  rw [← Gw.View.rlist_list hc]
  obtain ⟨h1, h2⟩ := Gw.View.rlist_spec dir l [] List.Pairwise.nil
  have := Gw.Lists.len_of_sub (l := Gw.View.rlist l dir) (m := l.map (·.name)) (Gw.View.up_nodup h1) fun s hs => by
    rcases (h2 s).1 hs with h | ⟨n, q1, _, q3⟩
    · cases h
    · exact List.mem_map.2 ⟨n, q1, q3⟩
  rwa [List.length_map] at this
theorem rbelow_pc (nil qo : Bool) {l : List Gw.Tree.Node} (hc : Gw.Tree.check l = true) (outs : List Int) (ho : outs.length ≤ 1048576) (hl : l.length ≤ 1000) (hi : ∀ n ∈ l, I64 n.id) (hs : ∀ n ∈ l, n.name.length ≤ 1000) {top : Int} (ht : top ∈ outs) :
    ∀ (f : Nat), f ≤ 1000000 → ∀ {ids : List Int} {dir : Int} {path : List UInt8}, Gw.View.Way l outs top ids dir → path.length ≤ 1001 * ids.length →
      ∃ q, PC Tryz.prog 61 [.lst nil 8 (encN l) .none, .int .i64 dir, .str path, .lst qo 1 (encZ outs) .none, .int .i64 f] (.lst q 3 (encIt (Gw.View.belowF l outs f dir path)) .none)
  | 0, _, ids, dir, path, hw, hp => by
    obtain ⟨qn, hls⟩ := rlist_pc nil l dir hi (by omega) (fun n hn => by have := hs n hn; omega)
    refine ⟨true, ?_⟩
    refine PC.ofS tabOk mixed (fn := Tryz.f61) (by kernel_rfl) rfl (by kernel_rfl) rfl rfl ?_
    conv => whnf
    refine AC.of_pc hls rfl ?_
    conv => whnf
    refine AW.nilSlot 11 3 rfl ?_
    refine AW.loop (fun k : Nat => [(.tmp 4, .v (.int .i64 (0 : Nat))), (.tmp 11, .v (.lst true 3 [] .none)), (.tmp 12, .v (.lst qn 1 (encS1 (Gw.View.list l dir)) .none)), (.tmp 13, .v (.int .i64 k))]) 0 (fun k => k = 0) (fun k => 0) (by decide) 0 rfl ⟨rfl, rfl, rfl, rfl, rfl, rfl, rfl, rfl, trivial⟩ ?_
    rintro k rfl
    refine ev_sound tabOk mixed _ _ _ _ ?_
    conv => whnf
    refine ⟨fun h1 => ?_, fun h1 => ?_⟩
    · conv => whnf
      repeat (first | refine ⟨fun _ => ?_, fun h => absurd h (by decide)⟩ | refine ⟨fun h => absurd h (by decide), fun _ => ?_⟩ | refine ⟨fun _ => ?_, fun h => absurd (show true = false from h) (by decide)⟩ | refine ⟨fun h => absurd (show false = true from h) (by decide), fun _ => ?_⟩
              (conv => whnf))
      exact SubV.nil _ _ _
    · conv => whnf
      repeat (first | refine ⟨fun _ => ?_, fun h => absurd h (by decide)⟩ | refine ⟨fun h => absurd h (by decide), fun _ => ?_⟩ | refine ⟨fun _ => ?_, fun h => absurd (show true = false from h) (by decide)⟩ | refine ⟨fun h => absurd (show false = true from h) (by decide), fun _ => ?_⟩
              (conv => whnf))
      exact SubV.nil _ _ _
  | f + 1, hf, ids, dir, path, hw, hp => by
    obtain ⟨qn, hls⟩ := rlist_pc nil l dir hi (by omega) (fun n hn => by have := hs n hn; omega)
    have hil := hw.len hc ht
    have hlen := Gw.View.belowF_len hc ht (f + 1) (path := path) hw
    have hns := fun s (h : s ∈ Gw.View.list l dir) => list_child hc h
    have hnl := list_len hc dir
    have hch := fun s => rchild_pc nil l dir s hi (by omega)
    have hfi := fun (n : Gw.Tree.Node) (h : n ∈ l) => rtFind_pc nil l n.id hi (by omega) hc (Gw.Tree.find_mem hc h)
    have hha := fun z => rhas_pc qo outs z ho
    rw [show Gw.View.belowF l outs (f + 1) dir path = (Gw.View.list l dir).flatMap (Gw.View.stepR (Gw.View.belowF l outs f) l outs dir path) from Gw.View.levelR hc _ _ _ _] at hlen ⊢
    generalize hN : Gw.View.list l dir = N at *
    have hNl := encS1_len N
    refine ⟨decide (N.flatMap (Gw.View.stepR (Gw.View.belowF l outs f) l outs dir path) = []), ?_⟩
    refine PC.ofS tabOk mixed (fn := Tryz.f61) (by kernel_rfl) rfl (by kernel_rfl) rfl rfl ?_
    conv => whnf
    refine AC.of_pc hls rfl ?_
    conv => whnf
    refine AW.row 11 59 3 rfl rfl (.inr rfl) ?_
    refine AW.loop (fun k : Nat => [(.tmp 0, .v (.lst nil 8 (encN l) .none)), (.tmp 1, .v (.int .i64 dir)), (.tmp 2, .v (.str path)), (.tmp 3, .v (.lst qo 1 (encZ outs) .none)), (.tmp 4, .v (.int .i64 (f + 1 : Nat))), (.tmp 12, .v (.lst qn 1 (encS1 N) .none)), (.tmp 13, .v (.int .i64 k)),
        (.tmp 11, .v (.lst (decide ((N.take k).flatMap (Gw.View.stepR (Gw.View.belowF l outs f) l outs dir path) = [])) 3 (encIt ((N.take k).flatMap (Gw.View.stepR (Gw.View.belowF l outs f) l outs dir path))) (.row 6))), (.row 6, .row 59 3 ((N.take k).flatMap (Gw.View.stepR (Gw.View.belowF l outs f) l outs dir path)).length)]) 7
      (fun k => k ≤ N.length) (fun k => N.length - k) (by decide) 0 (Nat.zero_le _) ⟨rfl, rfl, rfl, rfl, rfl, rfl, rfl, rfl, rfl, rfl, rfl, rfl, rfl, rfl, rfl, rfl, rfl, rfl, trivial⟩ ?_
    rintro k hk
    refine ev_sound tabOk mixed _ _ _ _ ?_
    conv => whnf
    rw [hNl]
    refine ⟨fun h1 => ?_, fun h1 => ?_⟩
    · have h1 := of_decide_eq_true h1
      have hlt : k < N.length := by omega
      have hg := encS1_get hlt
      obtain ⟨nd, hcd⟩ := hns N[k] (List.getElem_mem hlt)
      obtain ⟨hnm, hnd, hname⟩ := Gw.View.child_mem hcd
      have hpd : nd.parent = dir := by
        unfold Gw.View.inDir at hnd
        simp only [Bool.and_eq_true, decide_eq_true_eq] at hnd
        exact hnd.1
      have hsl : N[k].length ≤ 1000 := by rw [← hname]; exact hs nd hnm
      have htk : (N.take (k + 1)).flatMap (Gw.View.stepR (Gw.View.belowF l outs f) l outs dir path) = (N.take k).flatMap (Gw.View.stepR (Gw.View.belowF l outs f) l outs dir path) ++ (if outs.contains nd.id = true then [] else Gw.View.oneF (Gw.View.belowF l outs f) path N[k] nd) := by
        rw [List.take_succ_eq_append_getElem hlt, List.flatMap_append, List.flatMap_singleton]
        congr 1
        unfold Gw.View.stepR
        rw [hcd]
      have hle : ((N.take (k + 1)).flatMap (Gw.View.stepR (Gw.View.belowF l outs f) l outs dir path)).length ≤ 1000 := by
        have : ((N.take (k + 1)).flatMap (Gw.View.stepR (Gw.View.belowF l outs f) l outs dir path)).length ≤ (N.flatMap (Gw.View.stepR (Gw.View.belowF l outs f) l outs dir path)).length := by
          conv => rhs; rw [← List.take_append_drop (k + 1) N, List.flatMap_append, List.length_append]
          omega
        omega
      have hchk := hch N[k]
      rw [hcd] at hchk
      rw [htk] at hle
      have hfk := hfi nd hnm
      have hhk := hha nd.id
      have hdk := rdir_pc nd.id (hi nd hnm)
      have hrec : nd.id ∉ outs → ∃ q, PC Tryz.prog 61 [.lst nil 8 (encN l) .none, .int .i64 nd.id, .str (Gw.View.pathOf path N[k]), .lst qo 1 (encZ outs) .none, .int .i64 f] (.lst q 3 (encIt (Gw.View.belowF l outs f nd.id (Gw.View.pathOf path N[k]))) .none) := fun hno =>
        rbelow_pc nil qo hc outs ho hl hi hs ht f (by omega) (.down hw hnm hpd hno) (by
          unfold Gw.View.pathOf
          simp only [List.length_append, List.length_singleton]
          omega)
      have hwk : IntKind.i64.wrap ((k : Int) + 1) = ((k + 1 : Nat) : Int) := by rw [w64 (by omega) (by omega)]; rfl
      have hwf : IntKind.i64.wrap (((f + 1 : Nat) : Int) - 1) = (f : Int) := by rw [w64 (by omega) (by omega)]; omega
      generalize (N.take k).flatMap (Gw.View.stepR (Gw.View.belowF l outs f) l outs dir path) = A at *
      generalize N[k] = s at *
      have hAe := encIt_len A
      rw [List.length_append] at hle
      conv => whnf
      refine ⟨fun _ => ?_, fun h => absurd (of_decide_eq_false h) (by omega)⟩
      conv => whnf
      refine ⟨_, ⟨by omega, hg⟩, ?_⟩
      conv => whnf
      refine AC.of_pc hchk rfl ?_
      conv => whnf
      refine AC.of_pc hfk rfl ?_
      conv => whnf
      refine AC.of_pc hhk rfl ?_
      cases hct : outs.contains nd.id with
      | true =>
        rw [hct, if_pos rfl, List.append_nil] at htk
        conv => whnf
        repeat (first | refine ⟨fun _ => ?_, fun h => absurd h (by decide)⟩ | refine ⟨fun h => absurd h (by decide), fun _ => ?_⟩ | refine ⟨fun _ => ?_, fun h => absurd (show true = false from h) (by decide)⟩ | refine ⟨fun h => absurd (show false = true from h) (by decide), fun _ => ?_⟩
                (conv => whnf))
        refine ⟨k + 1, hlt, by show N.length - (k + 1) < N.length - k; omega, rfl, rfl, rfl, rfl, rfl, rfl, rfl, rfl, rfl, rfl, rfl, rfl, ?_, rfl, ?_, rfl, ?_, rfl, trivial⟩
        · show C.v (V.int .i64 (IntKind.i64.wrap ((k : Int) + 1))) = _
          rw [hwk]
        · rw [htk]; rfl
        · rw [htk]; rfl
      | false =>
        rw [hct, if_neg (by decide)] at htk hle
        have hno : nd.id ∉ outs := fun h => by
          have := List.contains_iff_mem.2 h
          rw [hct] at this; cases this
        obtain ⟨q2, hrc⟩ := hrec hno
        have hpth : path ++ (ByteArray.mk #[47]).data.toList ++ s = Gw.View.pathOf path s := rfl
        have hpl : (path ++ (ByteArray.mk #[47]).data.toList).length = path.length + 1 := List.length_append
        unfold Gw.View.oneF at htk hle
        conv => whnf
        repeat (first | refine ⟨fun _ => ?_, fun h => absurd h (by decide)⟩ | refine ⟨fun h => absurd h (by decide), fun _ => ?_⟩ | refine ⟨fun _ => ?_, fun h => absurd (show true = false from h) (by decide)⟩ | refine ⟨fun h => absurd (show false = true from h) (by decide), fun _ => ?_⟩
                (conv => whnf))
        refine ⟨by show path.length + 1 < _; omega, ?_⟩
        conv => whnf
        refine ⟨_, ⟨by omega, hg⟩, ?_⟩
        conv => whnf
        refine ⟨by rw [hpl]; omega, ?_⟩
        conv => whnf
        rw [hpth]
        generalize hP : Gw.View.pathOf path s = P at *
        have hle : A.length + 1 ≤ 1000 ∧ (Gw.Stamp.dir nd.id = true → A.length + (1 + (Gw.View.belowF l outs f nd.id P).length) ≤ 1000) := by
          constructor
          · rw [List.length_cons] at hle; omega
          · intro hd
            rw [if_pos hd, List.length_cons] at hle; omega
        refine ⟨⟨hAe.symm, fits_small (by show (encIt A).length + 1 ≤ _; omega) (by decide)⟩, ?_⟩
        conv => whnf
        refine ⟨by kernel_rfl, ?_⟩
        conv => whnf
        refine AC.of_pc hdk rfl ?_
        cases hd : Gw.Stamp.dir nd.id with
        | false =>
          rw [hd, if_neg (by decide)] at htk
          conv => whnf
          repeat (first | refine ⟨fun _ => ?_, fun h => absurd h (by decide)⟩ | refine ⟨fun h => absurd h (by decide), fun _ => ?_⟩ | refine ⟨fun _ => ?_, fun h => absurd (show true = false from h) (by decide)⟩ | refine ⟨fun h => absurd (show false = true from h) (by decide), fun _ => ?_⟩
                  (conv => whnf))
          refine ⟨k + 1, hlt, by show N.length - (k + 1) < N.length - k; omega, rfl, rfl, rfl, rfl, rfl, rfl, rfl, rfl, rfl, rfl, rfl, rfl, ?_, rfl, ?_, rfl, ?_, rfl, trivial⟩
          · show C.v (V.int .i64 (IntKind.i64.wrap ((k : Int) + 1))) = _
            rw [hwk]
          · rw [htk]
            show C.v (V.lst (decide (A = []) && false) 3 (encIt A ++ [cellsI ⟨P, nd.id, nd.data⟩]) _) = C.v (V.lst (decide (A ++ [Gw.View.Item.mk P nd.id nd.data] = [])) 3 (encIt (A ++ [⟨P, nd.id, nd.data⟩])) _)
            rw [Bool.and_false, decide_eq_false (by simp)]
            unfold encIt
            rw [List.map_append]
            rfl
          · rw [htk]
            exact row_snoc _ A ⟨P, nd.id, nd.data⟩
        | true =>
          rw [hd, if_pos rfl] at htk
          have hle2 := hle.2 hd
          conv => whnf
          repeat (first | refine ⟨fun _ => ?_, fun h => absurd h (by decide)⟩ | refine ⟨fun h => absurd h (by decide), fun _ => ?_⟩ | refine ⟨fun _ => ?_, fun h => absurd (show true = false from h) (by decide)⟩ | refine ⟨fun h => absurd (show false = true from h) (by decide), fun _ => ?_⟩
                  (conv => whnf))
          refine ⟨by show path.length + 1 < _; omega, ?_⟩
          conv => whnf
          refine ⟨_, ⟨by omega, hg⟩, ?_⟩
          conv => whnf
          refine ⟨by rw [hpl]; omega, ?_⟩
          conv => whnf
          rw [hpth, hwf]
          refine AC.of_pc hrc rfl ?_
          have hSe := encIt_len (Gw.View.belowF l outs f nd.id P)
          generalize Gw.View.belowF l outs f nd.id P = B at *
          conv => whnf
          have e3 : ∀ x : List V, (encIt A ++ [x]).length + (encIt B).length ≤ 3000 := fun x => by rw [List.length_append, List.length_singleton]; omega
          refine ⟨⟨List.length_append.symm, fits_small (Nat.le_trans (e3 _) (by decide)) (by decide)⟩, ?_⟩
          conv => whnf
          refine ⟨k + 1, hlt, by show N.length - (k + 1) < N.length - k; omega, rfl, rfl, rfl, rfl, rfl, rfl, rfl, rfl, rfl, rfl, rfl, rfl, ?_, rfl, ?_, rfl, ?_, rfl, trivial⟩
          · show C.v (V.int .i64 (IntKind.i64.wrap ((k : Int) + 1))) = _
            rw [hwk]
          · rw [htk]
            show C.v (V.lst (decide (A = []) && false && _) 3 (encIt A ++ [cellsI ⟨P, nd.id, nd.data⟩] ++ encIt B) _) = C.v (V.lst (decide (A ++ (Gw.View.Item.mk P nd.id nd.data :: B) = [])) 3 (encIt (A ++ (⟨P, nd.id, nd.data⟩ :: B))) _)
            rw [Bool.and_false, Bool.false_and, decide_eq_false (by simp), List.append_assoc]
            unfold encIt
            rw [List.map_append]
            rfl
          · rw [htk]
            show C.row _ 3 ((encIt A ++ [cellsI ⟨P, nd.id, nd.data⟩]).length + (encIt B).length) = C.row _ 3 (A ++ (Gw.View.Item.mk P nd.id nd.data :: B)).length
            rw [List.length_append, List.length_append, List.length_singleton, List.length_cons, hAe, hSe]
            congr 1
            omega
    · have h1 := of_decide_eq_false h1
      rw [List.take_of_length_le (by omega)]
      conv => whnf
      repeat (first | refine ⟨fun _ => ?_, fun h => absurd h (by decide)⟩ | refine ⟨fun h => absurd h (by decide), fun _ => ?_⟩ | refine ⟨fun _ => ?_, fun h => absurd (show true = false from h) (by decide)⟩ | refine ⟨fun h => absurd (show false = true from h) (by decide), fun _ => ?_⟩
              (conv => whnf))
      exact SubV.refl _
end Go.Proofs.YtipgfdepopfghaaGreat
