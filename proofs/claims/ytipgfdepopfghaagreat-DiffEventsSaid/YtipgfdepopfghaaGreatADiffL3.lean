/- The law DiffEvents, walked without addresses. No claim of its own. -/
import Derived.Test.YtipgfdepopfghaaGreatADiffL1
namespace Go.Proofs.YtipgfdepopfghaaGreat
open Go.Am

def hasB (I : List Gw.View.Item) (p : List UInt8) : Bool := I.any fun t => decide (t.path = p)
theorem has_pc (q : Bool) (I : List Gw.View.Item) (p : List UInt8) (hl : I.length ≤ 1048576) : PC Tryz.prog 24 [.lst q 3 (encIt I) .none, .str p] (.bool (hasB I p)) := by
  have hel := encIt_len I
  refine PC.of tabOk mixed (fn := Tryz.f24) (by kernel_rfl) rfl (by kernel_rfl) rfl rfl ?_
  conv => whnf
  refine AW.loop (fun k : Nat => [(.tmp 0, .v (.lst q 3 (encIt I) .none)), (.tmp 1, .v (.str p)), (.tmp 5, .v (.int .i64 k))]) 0
    (fun k => k ≤ I.length ∧ hasB (I.take k) p = false) (fun k => I.length - k) (by decide) 0 ⟨Nat.zero_le _, rfl⟩ ⟨rfl, rfl, rfl, rfl, rfl, rfl, trivial⟩ ?_
  rintro k ⟨hk, hall⟩
  refine ev_sound tabOk mixed _ _ _ _ ?_
  conv => whnf
  refine ⟨fun h => ?_, fun h => ?_⟩
  · have h := of_decide_eq_true h
    rw [hel] at h
    have hlt : k < I.length := by omega
    have hg := encIt_get hlt
    conv => whnf
    refine ⟨_, ⟨by omega, hg⟩, ?_⟩
    conv => whnf
    refine ⟨fun h => ?_, fun h => ?_⟩
    · have h : I[k].path = p := by simpa using h
      rw [show hasB I p = true from List.any_eq_true.2 ⟨_, List.getElem_mem hlt, decide_eq_true h⟩]
      conv => whnf
    · have h : I[k].path ≠ p := by simpa using h
      conv => whnf
      refine ⟨k + 1, ⟨by omega, ?_⟩, by show I.length - (k + 1) < I.length - k; omega, rfl, rfl, rfl, rfl, ?_, rfl, trivial⟩
      · unfold hasB at *
        rw [List.take_succ_eq_append_getElem hlt, List.any_append, hall]
        simp [h]
      · show C.v (V.int .i64 (IntKind.i64.wrap ((k : Int) + 1))) = _
        rw [w64 (by omega) (by omega)]; rfl
  · have h := of_decide_eq_false h
    rw [hel] at h
    obtain rfl : k = I.length := by omega
    rw [List.take_length] at hall
    rw [hall]
    conv => whnf
theorem within_pc (p d : List UInt8) (_ : p.length ≤ 1048576) (hd : d.length ≤ 1048576) : PC Tryz.prog 25 [.str p, .str d] (.bool (Gw.View.within d p)) := by
  have wn : IntKind.i64.wrap ((d.length : Int) + 1) = ((d.length + 1 : Nat) : Int) := by rw [w64 (by omega) (by omega)]; rfl
  unfold Gw.View.within
  refine PC.of tabOk mixed (fn := Tryz.f25) (by kernel_rfl) rfl (by kernel_rfl) rfl rfl ?_
  conv => whnf
  refine ⟨fun h => ?_, fun h => ?_⟩
  · have h := of_decide_eq_true h
    rw [decide_eq_true (show d.length < p.length by omega), Bool.true_and]
    conv => whnf
    refine ⟨⟨by omega, by omega⟩, ?_⟩
    conv => whnf
    refine ⟨by show d.length + 1 < _; omega, ?_⟩
    conv => whnf
    have hsl : (p.take (IntKind.i64.wrap ((d.length : Int) + 1)).toNat).drop (0 : Int).toNat = p.take (d.length + 1) := by rw [wn]; rfl
    refine congrArg V.bool ?_
    show decide ((p.take (IntKind.i64.wrap ((d.length : Int) + 1)).toNat).drop (0 : Int).toNat = d ++ [47]) = _
    rw [hsl]
  · have h := of_decide_eq_false h
    rw [decide_eq_false (show ¬ d.length < p.length by omega), Bool.false_and]
    conv => whnf
theorem items_path {l : List Gw.Tree.Node} (h : Grove l) (dir : Int) : ∀ it ∈ Gw.View.items l dir, it.path.length ≤ 1001 * l.length := fun it hi => by
  unfold Gw.View.items at hi
  split at hi
  · have := Gw.View.belowF_path (fun n hn => (h.ok n hn).2) l.length it hi
    rw [List.length_nil] at this
    omega
  · cases hi
theorem hasB_of {I : List Gw.View.Item} {t : Gw.View.Item} (h : t ∈ I) : hasB I t.path = true := List.any_eq_true.2 ⟨t, h, decide_eq_true rfl⟩
theorem ev_cases {A B : List Gw.View.Item} (ha : Gw.Diff.Unlike A) {e : Gw.Diff.Event} (h : e ∈ Gw.Diff.ofI A B) : (∃ p, e = ⟨1, p⟩ ∧ hasB A p = true) ∨ (∃ p, e = ⟨2, p⟩ ∧ hasB B p = true) ∨ ∃ p, e = ⟨3, p⟩ ∧ hasB A p = true ∧ hasB B p = true := by
  rcases Gw.Diff.mem_ofI.1 h with h | h | h
  · obtain ⟨t, ht, _, rfl⟩ := Gw.Diff.mem_gone.1 h
    exact .inl ⟨_, rfl, hasB_of ht⟩
  · obtain ⟨t, ht, _, rfl⟩ := Gw.Diff.mem_came.1 h
    exact .inr (.inl ⟨_, rfl, hasB_of ht⟩)
  · obtain ⟨t, ht, hw, rfl⟩ := Gw.Diff.mem_wrote.1 h
    obtain ⟨x, k1, k2, _, _⟩ := (Gw.Diff.wrote_iff ha).1 hw
    exact .inr (.inr ⟨_, rfl, by rw [← k2]; exact hasB_of k1, hasB_of ht⟩)
set_option maxRecDepth 20000 in
theorem diffEvents_pc (nil0 : Bool) (nil1 : Bool) (k l : List Gw.Op.Op)  (hi0 : ∀ o ∈ k, I64 o.node ∧ I64 o.parent) (hl0 : k.length ≤ 9223372036854775807) (hi1 : ∀ o ∈ l, I64 o.node ∧ I64 o.parent) (hl1 : l.length ≤ 9223372036854775807):
    PC Tryz.prog 6 [.lst nil0 7 (encOs k) .none, .lst nil1 7 (encOs l) .none] (.bool true) := by
  have haw := awake_pc
  have hfw0 := few05_pc nil0 k 60 hl0
  have hfw1 := few05_pc nil1 l 60 hl1
  refine PC.of tabOk mixed (fn := Tryz.f6) (by kernel_rfl) rfl (by kernel_rfl) rfl rfl ?_
  conv => whnf
  refine AC.of_pc haw rfl ?_
  conv => whnf
  refine AC.of_pc hfw0 rfl ?_
  cases hfew0 : (Gw.Op.fewL k && decide ((k.length : Int) ≤ 60)) with
  | false =>
    conv => whnf
    repeat (first | refine ⟨fun _ => ?_, fun h => absurd h (by decide)⟩ | refine ⟨fun h => absurd h (by decide), fun _ => ?_⟩ | refine ⟨fun _ => ?_, fun h => absurd (show true = false from h) (by decide)⟩ | refine ⟨fun h => absurd (show false = true from h) (by decide), fun _ => ?_⟩
            (conv => whnf))
  | true =>
  simp only [Bool.and_eq_true, decide_eq_true_eq] at hfew0
  obtain ⟨hf0, hlen0⟩ := hfew0
  obtain ⟨hfine0, hnm0⟩ := few_fine05 hf0 hi0
  have hfo0 := foldG_pr nil0 k (by omega) hfine0
  conv => whnf
  repeat (first | refine ⟨fun _ => ?_, fun h => absurd h (by decide)⟩ | refine ⟨fun h => absurd h (by decide), fun _ => ?_⟩ | refine ⟨fun _ => ?_, fun h => absurd (show true = false from h) (by decide)⟩ | refine ⟨fun h => absurd (show false = true from h) (by decide), fun _ => ?_⟩
          (conv => whnf))
  refine AC.of_pc hfw1 rfl ?_
  cases hfew1 : (Gw.Op.fewL l && decide ((l.length : Int) ≤ 60)) with
  | false =>
    conv => whnf
    repeat (first | refine ⟨fun _ => ?_, fun h => absurd h (by decide)⟩ | refine ⟨fun h => absurd h (by decide), fun _ => ?_⟩ | refine ⟨fun _ => ?_, fun h => absurd (show true = false from h) (by decide)⟩ | refine ⟨fun h => absurd (show false = true from h) (by decide), fun _ => ?_⟩
            (conv => whnf))
  | true =>
  simp only [Bool.and_eq_true, decide_eq_true_eq] at hfew1
  obtain ⟨hf1, hlen1⟩ := hfew1
  obtain ⟨hfine1, hnm1⟩ := few_fine05 hf1 hi1
  have hfo1 := foldG_pr nil1 l (by omega) hfine1
  conv => whnf
  repeat (first | refine ⟨fun _ => ?_, fun h => absurd h (by decide)⟩ | refine ⟨fun h => absurd h (by decide), fun _ => ?_⟩ | refine ⟨fun _ => ?_, fun h => absurd (show true = false from h) (by decide)⟩ | refine ⟨fun h => absurd (show false = true from h) (by decide), fun _ => ?_⟩
          (conv => whnf))
  refine AC.of_pr hfo0 rfl ?_
  rintro res ⟨q0, s, hs, hsl, rfl⟩
  have hg0 := grove_of hfine0 hnm0 (by omega) hs hsl
  have hl600 := hg0.len
  have hnd0 := hg0.named
  generalize foldN s = D0 at *
  clear hs hsl hfo0 hfw0 hf0 hfine0 hnm0
  conv => whnf
  refine AC.of_pr hfo1 rfl ?_
  rintro res ⟨q1, s, hs, hsl, rfl⟩
  have hg1 := grove_of hfine1 hnm1 (by omega) hs hsl
  have hl601 := hg1.len
  have hnd1 := hg1.named
  generalize foldN s = D1 at *
  clear hs hsl hfo1 hfw1 hf1 hfine1 hnm1
  have hua := unlike_items hnd0 0
  have hia := vItemsG_pc q0 hg0 0
  have hib := vItemsG_pc q1 hg1 0
  have ho1 := diffOfG_pc q0 q1 hg0 hg1 0
  have hla := items_len D0 0
  have hlb := items_len D1 0
  have hord := Gw.Diff.in_order (Gw.View.items_ahead hnd0 0) (Gw.View.items_ahead hnd1 0)
  have hpA := items_path hg0 0
  have hpB := items_path hg1 0
  generalize Gw.View.items D0 0 = A at *
  generalize Gw.View.items D1 0 = B at *
  have hol := ofI_len A B
  have hev := fun e => ev_cases (B := B) hua (e := e)
  have hlong : ∀ e ∈ Gw.Diff.ofI A B, e.path.length ≤ 100000 := fun e he => by
    have key : ∀ {I : List Gw.View.Item} {n : Nat}, (∀ it ∈ I, it.path.length ≤ n) → n ≤ 100000 → ∀ p, hasB I p = true → p.length ≤ 100000 := fun h hn _ hp => by
      obtain ⟨t, ht, e⟩ := List.any_eq_true.1 hp
      have := h t ht
      rw [of_decide_eq_true e] at this
      omega
    rcases hev e he with ⟨p, rfl, h⟩ | ⟨p, rfl, h⟩ | ⟨p, rfl, h, _⟩
    · exact key hpA (by omega) p h
    · exact key hpB (by omega) p h
    · exact key hpA (by omega) p h
  have hasA := fun p => has_pc (decide (A = [])) A p (by omega)
  have hasB' := fun p => has_pc (decide (B = [])) B p (by omega)
  generalize Gw.Diff.ofI A B = E at *
  have hEe := encE_len E
  have hpw := List.pairwise_iff_getElem.1 hord
  conv => whnf
  refine AC.of_pc ho1 rfl ?_
  conv => whnf
  refine AC.of_pc hia rfl ?_
  conv => whnf
  refine AC.of_pc hib rfl ?_
  conv => whnf
  generalize decide (E = []) = qe
  generalize decide (A = []) = qa at *
  generalize decide (B = []) = qb at *
  refine AW.loop (fun i : Nat => [(.tmp 5, .v (.bool true)), (.tmp 8, .v (.lst qe 2 (encE E) .none)), (.tmp 9, .v (.lst qa 3 (encIt A) .none)), (.tmp 10, .v (.lst qb 3 (encIt B) .none)), (.tmp 11, .v (.int .i64 i))]) 0 (fun i => i ≤ E.length) (fun i => E.length - i) (by decide) 0 (Nat.zero_le _) ⟨rfl, rfl, rfl, rfl, rfl, rfl, rfl, rfl, rfl, rfl, trivial⟩ ?_
  rintro i hi
  refine ev_sound tabOk mixed _ _ _ _ ?_
  conv => whnf
  refine ⟨fun h => ?_, fun h => ?_⟩
  · have h := of_decide_eq_true h
    rw [hEe] at h
    have hlt : i < E.length := by omega
    have hgi := encE_get hlt
    have hli := hlong E[i] (List.getElem_mem hlt)
    have hpi := fun j (hj : j < i) => hpw j i (by omega) hlt hj
    have wi : IntKind.i64.wrap ((i : Int) + 1) = ((i + 1 : Nat) : Int) := by rw [w64 (by omega) (by omega)]; rfl
    rcases hev E[i] (List.getElem_mem hlt) with ⟨p, he, h1⟩ | ⟨p, he, h1⟩ | ⟨p, he, h1, h2⟩

    · rw [he] at hgi hli hpi
      have hgi : (encE E)[i]? = some [.int .i64 1, .str p] := hgi
      have hli : p.length ≤ 100000 := hli
      have hAp := hasA p
      have hBp := hasB' p
      rw [h1] at hAp
      conv => whnf
      refine ⟨_, ⟨by omega, hgi⟩, ?_⟩
      conv => whnf
      refine AC.of_pc hAp rfl ?_
      conv => whnf
      refine ⟨_, ⟨by omega, hgi⟩, ?_⟩
      conv => whnf
      refine AC.of_pc hBp rfl ?_
      conv => whnf
      repeat (first | refine ⟨fun _ => ?_, fun h => absurd h (by decide)⟩
                    | refine ⟨fun h => absurd h (by decide), fun _ => ?_⟩
                    | refine ⟨_, ⟨by omega, hgi⟩, ?_⟩
                    | fail "end"
              (conv => whnf))
      refine ⟨fun h0 => ?_, fun h0 => ?_⟩
      · have h0 := of_decide_eq_true h0
        have hi0 : i - 1 < i := by omega
        have hgp := encE_get (show i - 1 < E.length by omega)
        obtain ⟨o1, _⟩ := hpi (i - 1) hi0
        have wp : IntKind.i64.wrap ((i : Int) - 1) = ((i - 1 : Nat) : Int) := by rw [w64 (by omega) (by omega)]; omega
        have o1 : E[i - 1].kind ≤ 1 := o1
        conv => whnf
        refine ⟨_, ⟨by rw [wp]; omega, by rw [wp, Int.toNat_natCast]; exact hgp⟩, ?_⟩
        conv => whnf
        refine ⟨_, ⟨by omega, hgi⟩, ?_⟩
        conv => whnf
        refine ⟨by kernel_rfl, ?_⟩
        conv => whnf
        refine ⟨fun h => absurd (of_decide_eq_true h) (by omega), fun _ => ?_⟩
        conv => whnf
        refine AW.loop (fun j : Nat => [(.tmp 5, .v (.bool true)), (.tmp 8, .v (.lst qe 2 (encE E) .none)), (.tmp 9, .v (.lst qa 3 (encIt A) .none)), (.tmp 10, .v (.lst qb 3 (encIt B) .none)), (.tmp 11, .v (.int .i64 i)), (.tmp 15, .v (.int .i64 j))]) 0 (fun j => j ≤ i) (fun j => i - j) (by decide) 0 (Nat.zero_le _) ⟨rfl, rfl, rfl, rfl, rfl, rfl, rfl, rfl, rfl, rfl, rfl, rfl, trivial⟩ ?_
        rintro j hj
        refine ev_sound tabOk mixed _ _ _ _ ?_
        conv => whnf
        refine ⟨fun h => ?_, fun h => ?_⟩
        · have h := of_decide_eq_true h
          have hji : j < i := by omega
          have hjl : j < E.length := by omega
          have hgj := encE_get hjl
          have hlj := hlong E[j] (List.getElem_mem hjl)
          obtain ⟨o1, o2, o3, o4⟩ := hpi j hji
          have wj : IntKind.i64.wrap ((j : Int) + 1) = ((j + 1 : Nat) : Int) := by rw [w64 (by omega) (by omega)]; rfl
          have hw1 := within_pc p E[j].path (by omega) (by omega)
          have hw2 := within_pc E[j].path p (by omega) (by omega)
          generalize E[j] = f at *
          conv => whnf
          refine ⟨_, ⟨by omega, hgj⟩, ?_⟩
          conv => whnf
          refine ⟨_, ⟨by omega, hgi⟩, ?_⟩
          conv => whnf
          refine ⟨by kernel_rfl, ?_⟩
          conv => whnf
          refine ⟨_, ⟨by omega, hgj⟩, ?_⟩
          conv => whnf
          refine ⟨_, ⟨by omega, hgi⟩, ?_⟩
          conv => whnf
          refine ⟨by kernel_rfl, ?_⟩
          conv => whnf
          refine ⟨fun h => ?_, fun _ => ?_⟩
          · simp only [Bool.and_eq_true, beq_iff_eq, decide_eq_true_eq] at h
            exact absurd (by cases f; simp only at h; rw [h.1, h.2]) o2
          conv => whnf
          refine ⟨fun hk => ?_, fun hkr => ?_⟩
          · have hkr : (f.kind == 1) = true := hk
            have hk : f.kind = 1 := by simpa using hk
            rw [o3 hk rfl] at hw1
            conv => whnf
            repeat (first | refine ⟨fun _ => ?_, fun h => absurd h (by decide)⟩
                          | refine ⟨fun h => absurd h (by decide), fun _ => ?_⟩
                          | refine ⟨fun _ => ?_, fun h => absurd (hkr.symm.trans h) (by decide)⟩
                          | refine ⟨fun h => absurd (hkr.symm.trans h) (by decide), fun _ => ?_⟩
                          | refine ⟨by kernel_rfl, ?_⟩
                          | refine ⟨_, ⟨by omega, hgi⟩, ?_⟩
                          | refine ⟨_, ⟨by omega, hgj⟩, ?_⟩
                          | fail "end"
                    (conv => whnf))
            refine ⟨_, rfl, hw1, ?_⟩
            conv => whnf
            repeat (first | refine ⟨fun _ => ?_, fun h => absurd h (by decide)⟩
                          | refine ⟨fun h => absurd h (by decide), fun _ => ?_⟩
                          | refine ⟨fun _ => ?_, fun h => absurd (hkr.symm.trans h) (by decide)⟩
                          | refine ⟨fun h => absurd (hkr.symm.trans h) (by decide), fun _ => ?_⟩
                          | refine ⟨by kernel_rfl, ?_⟩
                          | refine ⟨_, ⟨by omega, hgi⟩, ?_⟩
                          | refine ⟨_, ⟨by omega, hgj⟩, ?_⟩
                          | fail "end"
                    (conv => whnf))
            refine ⟨j + 1, by omega, by show i - (j + 1) < i - j; omega, rfl, rfl, rfl, rfl, rfl, rfl, rfl, rfl, rfl, rfl, ?_, rfl, trivial⟩
            show C.v (V.int .i64 (IntKind.i64.wrap ((j : Int) + 1))) = _
            rw [wj]
          · have hkr : (f.kind == 1) = false := hkr
            conv => whnf
            repeat (first | refine ⟨fun _ => ?_, fun h => absurd h (by decide)⟩
                          | refine ⟨fun h => absurd h (by decide), fun _ => ?_⟩
                          | refine ⟨fun _ => ?_, fun h => absurd (hkr.symm.trans h) (by decide)⟩
                          | refine ⟨fun h => absurd (hkr.symm.trans h) (by decide), fun _ => ?_⟩
                          | refine ⟨by kernel_rfl, ?_⟩
                          | refine ⟨_, ⟨by omega, hgi⟩, ?_⟩
                          | refine ⟨_, ⟨by omega, hgj⟩, ?_⟩
                          | fail "end"
                    (conv => whnf))
            refine ⟨j + 1, by omega, by show i - (j + 1) < i - j; omega, rfl, rfl, rfl, rfl, rfl, rfl, rfl, rfl, rfl, rfl, ?_, rfl, trivial⟩
            show C.v (V.int .i64 (IntKind.i64.wrap ((j : Int) + 1))) = _
            rw [wj]
        · conv => whnf
          refine ⟨i + 1, by omega, by show E.length - (i + 1) < E.length - i; omega, rfl, rfl, rfl, rfl, rfl, rfl, rfl, rfl, ?_, rfl, trivial⟩
          show C.v (V.int .i64 (IntKind.i64.wrap ((i : Int) + 1))) = _
          rw [wi]
      · conv => whnf
        refine ⟨by kernel_rfl, ?_⟩
        conv => whnf
        repeat (first | refine ⟨fun _ => ?_, fun h => absurd h (by decide)⟩ | refine ⟨fun h => absurd h (by decide), fun _ => ?_⟩ | refine ⟨fun _ => ?_, fun h => absurd (show true = false from h) (by decide)⟩ | refine ⟨fun h => absurd (show false = true from h) (by decide), fun _ => ?_⟩
                (conv => whnf))
        conv => whnf
        refine AW.loop (fun j : Nat => [(.tmp 5, .v (.bool true)), (.tmp 8, .v (.lst qe 2 (encE E) .none)), (.tmp 9, .v (.lst qa 3 (encIt A) .none)), (.tmp 10, .v (.lst qb 3 (encIt B) .none)), (.tmp 11, .v (.int .i64 i)), (.tmp 15, .v (.int .i64 j))]) 0 (fun j => j ≤ i) (fun j => i - j) (by decide) 0 (Nat.zero_le _) ⟨rfl, rfl, rfl, rfl, rfl, rfl, rfl, rfl, rfl, rfl, rfl, rfl, trivial⟩ ?_
        rintro j hj
        refine ev_sound tabOk mixed _ _ _ _ ?_
        conv => whnf
        refine ⟨fun h => ?_, fun h => ?_⟩
        · have h := of_decide_eq_true h
          have hji : j < i := by omega
          have hjl : j < E.length := by omega
          have hgj := encE_get hjl
          have hlj := hlong E[j] (List.getElem_mem hjl)
          obtain ⟨o1, o2, o3, o4⟩ := hpi j hji
          have wj : IntKind.i64.wrap ((j : Int) + 1) = ((j + 1 : Nat) : Int) := by rw [w64 (by omega) (by omega)]; rfl
          have hw1 := within_pc p E[j].path (by omega) (by omega)
          have hw2 := within_pc E[j].path p (by omega) (by omega)
          generalize E[j] = f at *
          conv => whnf
          refine ⟨_, ⟨by omega, hgj⟩, ?_⟩
          conv => whnf
          refine ⟨_, ⟨by omega, hgi⟩, ?_⟩
          conv => whnf
          refine ⟨by kernel_rfl, ?_⟩
          conv => whnf
          refine ⟨_, ⟨by omega, hgj⟩, ?_⟩
          conv => whnf
          refine ⟨_, ⟨by omega, hgi⟩, ?_⟩
          conv => whnf
          refine ⟨by kernel_rfl, ?_⟩
          conv => whnf
          refine ⟨fun h => ?_, fun _ => ?_⟩
          · simp only [Bool.and_eq_true, beq_iff_eq, decide_eq_true_eq] at h
            exact absurd (by cases f; simp only at h; rw [h.1, h.2]) o2
          conv => whnf
          refine ⟨fun hk => ?_, fun hkr => ?_⟩
          · have hkr : (f.kind == 1) = true := hk
            have hk : f.kind = 1 := by simpa using hk
            rw [o3 hk rfl] at hw1
            conv => whnf
            repeat (first | refine ⟨fun _ => ?_, fun h => absurd h (by decide)⟩
                          | refine ⟨fun h => absurd h (by decide), fun _ => ?_⟩
                          | refine ⟨fun _ => ?_, fun h => absurd (hkr.symm.trans h) (by decide)⟩
                          | refine ⟨fun h => absurd (hkr.symm.trans h) (by decide), fun _ => ?_⟩
                          | refine ⟨by kernel_rfl, ?_⟩
                          | refine ⟨_, ⟨by omega, hgi⟩, ?_⟩
                          | refine ⟨_, ⟨by omega, hgj⟩, ?_⟩
                          | fail "end"
                    (conv => whnf))
            refine ⟨_, rfl, hw1, ?_⟩
            conv => whnf
            repeat (first | refine ⟨fun _ => ?_, fun h => absurd h (by decide)⟩
                          | refine ⟨fun h => absurd h (by decide), fun _ => ?_⟩
                          | refine ⟨fun _ => ?_, fun h => absurd (hkr.symm.trans h) (by decide)⟩
                          | refine ⟨fun h => absurd (hkr.symm.trans h) (by decide), fun _ => ?_⟩
                          | refine ⟨by kernel_rfl, ?_⟩
                          | refine ⟨_, ⟨by omega, hgi⟩, ?_⟩
                          | refine ⟨_, ⟨by omega, hgj⟩, ?_⟩
                          | fail "end"
                    (conv => whnf))
            refine ⟨j + 1, by omega, by show i - (j + 1) < i - j; omega, rfl, rfl, rfl, rfl, rfl, rfl, rfl, rfl, rfl, rfl, ?_, rfl, trivial⟩
            show C.v (V.int .i64 (IntKind.i64.wrap ((j : Int) + 1))) = _
            rw [wj]
          · have hkr : (f.kind == 1) = false := hkr
            conv => whnf
            repeat (first | refine ⟨fun _ => ?_, fun h => absurd h (by decide)⟩
                          | refine ⟨fun h => absurd h (by decide), fun _ => ?_⟩
                          | refine ⟨fun _ => ?_, fun h => absurd (hkr.symm.trans h) (by decide)⟩
                          | refine ⟨fun h => absurd (hkr.symm.trans h) (by decide), fun _ => ?_⟩
                          | refine ⟨by kernel_rfl, ?_⟩
                          | refine ⟨_, ⟨by omega, hgi⟩, ?_⟩
                          | refine ⟨_, ⟨by omega, hgj⟩, ?_⟩
                          | fail "end"
                    (conv => whnf))
            refine ⟨j + 1, by omega, by show i - (j + 1) < i - j; omega, rfl, rfl, rfl, rfl, rfl, rfl, rfl, rfl, rfl, rfl, ?_, rfl, trivial⟩
            show C.v (V.int .i64 (IntKind.i64.wrap ((j : Int) + 1))) = _
            rw [wj]
        · conv => whnf
          refine ⟨i + 1, by omega, by show E.length - (i + 1) < E.length - i; omega, rfl, rfl, rfl, rfl, rfl, rfl, rfl, rfl, ?_, rfl, trivial⟩
          show C.v (V.int .i64 (IntKind.i64.wrap ((i : Int) + 1))) = _
          rw [wi]
    · rw [he] at hgi hli hpi
      have hgi : (encE E)[i]? = some [.int .i64 2, .str p] := hgi
      have hli : p.length ≤ 100000 := hli
      have hAp := hasA p
      have hBp := hasB' p
      rw [h1] at hBp
      conv => whnf
      refine ⟨_, ⟨by omega, hgi⟩, ?_⟩
      conv => whnf
      refine AC.of_pc hAp rfl ?_
      conv => whnf
      refine ⟨_, ⟨by omega, hgi⟩, ?_⟩
      conv => whnf
      refine AC.of_pc hBp rfl ?_
      conv => whnf
      repeat (first | refine ⟨fun _ => ?_, fun h => absurd h (by decide)⟩
                    | refine ⟨fun h => absurd h (by decide), fun _ => ?_⟩
                    | refine ⟨_, ⟨by omega, hgi⟩, ?_⟩
                    | fail "end"
              (conv => whnf))
      refine ⟨fun h0 => ?_, fun h0 => ?_⟩
      · have h0 := of_decide_eq_true h0
        have hi0 : i - 1 < i := by omega
        have hgp := encE_get (show i - 1 < E.length by omega)
        obtain ⟨o1, _⟩ := hpi (i - 1) hi0
        have wp : IntKind.i64.wrap ((i : Int) - 1) = ((i - 1 : Nat) : Int) := by rw [w64 (by omega) (by omega)]; omega
        have o1 : E[i - 1].kind ≤ 2 := o1
        conv => whnf
        refine ⟨_, ⟨by rw [wp]; omega, by rw [wp, Int.toNat_natCast]; exact hgp⟩, ?_⟩
        conv => whnf
        refine ⟨_, ⟨by omega, hgi⟩, ?_⟩
        conv => whnf
        refine ⟨by kernel_rfl, ?_⟩
        conv => whnf
        refine ⟨fun h => absurd (of_decide_eq_true h) (by omega), fun _ => ?_⟩
        conv => whnf
        refine AW.loop (fun j : Nat => [(.tmp 5, .v (.bool true)), (.tmp 8, .v (.lst qe 2 (encE E) .none)), (.tmp 9, .v (.lst qa 3 (encIt A) .none)), (.tmp 10, .v (.lst qb 3 (encIt B) .none)), (.tmp 11, .v (.int .i64 i)), (.tmp 15, .v (.int .i64 j))]) 0 (fun j => j ≤ i) (fun j => i - j) (by decide) 0 (Nat.zero_le _) ⟨rfl, rfl, rfl, rfl, rfl, rfl, rfl, rfl, rfl, rfl, rfl, rfl, trivial⟩ ?_
        rintro j hj
        refine ev_sound tabOk mixed _ _ _ _ ?_
        conv => whnf
        refine ⟨fun h => ?_, fun h => ?_⟩
        · have h := of_decide_eq_true h
          have hji : j < i := by omega
          have hjl : j < E.length := by omega
          have hgj := encE_get hjl
          have hlj := hlong E[j] (List.getElem_mem hjl)
          obtain ⟨o1, o2, o3, o4⟩ := hpi j hji
          have wj : IntKind.i64.wrap ((j : Int) + 1) = ((j + 1 : Nat) : Int) := by rw [w64 (by omega) (by omega)]; rfl
          have hw1 := within_pc p E[j].path (by omega) (by omega)
          have hw2 := within_pc E[j].path p (by omega) (by omega)
          generalize E[j] = f at *
          conv => whnf
          refine ⟨_, ⟨by omega, hgj⟩, ?_⟩
          conv => whnf
          refine ⟨_, ⟨by omega, hgi⟩, ?_⟩
          conv => whnf
          refine ⟨by kernel_rfl, ?_⟩
          conv => whnf
          refine ⟨_, ⟨by omega, hgj⟩, ?_⟩
          conv => whnf
          refine ⟨_, ⟨by omega, hgi⟩, ?_⟩
          conv => whnf
          refine ⟨by kernel_rfl, ?_⟩
          conv => whnf
          refine ⟨fun h => ?_, fun _ => ?_⟩
          · simp only [Bool.and_eq_true, beq_iff_eq, decide_eq_true_eq] at h
            exact absurd (by cases f; simp only at h; rw [h.1, h.2]) o2
          conv => whnf
          refine ⟨fun hk => ?_, fun hkr => ?_⟩
          · have hkr : (f.kind == 2) = true := hk
            have hk : f.kind = 2 := by simpa using hk
            rw [o4 hk rfl] at hw2
            conv => whnf
            repeat (first | refine ⟨fun _ => ?_, fun h => absurd h (by decide)⟩
                          | refine ⟨fun h => absurd h (by decide), fun _ => ?_⟩
                          | refine ⟨fun _ => ?_, fun h => absurd (hkr.symm.trans h) (by decide)⟩
                          | refine ⟨fun h => absurd (hkr.symm.trans h) (by decide), fun _ => ?_⟩
                          | refine ⟨by kernel_rfl, ?_⟩
                          | refine ⟨_, ⟨by omega, hgi⟩, ?_⟩
                          | refine ⟨_, ⟨by omega, hgj⟩, ?_⟩
                          | fail "end"
                    (conv => whnf))
            refine ⟨_, rfl, hw2, ?_⟩
            conv => whnf
            repeat (first | refine ⟨fun _ => ?_, fun h => absurd h (by decide)⟩
                          | refine ⟨fun h => absurd h (by decide), fun _ => ?_⟩
                          | refine ⟨fun _ => ?_, fun h => absurd (hkr.symm.trans h) (by decide)⟩
                          | refine ⟨fun h => absurd (hkr.symm.trans h) (by decide), fun _ => ?_⟩
                          | refine ⟨by kernel_rfl, ?_⟩
                          | refine ⟨_, ⟨by omega, hgi⟩, ?_⟩
                          | refine ⟨_, ⟨by omega, hgj⟩, ?_⟩
                          | fail "end"
                    (conv => whnf))
            refine ⟨j + 1, by omega, by show i - (j + 1) < i - j; omega, rfl, rfl, rfl, rfl, rfl, rfl, rfl, rfl, rfl, rfl, ?_, rfl, trivial⟩
            show C.v (V.int .i64 (IntKind.i64.wrap ((j : Int) + 1))) = _
            rw [wj]
          · have hkr : (f.kind == 2) = false := hkr
            conv => whnf
            repeat (first | refine ⟨fun _ => ?_, fun h => absurd h (by decide)⟩
                          | refine ⟨fun h => absurd h (by decide), fun _ => ?_⟩
                          | refine ⟨fun _ => ?_, fun h => absurd (hkr.symm.trans h) (by decide)⟩
                          | refine ⟨fun h => absurd (hkr.symm.trans h) (by decide), fun _ => ?_⟩
                          | refine ⟨by kernel_rfl, ?_⟩
                          | refine ⟨_, ⟨by omega, hgi⟩, ?_⟩
                          | refine ⟨_, ⟨by omega, hgj⟩, ?_⟩
                          | fail "end"
                    (conv => whnf))
            refine ⟨j + 1, by omega, by show i - (j + 1) < i - j; omega, rfl, rfl, rfl, rfl, rfl, rfl, rfl, rfl, rfl, rfl, ?_, rfl, trivial⟩
            show C.v (V.int .i64 (IntKind.i64.wrap ((j : Int) + 1))) = _
            rw [wj]
        · conv => whnf
          refine ⟨i + 1, by omega, by show E.length - (i + 1) < E.length - i; omega, rfl, rfl, rfl, rfl, rfl, rfl, rfl, rfl, ?_, rfl, trivial⟩
          show C.v (V.int .i64 (IntKind.i64.wrap ((i : Int) + 1))) = _
          rw [wi]
      · conv => whnf
        refine ⟨by kernel_rfl, ?_⟩
        conv => whnf
        repeat (first | refine ⟨fun _ => ?_, fun h => absurd h (by decide)⟩ | refine ⟨fun h => absurd h (by decide), fun _ => ?_⟩ | refine ⟨fun _ => ?_, fun h => absurd (show true = false from h) (by decide)⟩ | refine ⟨fun h => absurd (show false = true from h) (by decide), fun _ => ?_⟩
                (conv => whnf))
        conv => whnf
        refine AW.loop (fun j : Nat => [(.tmp 5, .v (.bool true)), (.tmp 8, .v (.lst qe 2 (encE E) .none)), (.tmp 9, .v (.lst qa 3 (encIt A) .none)), (.tmp 10, .v (.lst qb 3 (encIt B) .none)), (.tmp 11, .v (.int .i64 i)), (.tmp 15, .v (.int .i64 j))]) 0 (fun j => j ≤ i) (fun j => i - j) (by decide) 0 (Nat.zero_le _) ⟨rfl, rfl, rfl, rfl, rfl, rfl, rfl, rfl, rfl, rfl, rfl, rfl, trivial⟩ ?_
        rintro j hj
        refine ev_sound tabOk mixed _ _ _ _ ?_
        conv => whnf
        refine ⟨fun h => ?_, fun h => ?_⟩
        · have h := of_decide_eq_true h
          have hji : j < i := by omega
          have hjl : j < E.length := by omega
          have hgj := encE_get hjl
          have hlj := hlong E[j] (List.getElem_mem hjl)
          obtain ⟨o1, o2, o3, o4⟩ := hpi j hji
          have wj : IntKind.i64.wrap ((j : Int) + 1) = ((j + 1 : Nat) : Int) := by rw [w64 (by omega) (by omega)]; rfl
          have hw1 := within_pc p E[j].path (by omega) (by omega)
          have hw2 := within_pc E[j].path p (by omega) (by omega)
          generalize E[j] = f at *
          conv => whnf
          refine ⟨_, ⟨by omega, hgj⟩, ?_⟩
          conv => whnf
          refine ⟨_, ⟨by omega, hgi⟩, ?_⟩
          conv => whnf
          refine ⟨by kernel_rfl, ?_⟩
          conv => whnf
          refine ⟨_, ⟨by omega, hgj⟩, ?_⟩
          conv => whnf
          refine ⟨_, ⟨by omega, hgi⟩, ?_⟩
          conv => whnf
          refine ⟨by kernel_rfl, ?_⟩
          conv => whnf
          refine ⟨fun h => ?_, fun _ => ?_⟩
          · simp only [Bool.and_eq_true, beq_iff_eq, decide_eq_true_eq] at h
            exact absurd (by cases f; simp only at h; rw [h.1, h.2]) o2
          conv => whnf
          refine ⟨fun hk => ?_, fun hkr => ?_⟩
          · have hkr : (f.kind == 2) = true := hk
            have hk : f.kind = 2 := by simpa using hk
            rw [o4 hk rfl] at hw2
            conv => whnf
            repeat (first | refine ⟨fun _ => ?_, fun h => absurd h (by decide)⟩
                          | refine ⟨fun h => absurd h (by decide), fun _ => ?_⟩
                          | refine ⟨fun _ => ?_, fun h => absurd (hkr.symm.trans h) (by decide)⟩
                          | refine ⟨fun h => absurd (hkr.symm.trans h) (by decide), fun _ => ?_⟩
                          | refine ⟨by kernel_rfl, ?_⟩
                          | refine ⟨_, ⟨by omega, hgi⟩, ?_⟩
                          | refine ⟨_, ⟨by omega, hgj⟩, ?_⟩
                          | fail "end"
                    (conv => whnf))
            refine ⟨_, rfl, hw2, ?_⟩
            conv => whnf
            repeat (first | refine ⟨fun _ => ?_, fun h => absurd h (by decide)⟩
                          | refine ⟨fun h => absurd h (by decide), fun _ => ?_⟩
                          | refine ⟨fun _ => ?_, fun h => absurd (hkr.symm.trans h) (by decide)⟩
                          | refine ⟨fun h => absurd (hkr.symm.trans h) (by decide), fun _ => ?_⟩
                          | refine ⟨by kernel_rfl, ?_⟩
                          | refine ⟨_, ⟨by omega, hgi⟩, ?_⟩
                          | refine ⟨_, ⟨by omega, hgj⟩, ?_⟩
                          | fail "end"
                    (conv => whnf))
            refine ⟨j + 1, by omega, by show i - (j + 1) < i - j; omega, rfl, rfl, rfl, rfl, rfl, rfl, rfl, rfl, rfl, rfl, ?_, rfl, trivial⟩
            show C.v (V.int .i64 (IntKind.i64.wrap ((j : Int) + 1))) = _
            rw [wj]
          · have hkr : (f.kind == 2) = false := hkr
            conv => whnf
            repeat (first | refine ⟨fun _ => ?_, fun h => absurd h (by decide)⟩
                          | refine ⟨fun h => absurd h (by decide), fun _ => ?_⟩
                          | refine ⟨fun _ => ?_, fun h => absurd (hkr.symm.trans h) (by decide)⟩
                          | refine ⟨fun h => absurd (hkr.symm.trans h) (by decide), fun _ => ?_⟩
                          | refine ⟨by kernel_rfl, ?_⟩
                          | refine ⟨_, ⟨by omega, hgi⟩, ?_⟩
                          | refine ⟨_, ⟨by omega, hgj⟩, ?_⟩
                          | fail "end"
                    (conv => whnf))
            refine ⟨j + 1, by omega, by show i - (j + 1) < i - j; omega, rfl, rfl, rfl, rfl, rfl, rfl, rfl, rfl, rfl, rfl, ?_, rfl, trivial⟩
            show C.v (V.int .i64 (IntKind.i64.wrap ((j : Int) + 1))) = _
            rw [wj]
        · conv => whnf
          refine ⟨i + 1, by omega, by show E.length - (i + 1) < E.length - i; omega, rfl, rfl, rfl, rfl, rfl, rfl, rfl, rfl, ?_, rfl, trivial⟩
          show C.v (V.int .i64 (IntKind.i64.wrap ((i : Int) + 1))) = _
          rw [wi]
    · rw [he] at hgi hli hpi
      have hgi : (encE E)[i]? = some [.int .i64 3, .str p] := hgi
      have hli : p.length ≤ 100000 := hli
      have hAp := hasA p
      have hBp := hasB' p
      rw [h1] at hAp
      rw [h2] at hBp
      conv => whnf
      refine ⟨_, ⟨by omega, hgi⟩, ?_⟩
      conv => whnf
      refine AC.of_pc hAp rfl ?_
      conv => whnf
      refine ⟨_, ⟨by omega, hgi⟩, ?_⟩
      conv => whnf
      refine AC.of_pc hBp rfl ?_
      conv => whnf
      repeat (first | refine ⟨fun _ => ?_, fun h => absurd h (by decide)⟩
                    | refine ⟨fun h => absurd h (by decide), fun _ => ?_⟩
                    | refine ⟨_, ⟨by omega, hgi⟩, ?_⟩
                    | fail "end"
              (conv => whnf))
      refine ⟨fun h0 => ?_, fun h0 => ?_⟩
      · have h0 := of_decide_eq_true h0
        have hi0 : i - 1 < i := by omega
        have hgp := encE_get (show i - 1 < E.length by omega)
        obtain ⟨o1, _⟩ := hpi (i - 1) hi0
        have wp : IntKind.i64.wrap ((i : Int) - 1) = ((i - 1 : Nat) : Int) := by rw [w64 (by omega) (by omega)]; omega
        have o1 : E[i - 1].kind ≤ 3 := o1
        conv => whnf
        refine ⟨_, ⟨by rw [wp]; omega, by rw [wp, Int.toNat_natCast]; exact hgp⟩, ?_⟩
        conv => whnf
        refine ⟨_, ⟨by omega, hgi⟩, ?_⟩
        conv => whnf
        refine ⟨by kernel_rfl, ?_⟩
        conv => whnf
        refine ⟨fun h => absurd (of_decide_eq_true h) (by omega), fun _ => ?_⟩
        conv => whnf
        refine AW.loop (fun j : Nat => [(.tmp 5, .v (.bool true)), (.tmp 8, .v (.lst qe 2 (encE E) .none)), (.tmp 9, .v (.lst qa 3 (encIt A) .none)), (.tmp 10, .v (.lst qb 3 (encIt B) .none)), (.tmp 11, .v (.int .i64 i)), (.tmp 15, .v (.int .i64 j))]) 0 (fun j => j ≤ i) (fun j => i - j) (by decide) 0 (Nat.zero_le _) ⟨rfl, rfl, rfl, rfl, rfl, rfl, rfl, rfl, rfl, rfl, rfl, rfl, trivial⟩ ?_
        rintro j hj
        refine ev_sound tabOk mixed _ _ _ _ ?_
        conv => whnf
        refine ⟨fun h => ?_, fun h => ?_⟩
        · have h := of_decide_eq_true h
          have hji : j < i := by omega
          have hjl : j < E.length := by omega
          have hgj := encE_get hjl
          have hlj := hlong E[j] (List.getElem_mem hjl)
          obtain ⟨o1, o2, o3, o4⟩ := hpi j hji
          have wj : IntKind.i64.wrap ((j : Int) + 1) = ((j + 1 : Nat) : Int) := by rw [w64 (by omega) (by omega)]; rfl
          have hw1 := within_pc p E[j].path (by omega) (by omega)
          have hw2 := within_pc E[j].path p (by omega) (by omega)
          generalize E[j] = f at *
          conv => whnf
          refine ⟨_, ⟨by omega, hgj⟩, ?_⟩
          conv => whnf
          refine ⟨_, ⟨by omega, hgi⟩, ?_⟩
          conv => whnf
          refine ⟨by kernel_rfl, ?_⟩
          conv => whnf
          refine ⟨_, ⟨by omega, hgj⟩, ?_⟩
          conv => whnf
          refine ⟨_, ⟨by omega, hgi⟩, ?_⟩
          conv => whnf
          refine ⟨by kernel_rfl, ?_⟩
          conv => whnf
          refine ⟨fun h => ?_, fun _ => ?_⟩
          · simp only [Bool.and_eq_true, beq_iff_eq, decide_eq_true_eq] at h
            exact absurd (by cases f; simp only at h; rw [h.1, h.2]) o2
          conv => whnf
          refine ⟨fun hk => ?_, fun hkr => ?_⟩
          · have hkr : (f.kind == 3) = true := hk
            have hk : f.kind = 3 := by simpa using hk
            conv => whnf
            repeat (first | refine ⟨fun _ => ?_, fun h => absurd h (by decide)⟩
                          | refine ⟨fun h => absurd h (by decide), fun _ => ?_⟩
                          | refine ⟨fun _ => ?_, fun h => absurd (hkr.symm.trans h) (by decide)⟩
                          | refine ⟨fun h => absurd (hkr.symm.trans h) (by decide), fun _ => ?_⟩
                          | refine ⟨by kernel_rfl, ?_⟩
                          | refine ⟨_, ⟨by omega, hgi⟩, ?_⟩
                          | refine ⟨_, ⟨by omega, hgj⟩, ?_⟩
                          | fail "end"
                    (conv => whnf))
            refine ⟨j + 1, by omega, by show i - (j + 1) < i - j; omega, rfl, rfl, rfl, rfl, rfl, rfl, rfl, rfl, rfl, rfl, ?_, rfl, trivial⟩
            show C.v (V.int .i64 (IntKind.i64.wrap ((j : Int) + 1))) = _
            rw [wj]
          · have hkr : (f.kind == 3) = false := hkr
            conv => whnf
            repeat (first | refine ⟨fun _ => ?_, fun h => absurd h (by decide)⟩
                          | refine ⟨fun h => absurd h (by decide), fun _ => ?_⟩
                          | refine ⟨fun _ => ?_, fun h => absurd (hkr.symm.trans h) (by decide)⟩
                          | refine ⟨fun h => absurd (hkr.symm.trans h) (by decide), fun _ => ?_⟩
                          | refine ⟨by kernel_rfl, ?_⟩
                          | refine ⟨_, ⟨by omega, hgi⟩, ?_⟩
                          | refine ⟨_, ⟨by omega, hgj⟩, ?_⟩
                          | fail "end"
                    (conv => whnf))
            refine ⟨j + 1, by omega, by show i - (j + 1) < i - j; omega, rfl, rfl, rfl, rfl, rfl, rfl, rfl, rfl, rfl, rfl, ?_, rfl, trivial⟩
            show C.v (V.int .i64 (IntKind.i64.wrap ((j : Int) + 1))) = _
            rw [wj]
        · conv => whnf
          refine ⟨i + 1, by omega, by show E.length - (i + 1) < E.length - i; omega, rfl, rfl, rfl, rfl, rfl, rfl, rfl, rfl, ?_, rfl, trivial⟩
          show C.v (V.int .i64 (IntKind.i64.wrap ((i : Int) + 1))) = _
          rw [wi]
      · conv => whnf
        refine ⟨by kernel_rfl, ?_⟩
        conv => whnf
        repeat (first | refine ⟨fun _ => ?_, fun h => absurd h (by decide)⟩ | refine ⟨fun h => absurd h (by decide), fun _ => ?_⟩ | refine ⟨fun _ => ?_, fun h => absurd (show true = false from h) (by decide)⟩ | refine ⟨fun h => absurd (show false = true from h) (by decide), fun _ => ?_⟩
                (conv => whnf))
        conv => whnf
        refine AW.loop (fun j : Nat => [(.tmp 5, .v (.bool true)), (.tmp 8, .v (.lst qe 2 (encE E) .none)), (.tmp 9, .v (.lst qa 3 (encIt A) .none)), (.tmp 10, .v (.lst qb 3 (encIt B) .none)), (.tmp 11, .v (.int .i64 i)), (.tmp 15, .v (.int .i64 j))]) 0 (fun j => j ≤ i) (fun j => i - j) (by decide) 0 (Nat.zero_le _) ⟨rfl, rfl, rfl, rfl, rfl, rfl, rfl, rfl, rfl, rfl, rfl, rfl, trivial⟩ ?_
        rintro j hj
        refine ev_sound tabOk mixed _ _ _ _ ?_
        conv => whnf
        refine ⟨fun h => ?_, fun h => ?_⟩
        · have h := of_decide_eq_true h
          have hji : j < i := by omega
          have hjl : j < E.length := by omega
          have hgj := encE_get hjl
          have hlj := hlong E[j] (List.getElem_mem hjl)
          obtain ⟨o1, o2, o3, o4⟩ := hpi j hji
          have wj : IntKind.i64.wrap ((j : Int) + 1) = ((j + 1 : Nat) : Int) := by rw [w64 (by omega) (by omega)]; rfl
          have hw1 := within_pc p E[j].path (by omega) (by omega)
          have hw2 := within_pc E[j].path p (by omega) (by omega)
          generalize E[j] = f at *
          conv => whnf
          refine ⟨_, ⟨by omega, hgj⟩, ?_⟩
          conv => whnf
          refine ⟨_, ⟨by omega, hgi⟩, ?_⟩
          conv => whnf
          refine ⟨by kernel_rfl, ?_⟩
          conv => whnf
          refine ⟨_, ⟨by omega, hgj⟩, ?_⟩
          conv => whnf
          refine ⟨_, ⟨by omega, hgi⟩, ?_⟩
          conv => whnf
          refine ⟨by kernel_rfl, ?_⟩
          conv => whnf
          refine ⟨fun h => ?_, fun _ => ?_⟩
          · simp only [Bool.and_eq_true, beq_iff_eq, decide_eq_true_eq] at h
            exact absurd (by cases f; simp only at h; rw [h.1, h.2]) o2
          conv => whnf
          refine ⟨fun hk => ?_, fun hkr => ?_⟩
          · have hkr : (f.kind == 3) = true := hk
            have hk : f.kind = 3 := by simpa using hk
            conv => whnf
            repeat (first | refine ⟨fun _ => ?_, fun h => absurd h (by decide)⟩
                          | refine ⟨fun h => absurd h (by decide), fun _ => ?_⟩
                          | refine ⟨fun _ => ?_, fun h => absurd (hkr.symm.trans h) (by decide)⟩
                          | refine ⟨fun h => absurd (hkr.symm.trans h) (by decide), fun _ => ?_⟩
                          | refine ⟨by kernel_rfl, ?_⟩
                          | refine ⟨_, ⟨by omega, hgi⟩, ?_⟩
                          | refine ⟨_, ⟨by omega, hgj⟩, ?_⟩
                          | fail "end"
                    (conv => whnf))
            refine ⟨j + 1, by omega, by show i - (j + 1) < i - j; omega, rfl, rfl, rfl, rfl, rfl, rfl, rfl, rfl, rfl, rfl, ?_, rfl, trivial⟩
            show C.v (V.int .i64 (IntKind.i64.wrap ((j : Int) + 1))) = _
            rw [wj]
          · have hkr : (f.kind == 3) = false := hkr
            conv => whnf
            repeat (first | refine ⟨fun _ => ?_, fun h => absurd h (by decide)⟩
                          | refine ⟨fun h => absurd h (by decide), fun _ => ?_⟩
                          | refine ⟨fun _ => ?_, fun h => absurd (hkr.symm.trans h) (by decide)⟩
                          | refine ⟨fun h => absurd (hkr.symm.trans h) (by decide), fun _ => ?_⟩
                          | refine ⟨by kernel_rfl, ?_⟩
                          | refine ⟨_, ⟨by omega, hgi⟩, ?_⟩
                          | refine ⟨_, ⟨by omega, hgj⟩, ?_⟩
                          | fail "end"
                    (conv => whnf))
            refine ⟨j + 1, by omega, by show i - (j + 1) < i - j; omega, rfl, rfl, rfl, rfl, rfl, rfl, rfl, rfl, rfl, rfl, ?_, rfl, trivial⟩
            show C.v (V.int .i64 (IntKind.i64.wrap ((j : Int) + 1))) = _
            rw [wj]
        · conv => whnf
          refine ⟨i + 1, by omega, by show E.length - (i + 1) < E.length - i; omega, rfl, rfl, rfl, rfl, rfl, rfl, rfl, rfl, ?_, rfl, trivial⟩
          show C.v (V.int .i64 (IntKind.i64.wrap ((i : Int) + 1))) = _
          rw [wi]
  · conv => whnf
end Go.Proofs.YtipgfdepopfghaaGreat
