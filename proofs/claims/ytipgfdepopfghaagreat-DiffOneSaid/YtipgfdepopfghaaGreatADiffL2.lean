/- The law DiffTurns, walked without addresses. No claim of its own. -/
import Derived.Test.YtipgfdepopfghaaGreatADiffL1
namespace Go.Proofs.YtipgfdepopfghaaGreat
open Go.Am

/-- A truth, as it may stand in a slot. -/
def HoldV (v : V) (b : Bool) : Prop := v = .bool b ∨ (v = .tt ∧ b = true) ∨ (v = .ff ∧ b = false)
theorem HoldV.bool {a b : Bool} (h : b = a) : HoldV (.bool a) b := .inl (by rw [h])
theorem HoldV.tt {b : Bool} (h : b = true) : HoldV .tt b := .inr (.inl ⟨rfl, h⟩)
theorem HoldV.ff {b : Bool} (h : b = false) : HoldV .ff b := .inr (.inr ⟨rfl, h⟩)
/-- Is an event of another one's path, the other way round? -/
def turnB (a b : Gw.Diff.Event) : Bool := decide (a.path = b.path) && (((a.kind == b.kind) == (a.kind == 3)) && (IntKind.i64.wrap (a.kind + b.kind) != 4 && IntKind.i64.wrap (a.kind + b.kind) != 5))
def turnK (a : Gw.Diff.Event) (F : List Gw.Diff.Event) (k : Nat) : Bool := (F.take k).any (turnB a)
theorem turnK_next {a : Gw.Diff.Event} {F : List Gw.Diff.Event} {k : Nat} (h : k < F.length) : turnK a F (k + 1) = (turnK a F k || turnB a F[k]) := by
  unfold turnK
  rw [List.take_succ_eq_append_getElem h, List.any_append]
  simp
set_option maxRecDepth 20000 in
theorem diffTurns_pc (nil0 : Bool) (nil1 : Bool) (k l : List Gw.Op.Op) (dir : Int) (hi0 : ∀ o ∈ k, I64 o.node ∧ I64 o.parent) (hl0 : k.length ≤ 9223372036854775807) (hi1 : ∀ o ∈ l, I64 o.node ∧ I64 o.parent) (hl1 : l.length ≤ 9223372036854775807):
    PC Tryz.prog 5 [.lst nil0 7 (encOs k) .none, .lst nil1 7 (encOs l) .none, .int .i64 dir] (.bool true) := by
  have haw := awake_pc
  have hfw0 := few05_pc nil0 k 60 hl0
  have hfw1 := few05_pc nil1 l 60 hl1
  refine PC.of tabOk mixed (fn := Tryz.f5) (by kernel_rfl) rfl (by kernel_rfl) rfl rfl ?_
  conv => whnf
  refine AC.of_pc haw rfl ?_
  conv => whnf
  refine AC.of_pc hfw0 rfl ?_
  cases hfew0 : (Gw.Op.fewL k && decide ((k.length : Int) ≤ 60)) with
  | false =>
    conv => whnf
    repeat (first | refine ⟨fun _ => ?_, fun h => absurd h (by decide)⟩ | refine ⟨fun h => absurd h (by decide), fun _ => ?_⟩ | refine ⟨fun _ => ?_, fun h => absurd (show true = false from h) (by decide)⟩ | refine ⟨fun h => absurd (show false = true from h) (by decide), fun _ => ?_⟩
            (conv => whnf))
  | true =>
  simp only [Bool.and_eq_true, decide_eq_true_eq] at hfew0
  obtain ⟨hf0, hlen0⟩ := hfew0
  obtain ⟨hfine0, hnm0⟩ := few_fine05 hf0 hi0
  have hfo0 := foldG_pr nil0 k (by omega) hfine0
  conv => whnf
  repeat (first | refine ⟨fun _ => ?_, fun h => absurd h (by decide)⟩ | refine ⟨fun h => absurd h (by decide), fun _ => ?_⟩ | refine ⟨fun _ => ?_, fun h => absurd (show true = false from h) (by decide)⟩ | refine ⟨fun h => absurd (show false = true from h) (by decide), fun _ => ?_⟩
          (conv => whnf))
  refine AC.of_pc hfw1 rfl ?_
  cases hfew1 : (Gw.Op.fewL l && decide ((l.length : Int) ≤ 60)) with
  | false =>
    conv => whnf
    repeat (first | refine ⟨fun _ => ?_, fun h => absurd h (by decide)⟩ | refine ⟨fun h => absurd h (by decide), fun _ => ?_⟩ | refine ⟨fun _ => ?_, fun h => absurd (show true = false from h) (by decide)⟩ | refine ⟨fun h => absurd (show false = true from h) (by decide), fun _ => ?_⟩
            (conv => whnf))
  | true =>
  simp only [Bool.and_eq_true, decide_eq_true_eq] at hfew1
  obtain ⟨hf1, hlen1⟩ := hfew1
  obtain ⟨hfine1, hnm1⟩ := few_fine05 hf1 hi1
  have hfo1 := foldG_pr nil1 l (by omega) hfine1
  conv => whnf
  repeat (first | refine ⟨fun _ => ?_, fun h => absurd h (by decide)⟩ | refine ⟨fun h => absurd h (by decide), fun _ => ?_⟩ | refine ⟨fun _ => ?_, fun h => absurd (show true = false from h) (by decide)⟩ | refine ⟨fun h => absurd (show false = true from h) (by decide), fun _ => ?_⟩
          (conv => whnf))
  refine AC.of_pr hfo0 rfl ?_
  rintro res ⟨q0, s, hs, hsl, rfl⟩
  have hg0 := grove_of hfine0 hnm0 (by omega) hs hsl
  have hl600 := hg0.len
  have hnd0 := hg0.named
  generalize foldN s = D0 at *
  clear hs hsl hfo0 hfw0 hf0 hfine0 hnm0
  conv => whnf
  refine AC.of_pr hfo1 rfl ?_
  rintro res ⟨q1, s, hs, hsl, rfl⟩
  have hg1 := grove_of hfine1 hnm1 (by omega) hs hsl
  have hl601 := hg1.len
  have hnd1 := hg1.named
  generalize foldN s = D1 at *
  clear hs hsl hfo1 hfw1 hf1 hfine1 hnm1
  have hua := unlike_items hnd0 dir
  have hub := unlike_items hnd1 dir
  have ho1 := diffOfG_pc q0 q1 hg0 hg1 dir
  have ho2 := diffOfG_pc q1 q0 hg1 hg0 dir
  have hla := items_len D0 dir
  have hlb := items_len D1 dir
  generalize Gw.View.items D0 dir = A at *
  generalize Gw.View.items D1 dir = B at *
  have hol := ofI_len A B
  have htl := Gw.Diff.turns_len hua hub
  have htn := Gw.Diff.turns hua hub
  generalize Gw.Diff.ofI A B = E at *
  generalize Gw.Diff.ofI B A = F at *
  have hEe := encE_len E
  have hFe := encE_len F
  have hall : ∀ e ∈ E, turnK e F F.length = true := fun e he => by
    obtain ⟨x, hx, h1, h2⟩ := htn e he
    unfold turnK
    rw [List.take_length]
    refine List.any_eq_true.2 ⟨x, hx, ?_⟩
    unfold turnB
    rw [decide_eq_true h1.symm, Bool.true_and]
    rcases h2 with ⟨a, b⟩ | ⟨a, b⟩ | ⟨a, b⟩ <;> rw [a, b] <;> decide
  conv => whnf
  refine AC.of_pc ho1 rfl ?_
  conv => whnf
  refine AC.of_pc ho2 rfl ?_
  conv => whnf
  generalize decide (E = []) = qe
  generalize decide (F = []) = qf
  refine AW.loop (fun i : Nat => [(.tmp 7, .v (.bool true)), (.tmp 10, .v (.lst qe 2 (encE E) .none)), (.tmp 11, .v (.lst qf 2 (encE F) .none)), (.tmp 12, .v (.int .i64 i))]) 0 (fun i => i ≤ E.length) (fun i => E.length - i) (by decide) 0 (Nat.zero_le _) ⟨rfl, rfl, rfl, rfl, rfl, rfl, rfl, rfl, trivial⟩ ?_
  rintro i hi
  refine ev_sound tabOk mixed _ _ _ _ ?_
  conv => whnf
  refine ⟨fun h => ?_, fun h => ?_⟩
  · have h := of_decide_eq_true h
    rw [hEe] at h
    have hlt : i < E.length := by omega
    have hgi := encE_get hlt
    have hai := hall E[i] (List.getElem_mem hlt)
    have wi : IntKind.i64.wrap ((i : Int) + 1) = ((i + 1 : Nat) : Int) := by rw [w64 (by omega) (by omega)]; rfl
    generalize E[i] = e at *
    conv => whnf
    refine AW.loop (X := Nat × V) (fun x => [(.tmp 7, .v (.bool true)), (.tmp 10, .v (.lst qe 2 (encE E) .none)), (.tmp 11, .v (.lst qf 2 (encE F) .none)), (.tmp 12, .v (.int .i64 i)), (.tmp 13, .v x.2), (.tmp 14, .v (.int .i64 x.1))]) 0
      (fun x => x.1 ≤ F.length ∧ HoldV x.2 (turnK e F x.1)) (fun x => F.length - x.1) (by decide) (0, .ff) ⟨Nat.zero_le _, .ff (by simp [turnK])⟩ ⟨rfl, rfl, rfl, rfl, rfl, rfl, rfl, rfl, rfl, rfl, rfl, rfl, trivial⟩ ?_
    rintro ⟨j, v⟩ ⟨hj, hv⟩
    simp only at hj hv
    dsimp only
    refine ev_sound tabOk mixed _ _ _ _ ?_
    rcases Nat.lt_or_ge j F.length with hjl | hge
    · have hgj := encE_get hjl
      have hnx := turnK_next (a := e) hjl
      have wj : IntKind.i64.wrap ((j : Int) + 1) = ((j + 1 : Nat) : Int) := by rw [w64 (by omega) (by omega)]; rfl
      unfold turnB at hnx
      generalize F[j] = f at *
      conv => whnf
      refine ⟨fun h => ?_, fun h => absurd (of_decide_eq_false h) (by rw [hFe]; omega)⟩
      rcases hv with rfl | ⟨rfl, hv⟩ | ⟨rfl, hv⟩
      · conv => whnf
        refine ⟨fun hv => ?_, fun hv => ?_⟩
        · have hv : turnK e F j = true := hv
          rw [hv, Bool.true_or] at hnx
          conv => whnf
          refine ⟨by kernel_rfl, ?_⟩
          conv => whnf
          refine ⟨(j + 1, .tt), ⟨by show j + 1 ≤ F.length; omega, .tt hnx⟩, by show F.length - (j + 1) < F.length - j; omega, rfl, rfl, rfl, rfl, rfl, rfl, rfl, rfl, rfl, rfl, ?_, rfl, trivial⟩
          show C.v (V.int .i64 (IntKind.i64.wrap ((j : Int) + 1))) = _
          rw [wj]
        · have hv : turnK e F j = false := hv
          rw [hv, Bool.false_or] at hnx
          conv => whnf
          refine ⟨_, ⟨by omega, hgi⟩, ?_⟩
          conv => whnf
          refine ⟨_, ⟨by omega, hgj⟩, ?_⟩
          conv => whnf
          refine ⟨fun h => ?_, fun h => ?_⟩
          · have h : e.path = f.path := by simpa using h
            rw [decide_eq_true h, Bool.true_and] at hnx
            conv => whnf
            refine ⟨_, ⟨by omega, hgi⟩, ?_⟩
            conv => whnf
            refine ⟨_, ⟨by omega, hgj⟩, ?_⟩
            conv => whnf
            refine ⟨_, ⟨by omega, hgi⟩, ?_⟩
            conv => whnf
            refine ⟨fun h => ?_, fun h => ?_⟩
            · have h : ((e.kind == f.kind) == (e.kind == 3)) = true := h
              rw [h, Bool.true_and] at hnx
              conv => whnf
              refine ⟨_, ⟨by omega, hgi⟩, ?_⟩
              conv => whnf
              refine ⟨_, ⟨by omega, hgj⟩, ?_⟩
              conv => whnf
              refine ⟨fun h => ?_, fun h => ?_⟩
              · have h : (IntKind.i64.wrap (e.kind + f.kind) != 4) = true := h
                rw [h, Bool.true_and] at hnx
                conv => whnf
                refine ⟨_, ⟨by omega, hgi⟩, ?_⟩
                conv => whnf
                refine ⟨_, ⟨by omega, hgj⟩, ?_⟩
                conv => whnf
                refine ⟨by kernel_rfl, ?_⟩
                conv => whnf
                refine ⟨(j + 1, .bool (IntKind.i64.wrap (e.kind + f.kind) != 5)), ⟨by show j + 1 ≤ F.length; omega, .bool hnx⟩, by show F.length - (j + 1) < F.length - j; omega, rfl, rfl, rfl, rfl, rfl, rfl, rfl, rfl, rfl, rfl, ?_, rfl, trivial⟩
                show C.v (V.int .i64 (IntKind.i64.wrap ((j : Int) + 1))) = _
                rw [wj]
              · have h : (IntKind.i64.wrap (e.kind + f.kind) != 4) = false := h
                rw [h, Bool.false_and] at hnx
                conv => whnf
                refine ⟨by kernel_rfl, ?_⟩
                conv => whnf
                refine ⟨(j + 1, .ff), ⟨by show j + 1 ≤ F.length; omega, .ff hnx⟩, by show F.length - (j + 1) < F.length - j; omega, rfl, rfl, rfl, rfl, rfl, rfl, rfl, rfl, rfl, rfl, ?_, rfl, trivial⟩
                show C.v (V.int .i64 (IntKind.i64.wrap ((j : Int) + 1))) = _
                rw [wj]
            · have h : ((e.kind == f.kind) == (e.kind == 3)) = false := h
              rw [h, Bool.false_and] at hnx
              conv => whnf
              refine ⟨by kernel_rfl, ?_⟩
              conv => whnf
              refine ⟨(j + 1, .ff), ⟨by show j + 1 ≤ F.length; omega, .ff hnx⟩, by show F.length - (j + 1) < F.length - j; omega, rfl, rfl, rfl, rfl, rfl, rfl, rfl, rfl, rfl, rfl, ?_, rfl, trivial⟩
              show C.v (V.int .i64 (IntKind.i64.wrap ((j : Int) + 1))) = _
              rw [wj]
          · have h : e.path ≠ f.path := by simpa using h
            rw [decide_eq_false h, Bool.false_and] at hnx
            conv => whnf
            refine ⟨by kernel_rfl, ?_⟩
            conv => whnf
            refine ⟨(j + 1, .ff), ⟨by show j + 1 ≤ F.length; omega, .ff hnx⟩, by show F.length - (j + 1) < F.length - j; omega, rfl, rfl, rfl, rfl, rfl, rfl, rfl, rfl, rfl, rfl, ?_, rfl, trivial⟩
            show C.v (V.int .i64 (IntKind.i64.wrap ((j : Int) + 1))) = _
            rw [wj]
      · rw [hv, Bool.true_or] at hnx
        conv => whnf
        refine ⟨by kernel_rfl, ?_⟩
        conv => whnf
        refine ⟨(j + 1, .tt), ⟨by show j + 1 ≤ F.length; omega, .tt hnx⟩, by show F.length - (j + 1) < F.length - j; omega, rfl, rfl, rfl, rfl, rfl, rfl, rfl, rfl, rfl, rfl, ?_, rfl, trivial⟩
        show C.v (V.int .i64 (IntKind.i64.wrap ((j : Int) + 1))) = _
        rw [wj]
      · rw [hv, Bool.false_or] at hnx
        conv => whnf
        refine ⟨_, ⟨by omega, hgi⟩, ?_⟩
        conv => whnf
        refine ⟨_, ⟨by omega, hgj⟩, ?_⟩
        conv => whnf
        refine ⟨fun h => ?_, fun h => ?_⟩
        · have h : e.path = f.path := by simpa using h
          rw [decide_eq_true h, Bool.true_and] at hnx
          conv => whnf
          refine ⟨_, ⟨by omega, hgi⟩, ?_⟩
          conv => whnf
          refine ⟨_, ⟨by omega, hgj⟩, ?_⟩
          conv => whnf
          refine ⟨_, ⟨by omega, hgi⟩, ?_⟩
          conv => whnf
          refine ⟨fun h => ?_, fun h => ?_⟩
          · have h : ((e.kind == f.kind) == (e.kind == 3)) = true := h
            rw [h, Bool.true_and] at hnx
            conv => whnf
            refine ⟨_, ⟨by omega, hgi⟩, ?_⟩
            conv => whnf
            refine ⟨_, ⟨by omega, hgj⟩, ?_⟩
            conv => whnf
            refine ⟨fun h => ?_, fun h => ?_⟩
            · have h : (IntKind.i64.wrap (e.kind + f.kind) != 4) = true := h
              rw [h, Bool.true_and] at hnx
              conv => whnf
              refine ⟨_, ⟨by omega, hgi⟩, ?_⟩
              conv => whnf
              refine ⟨_, ⟨by omega, hgj⟩, ?_⟩
              conv => whnf
              refine ⟨by kernel_rfl, ?_⟩
              conv => whnf
              refine ⟨(j + 1, .bool (IntKind.i64.wrap (e.kind + f.kind) != 5)), ⟨by show j + 1 ≤ F.length; omega, .bool hnx⟩, by show F.length - (j + 1) < F.length - j; omega, rfl, rfl, rfl, rfl, rfl, rfl, rfl, rfl, rfl, rfl, ?_, rfl, trivial⟩
              show C.v (V.int .i64 (IntKind.i64.wrap ((j : Int) + 1))) = _
              rw [wj]
            · have h : (IntKind.i64.wrap (e.kind + f.kind) != 4) = false := h
              rw [h, Bool.false_and] at hnx
              conv => whnf
              refine ⟨by kernel_rfl, ?_⟩
              conv => whnf
              refine ⟨(j + 1, .ff), ⟨by show j + 1 ≤ F.length; omega, .ff hnx⟩, by show F.length - (j + 1) < F.length - j; omega, rfl, rfl, rfl, rfl, rfl, rfl, rfl, rfl, rfl, rfl, ?_, rfl, trivial⟩
              show C.v (V.int .i64 (IntKind.i64.wrap ((j : Int) + 1))) = _
              rw [wj]
          · have h : ((e.kind == f.kind) == (e.kind == 3)) = false := h
            rw [h, Bool.false_and] at hnx
            conv => whnf
            refine ⟨by kernel_rfl, ?_⟩
            conv => whnf
            refine ⟨(j + 1, .ff), ⟨by show j + 1 ≤ F.length; omega, .ff hnx⟩, by show F.length - (j + 1) < F.length - j; omega, rfl, rfl, rfl, rfl, rfl, rfl, rfl, rfl, rfl, rfl, ?_, rfl, trivial⟩
            show C.v (V.int .i64 (IntKind.i64.wrap ((j : Int) + 1))) = _
            rw [wj]
        · have h : e.path ≠ f.path := by simpa using h
          rw [decide_eq_false h, Bool.false_and] at hnx
          conv => whnf
          refine ⟨by kernel_rfl, ?_⟩
          conv => whnf
          refine ⟨(j + 1, .ff), ⟨by show j + 1 ≤ F.length; omega, .ff hnx⟩, by show F.length - (j + 1) < F.length - j; omega, rfl, rfl, rfl, rfl, rfl, rfl, rfl, rfl, rfl, rfl, ?_, rfl, trivial⟩
          show C.v (V.int .i64 (IntKind.i64.wrap ((j : Int) + 1))) = _
          rw [wj]
    · obtain rfl : j = F.length := by omega
      rw [hai] at hv
      rcases hv with rfl | ⟨rfl, _⟩ | ⟨_, hv⟩
      · conv => whnf
        refine ⟨fun h => absurd (of_decide_eq_true h) (by rw [hFe]; omega), fun _ => ?_⟩
        conv => whnf
        repeat (first | refine ⟨fun _ => ?_, fun h => absurd h (by decide)⟩ | refine ⟨fun h => absurd h (by decide), fun _ => ?_⟩ | refine ⟨fun _ => ?_, fun h => absurd (show true = false from h) (by decide)⟩ | refine ⟨fun h => absurd (show false = true from h) (by decide), fun _ => ?_⟩
                (conv => whnf))
        refine ⟨i + 1, by omega, by show E.length - (i + 1) < E.length - i; omega, rfl, rfl, rfl, rfl, rfl, rfl, ?_, rfl, trivial⟩
        show C.v (V.int .i64 (IntKind.i64.wrap ((i : Int) + 1))) = _
        rw [wi]
      · conv => whnf
        refine ⟨fun h => absurd (of_decide_eq_true h) (by rw [hFe]; omega), fun _ => ?_⟩
        conv => whnf
        repeat (first | refine ⟨fun _ => ?_, fun h => absurd h (by decide)⟩ | refine ⟨fun h => absurd h (by decide), fun _ => ?_⟩ | refine ⟨fun _ => ?_, fun h => absurd (show true = false from h) (by decide)⟩ | refine ⟨fun h => absurd (show false = true from h) (by decide), fun _ => ?_⟩
                (conv => whnf))
        refine ⟨i + 1, by omega, by show E.length - (i + 1) < E.length - i; omega, rfl, rfl, rfl, rfl, rfl, rfl, ?_, rfl, trivial⟩
        show C.v (V.int .i64 (IntKind.i64.wrap ((i : Int) + 1))) = _
        rw [wi]
      · cases hv
  · conv => whnf
    repeat (first | refine ⟨fun _ => ?_, fun h => absurd h (by decide)⟩ | refine ⟨fun h => absurd h (by decide), fun _ => ?_⟩ | refine ⟨fun _ => ?_, fun h => absurd (show true = false from h) (by decide)⟩ | refine ⟨fun h => absurd (show false = true from h) (by decide), fun _ => ?_⟩
            (conv => whnf))
    exact congrArg V.bool (by rw [hEe, hFe, htl]; simp)
end Go.Proofs.YtipgfdepopfghaaGreat
