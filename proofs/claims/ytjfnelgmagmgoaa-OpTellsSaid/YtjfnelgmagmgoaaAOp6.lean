/- The laws of op that ask the document's answer for nothing: told without addresses. No claim of its own. -/
import Derived.Test.YtjfnelgmagmgoaaAOp5
namespace Go.Proofs.Ytjfnelgmagmgoaa
open Go.Am

theorem cuts_pc (o : Gw.Op.Op) (hf : Fine o) (cut : Nat) (hc : cut < 65536) : PC Try.prog 6 [encO o, .int .u16 cut] (.bool true) := by
  have hput := opPut_pc [] o hf (by decide)
  have hck := opCheck_pc o hf
  refine PC.of tabOk mixed (fn := Try.f6) (by kernel_rfl) rfl (by kernel_rfl) rfl rfl ?_
  conv => whnf
  refine AC.of_pc awake_pc rfl ?_
  conv => whnf
  cases hcheck : Gw.Op.check o with
  | false =>
    have e1 : Gw.Op.put [] o = [] := by unfold Gw.Op.put; rw [hcheck]; rfl
    have e2 : Gw.Op.putErr o = 50 := by unfold Gw.Op.putErr; rw [hcheck]; rfl
    rw [e1, e2] at hput
    rw [hcheck] at hck
    refine AC.of_pc hput rfl ?_
    conv => whnf
    repeat (first | refine ⟨fun _ => ?_, fun h => absurd h (by decide)⟩ | refine ⟨fun h => absurd h (by decide), fun _ => ?_⟩ | refine AC.of_pc hck rfl ?_
            (conv => whnf))
    rfl
  | true =>
    have e1 : Gw.Op.put [] o = Gw.Op.bytes o := by unfold Gw.Op.put; rw [hcheck]; rfl
    have e2 : Gw.Op.putErr o = 0 := by unfold Gw.Op.putErr; rw [hcheck]; rfl
    have hp : 0 < (Gw.Op.bytes o).length := List.length_pos_iff.2 (Gw.Op.bytes_pos o)
    have hs := Gw.Op.bytes_small hcheck
    have hj : cut % (Gw.Op.bytes o).length < (Gw.Op.bytes o).length := Nat.mod_lt _ hp
    have htk := opTake_pc ((Gw.Op.bytes o).take (cut % (Gw.Op.bytes o).length)) (by rw [List.length_take]; omega)
    rw [Gw.Op.take_cut' hcheck hj] at htk
    rw [e1, e2] at hput
    have hb0 := Gw.Op.bytes_pos o
    refine AC.of_pc hput rfl ?_
    generalize Gw.Op.bytes o = B at *
    obtain ⟨c, B, rfl⟩ := List.exists_cons_of_ne_nil hb0
    conv => whnf
    refine ⟨fun h => absurd h (by decide), fun _ => ?_⟩
    conv => whnf
    refine ⟨fun h => absurd (of_decide_eq_true h) hb0, fun _ => ?_⟩
    conv => whnf
    have em : ((cut : Int)).tmod ((c :: B).length : Int) = ((cut % (c :: B).length : Nat) : Int) := tmodN _ _
    have w1 : IntKind.i64.wrap (cut : Int) = cut := w64 (by omega) (by omega)
    conv => whnf
    rw [w1, em, Int.toNat_natCast]
    refine ⟨⟨by omega, by omega⟩, ?_⟩
    conv => whnf
    refine AC.of_pc htk rfl ?_
    conv => whnf
    repeat (first | refine ⟨fun _ => ?_, fun h => absurd h (by decide)⟩ | refine ⟨fun h => absurd h (by decide), fun _ => ?_⟩
            (conv => whnf))
    rfl

theorem sizes_pc (o : Gw.Op.Op) (hf : Fine o) : PC Try.prog 7 [encO o] (.bool true) := by
  have hput := opPut_pc [] o hf (by decide)
  have hck := stampCheck_pc o.at_
  refine PC.of tabOk mixed (fn := Try.f7) (by kernel_rfl) rfl (by kernel_rfl) rfl rfl ?_
  conv => whnf
  refine AC.of_pc awake_pc rfl ?_
  conv => whnf
  cases hcheck : Gw.Op.check o with
  | false =>
    have e1 : Gw.Op.put [] o = [] := by unfold Gw.Op.put; rw [hcheck]; rfl
    have e2 : Gw.Op.putErr o = 50 := by unfold Gw.Op.putErr; rw [hcheck]; rfl
    rw [e1, e2] at hput
    refine AC.of_pc hput rfl ?_
    conv => whnf
    repeat (first | refine ⟨fun _ => ?_, fun h => absurd h (by decide)⟩ | refine ⟨fun h => absurd h (by decide), fun _ => ?_⟩
            (conv => whnf))
    rfl
  | true =>
    have e1 : Gw.Op.put [] o = Gw.Op.bytes o := by unfold Gw.Op.put; rw [hcheck]; rfl
    have e2 : Gw.Op.putErr o = 0 := by unfold Gw.Op.putErr; rw [hcheck]; rfl
    have hl := Gw.Op.bytes_length hcheck
    have hs := Gw.Op.bytes_small hcheck
    have hst := (Gw.Op.not_later hcheck).2.2.2
    obtain ⟨hc, hr, hk, hnode, hp⟩ := Gw.Op.check_bounds hcheck
    have ht := Gw.Op.text_le hcheck
    have v1 := vsize_pc o.at_.c.toNat (by omega)
    have v2 := vsize_pc o.at_.r.toNat (by omega)
    have v3 := vsize_pc o.kind.toNat (by omega)
    have v4 := vsize_pc o.node.toNat (by omega)
    have v5 := vsize_pc o.parent.toNat (by omega)
    have v6 := vsize_pc (o.name.length + o.data.length) (by omega)
    rw [show ((o.at_.c.toNat : Nat) : Int) = o.at_.c by omega] at v1
    rw [show ((o.at_.r.toNat : Nat) : Int) = o.at_.r by omega] at v2
    rw [show ((o.kind.toNat : Nat) : Int) = o.kind by omega] at v3
    rw [show ((o.node.toNat : Nat) : Int) = o.node by omega] at v4
    rw [show ((o.parent.toNat : Nat) : Int) = o.parent by omega] at v5
    rw [hst] at hck
    rw [e1, e2] at hput
    have b1 := Gw.Vlq.size_le9 o.at_.c.toNat (by omega)
    have b2 := Gw.Vlq.size_le9 o.at_.r.toNat (by omega)
    have b3 := Gw.Vlq.size_le9 o.kind.toNat (by omega)
    have b4 := Gw.Vlq.size_le9 o.node.toNat (by omega)
    have b5 := Gw.Vlq.size_le9 o.parent.toNat (by omega)
    have b6 := Gw.Vlq.size_le9 (o.name.length + o.data.length) (by omega)
    rw [← List.length_append] at v6 hl b6
    have hnd : (o.name ++ o.data).length ≤ 144 := by rw [List.length_append]; omega
    generalize Gw.Vlq.size o.at_.c.toNat = s1 at *
    generalize Gw.Vlq.size o.at_.r.toNat = s2 at *
    generalize Gw.Vlq.size o.kind.toNat = s3 at *
    generalize Gw.Vlq.size o.node.toNat = s4 at *
    generalize Gw.Vlq.size o.parent.toNat = s5 at *
    refine AC.of_pc hput rfl ?_
    conv => whnf
    refine ⟨fun h => absurd h (by decide), fun _ => ?_⟩
    conv => whnf
    refine ⟨_, rfl, v1, ?_⟩
    conv => whnf
    refine ⟨_, rfl, v2, ?_⟩
    conv => whnf
    refine ⟨_, rfl, v3, ?_⟩
    conv => whnf
    refine ⟨_, rfl, v4, ?_⟩
    conv => whnf
    refine ⟨by kernel_rfl, ?_⟩
    conv => whnf
    refine ⟨by omega, ?_⟩
    have q1 : IntKind.i64.wrap ((s1 : Int) + s2) = s1 + s2 := w64 (by omega) (by omega)
    have q2 : IntKind.i64.wrap ((s1 : Int) + s2 + s3) = s1 + s2 + s3 := w64 (by omega) (by omega)
    have q3 : IntKind.i64.wrap ((s1 : Int) + s2 + s3 + s4) = s1 + s2 + s3 + s4 := w64 (by omega) (by omega)
    rw [q1, q2, q3]
    conv => whnf
    refine ⟨fun h => ?_, fun h => ?_⟩
    · have h : o.kind = 1 := by simpa using h
      rw [if_pos h] at hl
      have q4 : IntKind.i64.wrap ((s1 : Int) + s2 + s3 + s4 + s5) = s1 + s2 + s3 + s4 + s5 := w64 (by omega) (by omega)
      conv => whnf
      refine AC.of_pc v5 rfl ?_
      conv => whnf
      rw [q4]
      refine ⟨fun _ => ?_, fun h => absurd h (by decide)⟩
      conv => whnf
      refine AC.of_pc v6 rfl ?_
      generalize Gw.Vlq.size (o.name ++ o.data).length = s6 at *
      conv => whnf
      have hw : IntKind.i64.wrap (IntKind.i64.wrap (((s1 : Int) + s2 + s3 + s4 + s5) + s6) + ((o.name ++ o.data).length : Int)) = ((Gw.Op.bytes o).length : Int) := by
        rw [hl, w64 (x := ((s1 : Int) + s2 + s3 + s4 + s5) + s6) (by omega) (by omega), w64 (by omega) (by omega)]
        omega
      refine ⟨fun _ => ?_, fun h => absurd h ?_⟩
      · conv => whnf
        refine ⟨fun _ => ?_, fun h => absurd (of_decide_eq_false h) (by omega)⟩
        conv => whnf
        refine AC.of_pc hck rfl ?_
        conv => whnf
      · show ¬ ((((Gw.Op.bytes o).length : Int) == IntKind.i64.wrap (IntKind.i64.wrap (((s1 : Int) + s2 + s3 + s4 + s5) + s6) + ((o.name ++ o.data).length : Int))) = false)
        rw [hw]; simp
    · have h : ¬ o.kind = 1 := by simpa using h
      rw [if_neg h] at hl
      conv => whnf
      refine ⟨fun _ => ?_, fun h => absurd h (by decide)⟩
      conv => whnf
      refine AC.of_pc v6 rfl ?_
      generalize Gw.Vlq.size (o.name ++ o.data).length = s6 at *
      conv => whnf
      have hw : IntKind.i64.wrap (IntKind.i64.wrap (((s1 : Int) + s2 + s3 + s4) + s6) + ((o.name ++ o.data).length : Int)) = ((Gw.Op.bytes o).length : Int) := by
        rw [hl, w64 (x := ((s1 : Int) + s2 + s3 + s4) + s6) (by omega) (by omega), w64 (by omega) (by omega)]
        omega
      refine ⟨fun _ => ?_, fun h => absurd h ?_⟩
      · conv => whnf
        refine ⟨fun _ => ?_, fun h => absurd (of_decide_eq_false h) (by omega)⟩
        conv => whnf
        refine AC.of_pc hck rfl ?_
        conv => whnf
      · show ¬ ((((Gw.Op.bytes o).length : Int) == IntKind.i64.wrap (IntKind.i64.wrap (((s1 : Int) + s2 + s3 + s4) + s6) + ((o.name ++ o.data).length : Int))) = false)
        rw [hw]; simp
end Go.Proofs.Ytjfnelgmagmgoaa
