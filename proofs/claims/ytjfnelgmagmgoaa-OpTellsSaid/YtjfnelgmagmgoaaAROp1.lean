/- What the document's answer for op computes: whether an operation may be, its bytes, Put: told without addresses. No claim of its own. -/
import Derived.Test.YtjfnelgmagmgoaaAOp5
import Derived.Test.YtjfnelgmagmgoaaARName
import Derived.Test.YtjfnelgmagmgoaaRNameLaw
namespace Go.Proofs.Ytjfnelgmagmgoaa
open Go.Am

theorem check_ref (o : Gw.Op.Op) : Gw.Op.check o = bif (!Gw.Stamp.check o.at_) || (!Gw.Stamp.ok o.node || (Gw.Stamp.less o.at_ (Gw.Stamp.of o.node) || (Gw.Stamp.ok o.parent && Gw.Stamp.less o.at_ (Gw.Stamp.of o.parent)))) then false else
    bif o.kind == 1 then Gw.Stamp.dir o.parent && (Gw.Name.check o.name && decide (o.data = [])) else o.kind == 2 && (Gw.Stamp.file o.node && (decide ((o.data.length : Int) ≤ 64) && (o.parent == 0 && decide (o.name = [])))) := by
  have hk1 : (o.kind == 1) = decide (o.kind = 1) := rfl
  have hk2 : (o.kind == 2) = decide (o.kind = 2) := rfl
  have hp : (o.parent == 0) = decide (o.parent = 0) := rfl
  have hd : decide ((o.data.length : Int) ≤ 64) = decide (o.data.length ≤ 64) := by congr 1; apply propext; omega
  have h0 : o.parent = 0 → Gw.Stamp.ok o.parent = false := fun h => by rw [h]; rfl
  rw [hk1, hk2, hp, hd]
  unfold Gw.Op.check Gw.Op.fitsMove Gw.Op.fitsWrite Gw.Stamp.later
  generalize Gw.Stamp.less o.at_ (Gw.Stamp.of o.node) = ls1
  generalize Gw.Stamp.less o.at_ (Gw.Stamp.of o.parent) = ls2
  generalize Gw.Stamp.check o.at_ = st
  generalize Gw.Stamp.ok o.node = okn
  generalize Gw.Stamp.ok o.parent = okp at *
  generalize Gw.Stamp.dir o.parent = dir
  generalize Gw.Name.check o.name = nm
  generalize Gw.Stamp.file o.node = fl
  by_cases k1 : o.kind = 1
  · rw [if_pos k1, decide_eq_true k1]
    cases st <;> cases okn <;> cases ls1 <;> cases okp <;> cases ls2 <;> cases dir <;> cases nm <;> rfl
  · rw [if_neg k1, decide_eq_false k1]
    by_cases k2 : o.kind = 2
    · rw [if_pos k2, decide_eq_true k2]
      by_cases p0 : o.parent = 0
      · rw [h0 p0, decide_eq_true p0]
        cases st <;> cases okn <;> cases ls1 <;> cases ls2 <;> cases fl <;> rfl
      · rw [decide_eq_false p0]
        generalize decide (o.data.length ≤ 64) = q
        cases st <;> cases okn <;> cases ls1 <;> cases okp <;> cases ls2 <;> cases fl <;> cases q <;> rfl
    · rw [if_neg k2, decide_eq_false k2]
      cases st <;> cases okn <;> cases ls1 <;> cases okp <;> cases ls2 <;> rfl

theorem rcheck_pc (o : Gw.Op.Op) (hf : Fine o) : PC Try.prog 20 [encO o] (.bool (Gw.Op.check o)) := by
  have hst := rstampCheck_pc o.at_
  have hof1 := rof_pc o.node hf.node
  have hof2 := rof_pc o.parent hf.parent
  have hls1 := rless_pc o.at_ (Gw.Stamp.of o.node)
  have hls2 := rless_pc o.at_ (Gw.Stamp.of o.parent)
  have hdir := rdir_pc o.parent hf.parent
  have hnm := rnameCheck_pc o.name hf.name (fun l h => Nat.le_trans (Gw.RName.all_len h) hf.name)
  rw [Gw.RName.check_same] at hnm
  rw [check_ref]
  generalize Gw.Stamp.less o.at_ (Gw.Stamp.of o.node) = ls1 at *
  generalize Gw.Stamp.less o.at_ (Gw.Stamp.of o.parent) = ls2 at *
  generalize Gw.Stamp.check o.at_ = st at *
  generalize Gw.Stamp.ok o.node = okn at *
  generalize Gw.Stamp.ok o.parent = okp at *
  generalize Gw.Stamp.dir o.parent = dir at *
  generalize Gw.Name.check o.name = nm at *
  generalize Gw.Stamp.file o.node = fl at *
  generalize Gw.Stamp.file o.parent = fl2 at *
  generalize Gw.Stamp.of o.node = s1 at *
  generalize Gw.Stamp.of o.parent = s2 at *
  refine PC.of tabOk mixed (fn := Try.f20) (by kernel_rfl) rfl (by kernel_rfl) rfl rfl ?_
  conv => whnf
  refine AC.of_pc hst rfl ?_
  conv => whnf
  refine AC.of_pc hof1 rfl ?_
  conv => whnf
  refine AC.of_pc hof2 rfl ?_
  conv => whnf
  refine AC.of_pc hls1 rfl ?_
  conv => whnf
  refine AC.of_pc hls2 rfl ?_
  cases st with
  | false =>
    conv => whnf
    repeat (first | refine ⟨fun _ => ?_, fun h => absurd h (by decide)⟩ | refine ⟨fun h => absurd h (by decide), fun _ => ?_⟩
            (conv => whnf))
    rfl
  | true =>
  cases okn with
  | false =>
    conv => whnf
    repeat (first | refine ⟨fun _ => ?_, fun h => absurd h (by decide)⟩ | refine ⟨fun h => absurd h (by decide), fun _ => ?_⟩
            (conv => whnf))
    rfl
  | true =>
  cases ls1 with
  | true =>
    conv => whnf
    repeat (first | refine ⟨fun _ => ?_, fun h => absurd h (by decide)⟩ | refine ⟨fun h => absurd h (by decide), fun _ => ?_⟩
            (conv => whnf))
    rfl
  | false =>
  have rest : (okp && ls2) = true ∨ (okp && ls2) = false := by cases okp <;> cases ls2 <;> simp
  rcases rest with h | h
  · simp only [Bool.and_eq_true] at h
    obtain ⟨rfl, rfl⟩ := h
    conv => whnf
    repeat (first | refine ⟨fun _ => ?_, fun h => absurd h (by decide)⟩ | refine ⟨fun h => absurd h (by decide), fun _ => ?_⟩
            (conv => whnf))
    rfl
  have mid : ∀ (X : Prop), X → X := fun X h => h
  have e0 : (bif (!true) || (!true || (false || (okp && ls2))) then false else
    bif o.kind == 1 then dir && (nm && decide (o.data = [])) else o.kind == 2 && (fl && (decide ((o.data.length : Int) ≤ 64) && (o.parent == 0 && decide (o.name = []))))) = bif o.kind == 1 then dir && (nm && decide (o.data = [])) else o.kind == 2 && (fl && (decide ((o.data.length : Int) ≤ 64) && (o.parent == 0 && decide (o.name = [])))) := by rw [h]; rfl
  rw [e0]
  clear e0 mid
  have hx : (okp = true ∧ ls2 = false) ∨ okp = false := by cases okp <;> cases ls2 <;> simp_all
  clear h
  rcases hx with ⟨rfl, rfl⟩ | rfl
  all_goals conv => whnf
  all_goals repeat (first | refine ⟨fun _ => ?_, fun h => absurd h (by decide)⟩ | refine ⟨fun h => absurd h (by decide), fun _ => ?_⟩
                    (conv => whnf))
  all_goals refine ⟨fun hk => ?_, fun hk => ?_⟩
  all_goals rw [hk]
  · skip
    conv => whnf
    refine AC.of_pc hdir rfl ?_
    conv => whnf
    refine AC.of_pc hnm rfl ?_
    cases dir with
    | false =>
      conv => whnf
      repeat (first | refine ⟨fun _ => ?_, fun h => absurd h (by decide)⟩ | refine ⟨fun h => absurd h (by decide), fun _ => ?_⟩
              (conv => whnf))
      rfl
    | true =>
      cases nm with
      | false =>
        conv => whnf
        repeat (first | refine ⟨fun _ => ?_, fun h => absurd h (by decide)⟩ | refine ⟨fun h => absurd h (by decide), fun _ => ?_⟩
                (conv => whnf))
        rfl
      | true =>
        conv => whnf
        repeat (first | refine ⟨fun _ => ?_, fun h => absurd h (by decide)⟩ | refine ⟨fun h => absurd h (by decide), fun _ => ?_⟩
                (conv => whnf))
        rfl
  · skip
    conv => whnf
    refine ⟨fun q => ?_, fun q => ?_⟩
    · rw [q]
      cases fl with
      | false =>
        conv => whnf
        repeat (first | refine ⟨fun _ => ?_, fun h => absurd h (by decide)⟩ | refine ⟨fun h => absurd h (by decide), fun _ => ?_⟩
                (conv => whnf))
        rfl
      | true =>
        conv => whnf
        repeat (first | refine ⟨fun _ => ?_, fun h => absurd h (by decide)⟩ | refine ⟨fun h => absurd h (by decide), fun _ => ?_⟩
                (conv => whnf))
        refine ⟨fun q => ?_, fun q => ?_⟩
        · rw [q]
          conv => whnf
          refine ⟨fun q => ?_, fun q => ?_⟩
          · rw [q]
            conv => whnf
            rfl
          · rw [q]
            conv => whnf
            rfl
        · rw [q]
          conv => whnf
          repeat (first | refine ⟨fun _ => ?_, fun h => absurd h (by decide)⟩ | refine ⟨fun h => absurd h (by decide), fun _ => ?_⟩
                  (conv => whnf))
          rfl
    · rw [q]
      conv => whnf
      repeat (first | refine ⟨fun _ => ?_, fun h => absurd h (by decide)⟩ | refine ⟨fun h => absurd h (by decide), fun _ => ?_⟩
              (conv => whnf))
      rfl
  · skip
    conv => whnf
    refine AC.of_pc hdir rfl ?_
    conv => whnf
    refine AC.of_pc hnm rfl ?_
    cases dir with
    | false =>
      conv => whnf
      repeat (first | refine ⟨fun _ => ?_, fun h => absurd h (by decide)⟩ | refine ⟨fun h => absurd h (by decide), fun _ => ?_⟩
              (conv => whnf))
      rfl
    | true =>
      cases nm with
      | false =>
        conv => whnf
        repeat (first | refine ⟨fun _ => ?_, fun h => absurd h (by decide)⟩ | refine ⟨fun h => absurd h (by decide), fun _ => ?_⟩
                (conv => whnf))
        rfl
      | true =>
        conv => whnf
        repeat (first | refine ⟨fun _ => ?_, fun h => absurd h (by decide)⟩ | refine ⟨fun h => absurd h (by decide), fun _ => ?_⟩
                (conv => whnf))
        rfl
  · skip
    conv => whnf
    refine ⟨fun q => ?_, fun q => ?_⟩
    · rw [q]
      cases fl with
      | false =>
        conv => whnf
        repeat (first | refine ⟨fun _ => ?_, fun h => absurd h (by decide)⟩ | refine ⟨fun h => absurd h (by decide), fun _ => ?_⟩
                (conv => whnf))
        rfl
      | true =>
        conv => whnf
        repeat (first | refine ⟨fun _ => ?_, fun h => absurd h (by decide)⟩ | refine ⟨fun h => absurd h (by decide), fun _ => ?_⟩
                (conv => whnf))
        refine ⟨fun q => ?_, fun q => ?_⟩
        · rw [q]
          conv => whnf
          refine ⟨fun q => ?_, fun q => ?_⟩
          · rw [q]
            conv => whnf
            rfl
          · rw [q]
            conv => whnf
            rfl
        · rw [q]
          conv => whnf
          repeat (first | refine ⟨fun _ => ?_, fun h => absurd h (by decide)⟩ | refine ⟨fun h => absurd h (by decide), fun _ => ?_⟩
                  (conv => whnf))
          rfl
    · rw [q]
      conv => whnf
      repeat (first | refine ⟨fun _ => ?_, fun h => absurd h (by decide)⟩ | refine ⟨fun h => absurd h (by decide), fun _ => ?_⟩
              (conv => whnf))
      rfl

theorem rbytes_pc (o : Gw.Op.Op) (hck : Gw.Op.check o = true) : PC Try.prog 30 [encO o] (.str (Gw.Op.bytes o)) := by
  obtain ⟨hc, hr, hk, hnode, hp⟩ := Gw.Op.check_bounds hck
  have ht := Gw.Op.text_le hck
  have o1 := rone_pc o.at_.c.toNat (by omega)
  have o2 := rone_pc o.at_.r.toNat (by omega)
  have o3 := rone_pc o.kind.toNat (by omega)
  have o4 := rone_pc o.node.toNat (by omega)
  have o5 := rone_pc o.parent.toNat (by omega)
  rw [show ((o.at_.c.toNat : Nat) : Int) = o.at_.c by omega] at o1
  rw [show ((o.at_.r.toNat : Nat) : Int) = o.at_.r by omega] at o2
  rw [show ((o.kind.toNat : Nat) : Int) = o.kind by omega] at o3
  rw [show ((o.node.toNat : Nat) : Int) = o.node by omega] at o4
  rw [show ((o.parent.toNat : Nat) : Int) = o.parent by omega] at o5
  have l1 := one_len o.at_.c.toNat (by omega)
  have l2 := one_len o.at_.r.toNat (by omega)
  have l3 := one_len o.kind.toNat (by omega)
  have l4 := one_len o.node.toNat (by omega)
  have l5 := one_len o.parent.toNat (by omega)
  refine PC.of tabOk mixed (fn := Try.f30) (by kernel_rfl) rfl (by kernel_rfl) rfl rfl ?_
  conv => whnf
  refine ⟨_, rfl, o1, ?_⟩
  conv => whnf
  refine ⟨_, rfl, o2, ?_⟩
  conv => whnf
  generalize e1 : Gw.Vlq.one o.at_.c.toNat = b1 at *
  generalize e2 : Gw.Vlq.one o.at_.r.toNat = b2 at *
  generalize e3 : Gw.Vlq.one o.kind.toNat = b3 at *
  generalize e4 : Gw.Vlq.one o.node.toNat = b4 at *
  generalize e5 : Gw.Vlq.one o.parent.toNat = b5 at *
  have t1 := rtext_pc (b1 ++ b2 ++ b3 ++ b4 ++ b5) o.name (by simp only [List.length_append]; omega)
  have t2 := rtext_pc (b1 ++ b2 ++ b3 ++ b4) o.data (by simp only [List.length_append]; omega)
  refine ⟨by omega, ?_⟩
  conv => whnf
  refine ⟨_, rfl, o3, ?_⟩
  conv => whnf
  refine ⟨by rw [List.length_append]; omega, ?_⟩
  conv => whnf
  refine ⟨_, rfl, o4, ?_⟩
  conv => whnf
  refine ⟨by simp only [List.length_append]; omega, ?_⟩
  conv => whnf
  refine ⟨by kernel_rfl, ?_⟩
  conv => whnf
  refine ⟨fun hk => ?_, fun hk => ?_⟩
  · have hk : o.kind = 1 := by simpa using hk
    have hb : Gw.Op.bytes o = Gw.Vlq.text (b1 ++ b2 ++ b3 ++ b4 ++ b5) o.name := by
      unfold Gw.Op.bytes Gw.Op.head Gw.Vlq.many
      rw [if_pos hk, ← e1, ← e2, ← e3, ← e4, ← e5]; simp
    conv => whnf
    refine ⟨_, rfl, o5, ?_⟩
    conv => whnf
    refine ⟨by simp only [List.length_append]; omega, ?_⟩
    conv => whnf
    refine ⟨_, rfl, t1, ?_⟩
    conv => whnf
    refine ⟨by kernel_rfl, ?_⟩
    conv => whnf
    rw [hb]
  · have hk : ¬ o.kind = 1 := by simpa using hk
    have hb : Gw.Op.bytes o = Gw.Vlq.text (b1 ++ b2 ++ b3 ++ b4) o.data := by
      unfold Gw.Op.bytes Gw.Op.head Gw.Vlq.many
      rw [if_neg hk, ← e1, ← e2, ← e3, ← e4]; simp
    conv => whnf
    refine AC.of_pc t2 rfl ?_
    conv => whnf
    rw [hb]

theorem rput_pc (b : List UInt8) (o : Gw.Op.Op) (hf : Fine o) (hb : b.length ≤ 1000000000000) : PC Try.prog 12 [.str b, encO o] (.tup [.str (Gw.Op.put b o), .int .i64 (Gw.Op.putErr o)]) := by
  have hck := rcheck_pc o hf
  unfold Gw.Op.put Gw.Op.putErr
  refine PC.of tabOk mixed (fn := Try.f12) (by kernel_rfl) rfl (by kernel_rfl) rfl rfl ?_
  conv => whnf
  cases h : Gw.Op.check o with
  | false =>
    rw [h] at hck
    rw [if_neg (by decide), if_neg (by decide)]
    refine AC.of_pc hck rfl ?_
    conv => whnf
    refine ⟨fun _ => ?_, fun h => absurd h (by decide)⟩
    conv => whnf
  | true =>
    have hby := rbytes_pc o h
    have hs := Gw.Op.bytes_small h
    rw [h] at hck
    rw [if_pos rfl, if_pos rfl]
    refine AC.of_pc hck rfl ?_
    conv => whnf
    refine ⟨fun h => absurd h (by decide), fun _ => ?_⟩
    conv => whnf
    refine AC.of_pc hby rfl ?_
    generalize Gw.Op.bytes o = B at *
    conv => whnf
    refine ⟨by omega, ?_⟩
    conv => whnf
end Go.Proofs.Ytjfnelgmagmgoaa
