/- Whether an operation may be, and which stands ahead: told without addresses. No claim of its own. -/
import Derived.Test.YtkflmicpifohhaaAStampP
import Derived.Test.YtkflmicpifohhaaAName
import Derived.Test.YtkflmicpifohhaaOpFn
namespace Go.Proofs.Ytkflmicpifohhaa
open Go.Am

def encO (o : Gw.Op.Op) : V := .agg [.int .i64 o.at_.c, .int .i64 o.at_.r, .int .i64 o.kind, .int .i64 o.node, .int .i64 o.parent, .str o.name, .str o.data]
def kindV (o : Gw.Op.Op) : V := if o.kind = 1 then .iface 107 (encO o) else if o.kind = 2 then .iface 108 (encO o) else .nili
/-- Numbers, and texts, of an operation that can be. -/
structure Fine (o : Gw.Op.Op) : Prop where
  node : I64 o.node
  parent : I64 o.parent
  name : o.name.length ≤ 1048576
  data : o.data.length ≤ 1048576

theorem fin_agg {σ : St} {cs : List V} (h : pureAll cs = true) : Am.Fin σ (.agg cs) (.agg (forgetAll cs)) :=
  .agg (forgetAll_len cs).symm fun i x y hx hy => by
    obtain ⟨z, h1, rfl⟩ := forgetAll_get hy
    rw [hx] at h1
    cases h1
    exact .pure (pureAll_get h i x hx)

theorem kindOf_pc (o : Gw.Op.Op) : PC Try.prog 47 [encO o] (kindV o) := by
  unfold kindV
  refine PC.of tabOk mixed (fn := Try.f47) (by kernel_rfl) rfl (by kernel_rfl) rfl rfl ?_
  conv => whnf
  refine ⟨fun h => ?_, fun h => ?_⟩
  · have h : o.kind = 1 := by simpa using h
    rw [if_pos h]
    conv => whnf
    exact .iface (fin_agg (cs := [.int .i64 o.at_.c, .int .i64 o.at_.r, .int .i64 o.kind, .int .i64 o.node, .int .i64 o.parent, .str o.name, .str o.data]) rfl)
  · have h : ¬ o.kind = 1 := by simpa using h
    rw [if_neg h]
    conv => whnf
    refine ⟨fun h2 => ?_, fun h2 => ?_⟩
    · have h2 : o.kind = 2 := by simpa using h2
      rw [if_pos h2]
      conv => whnf
      exact .iface (fin_agg (cs := [.int .i64 o.at_.c, .int .i64 o.at_.r, .int .i64 o.kind, .int .i64 o.node, .int .i64 o.parent, .str o.name, .str o.data]) rfl)
    · have h2 : ¬ o.kind = 2 := by simpa using h2
      rw [if_neg h2]
      conv => whnf

theorem fitsMove_pc (o : Gw.Op.Op) (hf : Fine o) : PC Try.prog 106 [encO o] (.bool (Gw.Op.fitsMove o)) := by
  have h1 := of_pc o.node hf.node
  have h2 := dir_pc o.parent hf.parent
  have h3 := later_pc o.at_ o.parent hf.parent
  have h4 := nameCheck_pc o.name hf.name
  unfold Gw.Op.fitsMove
  refine PC.of tabOk mixed (fn := Try.f106) (by kernel_rfl) rfl (by kernel_rfl) rfl rfl ?_
  conv => whnf
  refine AC.of_pc h1 rfl ?_
  conv => whnf
  refine ⟨fun q => ?_, fun q => ?_⟩
  · rw [q]
    conv => whnf
    refine AC.of_pc h2 rfl ?_
    conv => whnf
    refine ⟨fun q => ?_, fun q => ?_⟩
    · rw [q]
      conv => whnf
      refine AC.of_pc h3 rfl ?_
      conv => whnf
      refine ⟨fun q => ?_, fun q => ?_⟩
      · rw [q]
        conv => whnf
        refine AC.of_pc h4 rfl ?_
        conv => whnf
        refine ⟨fun q => ?_, fun q => ?_⟩
        · rw [q]
          conv => whnf
          rfl
        · rw [q]
          conv => whnf
          rfl
      · rw [q]
        conv => whnf
        rfl
    · rw [q]
      conv => whnf
      rfl
  · rw [q]
    conv => whnf
    rfl

theorem fitsWrite_pc (o : Gw.Op.Op) (hf : Fine o) : PC Try.prog 112 [encO o] (.bool (Gw.Op.fitsWrite o)) := by
  have h1 := of_pc o.node hf.node
  unfold Gw.Op.fitsWrite
  refine PC.of tabOk mixed (fn := Try.f112) (by kernel_rfl) rfl (by kernel_rfl) rfl rfl ?_
  conv => whnf
  refine AC.of_pc h1 rfl ?_
  conv => whnf
  refine ⟨fun q => ?_, fun q => ?_⟩
  · rw [q]
    conv => whnf
    refine ⟨fun q => ?_, fun q => ?_⟩
    · rw [q]
      conv => whnf
      refine ⟨fun q => ?_, fun q => ?_⟩
      · have q : o.data.length ≤ 64 := by have := of_decide_eq_true q; omega
        rw [decide_eq_true q]
        conv => whnf
        refine ⟨fun q => ?_, fun q => ?_⟩
        · have q : o.parent = 0 := by simpa using q
          rw [decide_eq_true q]
          conv => whnf
          rfl
        · have q : ¬ o.parent = 0 := by simpa using q
          rw [decide_eq_false q]
          conv => whnf
          rfl
      · have q : ¬ o.data.length ≤ 64 := by have := of_decide_eq_false q; omega
        rw [decide_eq_false q]
        conv => whnf
        rfl
    · rw [q]
      conv => whnf
      rfl
  · rw [q]
    conv => whnf
    rfl
theorem opCheck_pc (o : Gw.Op.Op) (hf : Fine o) : PC Try.prog 28 [encO o] (.bool (Gw.Op.check o)) := by
  have h0 := kindOf_pc o
  have h1 := stampCheck_pc o.at_
  have h2 := later_pc o.at_ o.node hf.node
  unfold kindV at h0
  unfold Gw.Op.check
  by_cases k1 : o.kind = 1
  · rw [if_pos k1] at h0 ⊢
    have h3 := fitsMove_pc o hf
    refine PC.of tabOk mixed (fn := Try.f28) (by kernel_rfl) rfl (by kernel_rfl) rfl rfl ?_
    conv => whnf
    refine AC.of_pc h0 rfl ?_
    conv => whnf
    refine ⟨fun _ => ?_, fun h => absurd h (by decide)⟩
    conv => whnf
    refine AC.of_pc h1 rfl ?_
    conv => whnf
    refine ⟨fun q => ?_, fun q => ?_⟩
    · rw [q]
      conv => whnf
      refine AC.of_pc h2 rfl ?_
      conv => whnf
      refine ⟨fun q => ?_, fun q => ?_⟩
      · rw [q]
        conv => whnf
        refine ⟨106, by kernel_rfl, AC.of_pc h3 rfl ?_⟩
        conv => whnf
        rfl
      · rw [q]
        conv => whnf
        rfl
    · rw [q]
      conv => whnf
      rfl
  · rw [if_neg k1] at h0 ⊢
    by_cases k2 : o.kind = 2
    · rw [if_pos k2] at h0 ⊢
      have h3 := fitsWrite_pc o hf
      refine PC.of tabOk mixed (fn := Try.f28) (by kernel_rfl) rfl (by kernel_rfl) rfl rfl ?_
      conv => whnf
      refine AC.of_pc h0 rfl ?_
      conv => whnf
      refine ⟨fun _ => ?_, fun h => absurd h (by decide)⟩
      conv => whnf
      refine AC.of_pc h1 rfl ?_
      conv => whnf
      refine ⟨fun q => ?_, fun q => ?_⟩
      · rw [q]
        conv => whnf
        refine AC.of_pc h2 rfl ?_
        conv => whnf
        refine ⟨fun q => ?_, fun q => ?_⟩
        · rw [q]
          conv => whnf
          refine ⟨112, by kernel_rfl, AC.of_pc h3 rfl ?_⟩
          conv => whnf
          rfl
        · rw [q]
          conv => whnf
          rfl
      · rw [q]
        conv => whnf
        rfl
    · rw [if_neg k2] at h0 ⊢
      refine PC.of tabOk mixed (fn := Try.f28) (by kernel_rfl) rfl (by kernel_rfl) rfl rfl ?_
      conv => whnf
      refine AC.of_pc h0 rfl ?_
      conv => whnf
      refine ⟨fun h => absurd h (by decide), fun _ => ?_⟩
      conv => whnf

theorem opLess_pc (a b : Gw.Op.Op) : PC Try.prog 31 [encO a, encO b] (.bool (Gw.Stamp.less a.at_ b.at_)) := by
  have h := less_pc a.at_ b.at_
  refine PC.of tabOk mixed (fn := Try.f31) (by kernel_rfl) rfl (by kernel_rfl) rfl rfl ?_
  conv => whnf
  refine AC.of_pc h rfl ?_
  conv => whnf

def cellsO (o : Gw.Op.Op) : List V := [.int .i64 o.at_.c, .int .i64 o.at_.r, .int .i64 o.kind, .int .i64 o.node, .int .i64 o.parent, .str o.name, .str o.data]
def encOs (l : List Gw.Op.Op) : List (List V) := l.map cellsO
theorem encOs_get {l : List Gw.Op.Op} {k : Nat} (hk : k < l.length) : (encOs l)[k]? = some (cellsO l[k]) := by unfold encOs; rw [List.getElem?_map, List.getElem?_eq_getElem hk]; rfl
theorem encOs_len (l : List Gw.Op.Op) : (encOs l).length = l.length := by simp [encOs]
end Go.Proofs.Ytkflmicpifohhaa
