/- What the functions of the package op that put an operation compute: told without addresses. No claim of its own. -/
import Derived.Test.YtjfnelgmagmgoaaAStamp
import Derived.Test.YtjfnelgmagmgoaaAName
import Derived.Test.YtjfnelgmagmgoaaAVlq
import Derived.Test.YtjfnelgmagmgoaaOpFn
namespace Go.Proofs.Ytjfnelgmagmgoaa
open Go.Am

def encO (o : Gw.Op.Op) : V := .agg [.int .i64 o.at_.c, .int .i64 o.at_.r, .int .i64 o.kind, .int .i64 o.node, .int .i64 o.parent, .str o.name, .str o.data]
def kindV (o : Gw.Op.Op) : V := if o.kind = 1 then .iface 62 (encO o) else if o.kind = 2 then .iface 83 (encO o) else .nili
/-- Numbers, and texts, of an operation that can be. -/
structure Fine (o : Gw.Op.Op) : Prop where
  node : I64 o.node
  parent : I64 o.parent
  name : o.name.length ≤ 1048576
  data : o.data.length ≤ 1048576

theorem fin_agg {σ : St} {cs : List V} (h : pureAll cs = true) : Am.Fin σ (.agg cs) (.agg (forgetAll cs)) :=
  .agg (forgetAll_len cs).symm fun i x y hx hy => by
    obtain ⟨z, h1, rfl⟩ := forgetAll_get hy
    rw [hx] at h1
    cases h1
    exact .pure (pureAll_get h i x hx)

theorem kindOf_pc (o : Gw.Op.Op) : PC Try.prog 29 [encO o] (kindV o) := by
  unfold kindV
  refine PC.of tabOk mixed (fn := Try.f29) (by kernel_rfl) rfl (by kernel_rfl) rfl rfl ?_
  conv => whnf
  refine ⟨fun h => ?_, fun h => ?_⟩
  · have h : o.kind = 1 := by simpa using h
    rw [if_pos h]
    conv => whnf
    exact .iface (fin_agg (cs := [.int .i64 o.at_.c, .int .i64 o.at_.r, .int .i64 o.kind, .int .i64 o.node, .int .i64 o.parent, .str o.name, .str o.data]) rfl)
  · have h : ¬ o.kind = 1 := by simpa using h
    rw [if_neg h]
    conv => whnf
    refine ⟨fun h2 => ?_, fun h2 => ?_⟩
    · have h2 : o.kind = 2 := by simpa using h2
      rw [if_pos h2]
      conv => whnf
      exact .iface (fin_agg (cs := [.int .i64 o.at_.c, .int .i64 o.at_.r, .int .i64 o.kind, .int .i64 o.node, .int .i64 o.parent, .str o.name, .str o.data]) rfl)
    · have h2 : ¬ o.kind = 2 := by simpa using h2
      rw [if_neg h2]
      conv => whnf

theorem fitsMove_pc (o : Gw.Op.Op) (hf : Fine o) : PC Try.prog 68 [encO o] (.bool (Gw.Op.fitsMove o)) := by
  have h1 := of_pc o.node hf.node
  have h2 := dir_pc o.parent hf.parent
  have h3 := later_pc o.at_ o.parent hf.parent
  have h4 := nameCheck_pc o.name hf.name
  unfold Gw.Op.fitsMove
  refine PC.of tabOk mixed (fn := Try.f68) (by kernel_rfl) rfl (by kernel_rfl) rfl rfl ?_
  conv => whnf
  refine AC.of_pc h1 rfl ?_
  conv => whnf
  refine ⟨fun q => ?_, fun q => ?_⟩
  · rw [q]
    conv => whnf
    refine AC.of_pc h2 rfl ?_
    conv => whnf
    refine ⟨fun q => ?_, fun q => ?_⟩
    · rw [q]
      conv => whnf
      refine AC.of_pc h3 rfl ?_
      conv => whnf
      refine ⟨fun q => ?_, fun q => ?_⟩
      · rw [q]
        conv => whnf
        refine AC.of_pc h4 rfl ?_
        conv => whnf
        refine ⟨fun q => ?_, fun q => ?_⟩
        · rw [q]
          conv => whnf
          rfl
        · rw [q]
          conv => whnf
          rfl
      · rw [q]
        conv => whnf
        rfl
    · rw [q]
      conv => whnf
      rfl
  · rw [q]
    conv => whnf
    rfl

theorem fitsWrite_pc (o : Gw.Op.Op) (hf : Fine o) : PC Try.prog 80 [encO o] (.bool (Gw.Op.fitsWrite o)) := by
  have h1 := of_pc o.node hf.node
  unfold Gw.Op.fitsWrite
  refine PC.of tabOk mixed (fn := Try.f80) (by kernel_rfl) rfl (by kernel_rfl) rfl rfl ?_
  conv => whnf
  refine AC.of_pc h1 rfl ?_
  conv => whnf
  refine ⟨fun q => ?_, fun q => ?_⟩
  · rw [q]
    conv => whnf
    refine ⟨fun q => ?_, fun q => ?_⟩
    · rw [q]
      conv => whnf
      refine ⟨fun q => ?_, fun q => ?_⟩
      · have q : o.data.length ≤ 64 := by have := of_decide_eq_true q; omega
        rw [decide_eq_true q]
        conv => whnf
        refine ⟨fun q => ?_, fun q => ?_⟩
        · have q : o.parent = 0 := by simpa using q
          rw [decide_eq_true q]
          conv => whnf
          rfl
        · have q : ¬ o.parent = 0 := by simpa using q
          rw [decide_eq_false q]
          conv => whnf
          rfl
      · have q : ¬ o.data.length ≤ 64 := by have := of_decide_eq_false q; omega
        rw [decide_eq_false q]
        conv => whnf
        rfl
    · rw [q]
      conv => whnf
      rfl
  · rw [q]
    conv => whnf
    rfl
theorem opCheck_pc (o : Gw.Op.Op) (hf : Fine o) : PC Try.prog 19 [encO o] (.bool (Gw.Op.check o)) := by
  have h0 := kindOf_pc o
  have h1 := stampCheck_pc o.at_
  have h2 := later_pc o.at_ o.node hf.node
  unfold kindV at h0
  unfold Gw.Op.check
  by_cases k1 : o.kind = 1
  · rw [if_pos k1] at h0 ⊢
    have h3 := fitsMove_pc o hf
    refine PC.of tabOk mixed (fn := Try.f19) (by kernel_rfl) rfl (by kernel_rfl) rfl rfl ?_
    conv => whnf
    refine AC.of_pc h0 rfl ?_
    conv => whnf
    refine ⟨fun _ => ?_, fun h => absurd h (by decide)⟩
    conv => whnf
    refine AC.of_pc h1 rfl ?_
    conv => whnf
    refine ⟨fun q => ?_, fun q => ?_⟩
    · rw [q]
      conv => whnf
      refine AC.of_pc h2 rfl ?_
      conv => whnf
      refine ⟨fun q => ?_, fun q => ?_⟩
      · rw [q]
        conv => whnf
        refine ⟨68, by kernel_rfl, AC.of_pc h3 rfl ?_⟩
        conv => whnf
        rfl
      · rw [q]
        conv => whnf
        rfl
    · rw [q]
      conv => whnf
      rfl
  · rw [if_neg k1] at h0 ⊢
    by_cases k2 : o.kind = 2
    · rw [if_pos k2] at h0 ⊢
      have h3 := fitsWrite_pc o hf
      refine PC.of tabOk mixed (fn := Try.f19) (by kernel_rfl) rfl (by kernel_rfl) rfl rfl ?_
      conv => whnf
      refine AC.of_pc h0 rfl ?_
      conv => whnf
      refine ⟨fun _ => ?_, fun h => absurd h (by decide)⟩
      conv => whnf
      refine AC.of_pc h1 rfl ?_
      conv => whnf
      refine ⟨fun q => ?_, fun q => ?_⟩
      · rw [q]
        conv => whnf
        refine AC.of_pc h2 rfl ?_
        conv => whnf
        refine ⟨fun q => ?_, fun q => ?_⟩
        · rw [q]
          conv => whnf
          refine ⟨80, by kernel_rfl, AC.of_pc h3 rfl ?_⟩
          conv => whnf
          rfl
        · rw [q]
          conv => whnf
          rfl
      · rw [q]
        conv => whnf
        rfl
    · rw [if_neg k2] at h0 ⊢
      refine PC.of tabOk mixed (fn := Try.f19) (by kernel_rfl) rfl (by kernel_rfl) rfl rfl ?_
      conv => whnf
      refine AC.of_pc h0 rfl ?_
      conv => whnf
      refine ⟨fun h => absurd h (by decide), fun _ => ?_⟩
      conv => whnf

theorem opLess_pc (a b : Gw.Op.Op) : PC Try.prog 21 [encO a, encO b] (.bool (Gw.Stamp.less a.at_ b.at_)) := by
  have h := less_pc a.at_ b.at_
  refine PC.of tabOk mixed (fn := Try.f21) (by kernel_rfl) rfl (by kernel_rfl) rfl rfl ?_
  conv => whnf
  refine AC.of_pc h rfl ?_
  conv => whnf

theorem one_len (n : Nat) (h : n < 9223372036854775808) : (Gw.Vlq.one n).length ≤ 9 := by
  have h1 := oneS_size n h
  have h2 := Gw.Vlq.size_le9 n h
  have h3 : (oneS n).size = (Gw.Vlq.one n).length := rfl
  omega
theorem many_len (zs : List Nat) (h : ∀ z ∈ zs, z < 9223372036854775808) : (Gw.Vlq.many zs).length ≤ 9 * zs.length := by
  induction zs with
  | nil => simp [Gw.Vlq.many]
  | cons z zs ih =>
    have h1 := one_len z (h z (by simp))
    have h2 := ih (fun x hx => h x (by simp [hx]))
    have e : Gw.Vlq.many (z :: zs) = Gw.Vlq.one z ++ Gw.Vlq.many zs := rfl
    rw [e, List.length_append, List.length_cons]
    omega

theorem tailMove_pc (o : Gw.Op.Op) (b : List UInt8) (hp : 0 ≤ o.parent ∧ o.parent < 134217856) (hb : b.length ≤ 100000000) (hn : o.name.length ≤ 1048576) : PC Try.prog 69 [encO o, .str b] (.str (Gw.Vlq.text (b ++ Gw.Vlq.many [o.parent.toNat]) o.name)) := by
  have h1 := vput_pc b false [o.parent] (fun z hz => by rw [List.mem_singleton] at hz; omega) (by simp; omega)
  have h2 := vtext_pc (b ++ Gw.Vlq.many [o.parent.toNat]) o.name (by
    have := many_len [o.parent.toNat] (fun z hz => by rw [List.mem_singleton] at hz; omega)
    rw [List.length_append]
    simp only [List.length_singleton] at this
    omega)
  refine PC.of tabOk mixed (fn := Try.f69) (by kernel_rfl) rfl (by kernel_rfl) rfl rfl ?_
  conv => whnf
  refine AC.of_pc h1 rfl ?_
  conv => whnf
  refine AC.of_pc h2 rfl ?_
  conv => whnf
theorem tailWrite_pc (o : Gw.Op.Op) (b : List UInt8) (hb : b.length ≤ 100000000) (hn : o.data.length ≤ 1048576) : PC Try.prog 81 [encO o, .str b] (.str (Gw.Vlq.text b o.data)) := by
  have h2 := vtext_pc b o.data (by omega)
  refine PC.of tabOk mixed (fn := Try.f81) (by kernel_rfl) rfl (by kernel_rfl) rfl rfl ?_
  conv => whnf
  refine AC.of_pc h2 rfl ?_
  conv => whnf

theorem opPut_pc (b : List UInt8) (o : Gw.Op.Op) (hf : Fine o) (hb : b.length ≤ 10000000) : PC Try.prog 11 [.str b, encO o] (.tup [.str (Gw.Op.put b o), .int .i64 (Gw.Op.putErr o)]) := by
  have h0 := opCheck_pc o hf
  unfold Gw.Op.put Gw.Op.putErr
  cases hc : Gw.Op.check o with
  | false =>
    rw [hc] at h0
    rw [if_neg (by decide), if_neg (by decide)]
    refine PC.of tabOk mixed (fn := Try.f11) (by kernel_rfl) rfl (by kernel_rfl) rfl rfl ?_
    conv => whnf
    refine AC.of_pc h0 rfl ?_
    conv => whnf
    refine ⟨fun _ => ?_, fun h => absurd h (by decide)⟩
    conv => whnf
  | true =>
    rw [hc] at h0
    obtain ⟨b1, b2, b3, b4, b5⟩ := Gw.Op.check_bounds hc
    rw [if_pos rfl, if_pos rfl]
    have h1 := vput_pc b false [o.at_.c, o.at_.r, o.kind, o.node] (fun z hz => by
      simp only [List.mem_cons, List.not_mem_nil, or_false] at hz
      rcases hz with rfl | rfl | rfl | rfl <;> omega) (by simp; omega)
    have h2 := kindOf_pc o
    have hm : (Gw.Vlq.many ([o.at_.c, o.at_.r, o.kind, o.node].map Int.toNat)).length ≤ 36 := many_len _ (fun z hz => by
      simp only [List.map_cons, List.map_nil, List.mem_cons, List.not_mem_nil, or_false] at hz
      rcases hz with rfl | rfl | rfl | rfl <;> omega)
    have hh : Gw.Op.head o = Gw.Vlq.many ([o.at_.c, o.at_.r, o.kind, o.node].map Int.toNat) := rfl
    unfold kindV at h2
    by_cases k1 : o.kind = 1
    · rw [if_pos k1] at h2
      have h3 := tailMove_pc o (b ++ Gw.Vlq.many ([o.at_.c, o.at_.r, o.kind, o.node].map Int.toNat)) b5 (by rw [List.length_append]; omega) hf.name
      have hbytes : b ++ Gw.Op.bytes o = Gw.Vlq.text (b ++ Gw.Vlq.many ([o.at_.c, o.at_.r, o.kind, o.node].map Int.toNat) ++ Gw.Vlq.many [o.parent.toNat]) o.name := by
        unfold Gw.Op.bytes
        rw [if_pos k1, hh]
        simp only [Gw.Vlq.text, List.append_assoc]
      refine PC.of tabOk mixed (fn := Try.f11) (by kernel_rfl) rfl (by kernel_rfl) rfl rfl ?_
      conv => whnf
      refine AC.of_pc h0 rfl ?_
      conv => whnf
      refine ⟨fun h => absurd h (by decide), fun _ => ?_⟩
      conv => whnf
      refine AC.of_pc h1 rfl ?_
      conv => whnf
      refine AC.of_pc h2 rfl ?_
      conv => whnf
      refine ⟨69, by kernel_rfl, AC.of_pc h3 rfl ?_⟩
      conv => whnf
      rw [hbytes]
    · have k2 : o.kind = 2 := by omega
      rw [if_neg k1, if_pos k2] at h2
      have h3 := tailWrite_pc o (b ++ Gw.Vlq.many ([o.at_.c, o.at_.r, o.kind, o.node].map Int.toNat)) (by rw [List.length_append]; omega) hf.data
      have hbytes : b ++ Gw.Op.bytes o = Gw.Vlq.text (b ++ Gw.Vlq.many ([o.at_.c, o.at_.r, o.kind, o.node].map Int.toNat)) o.data := by
        unfold Gw.Op.bytes
        rw [if_neg k1, hh]
        simp only [Gw.Vlq.text, List.append_assoc]
      refine PC.of tabOk mixed (fn := Try.f11) (by kernel_rfl) rfl (by kernel_rfl) rfl rfl ?_
      conv => whnf
      refine AC.of_pc h0 rfl ?_
      conv => whnf
      refine ⟨fun h => absurd h (by decide), fun _ => ?_⟩
      conv => whnf
      refine AC.of_pc h1 rfl ?_
      conv => whnf
      refine AC.of_pc h2 rfl ?_
      conv => whnf
      refine ⟨81, by kernel_rfl, AC.of_pc h3 rfl ?_⟩
      conv => whnf
      rw [hbytes]
end Go.Proofs.Ytjfnelgmagmgoaa
