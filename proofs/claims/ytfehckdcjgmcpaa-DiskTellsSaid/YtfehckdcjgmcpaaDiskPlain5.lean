/- Plain laws of disks: what a crash keeps. -/
import Derived.Test.YtfehckdcjgmcpaaDiskPlain4
namespace Gw.Disk
theorem crashed_congr (p q : ByteArray) (ps : List (Int × ByteArray)) (k : Nat) (l : List UInt8) (h : ∀ i, i < k → pickOf p i = pickOf q i) : crashed p ps k l = crashed q ps k l := by
  induction k with
  | zero => rfl
  | succ k ih => rw [crashed_succ, crashed_succ, ih (fun i hi => h i (by omega)), h k (by omega)]
theorem crash_congr (d : Disk) (p q : ByteArray) (h : ∀ i, i < d.loose.length → pickOf p i = pickOf q i) : crash d p = crash d q := by
  unfold crash
  rw [crashed_congr p q _ _ _ h]
theorem pickOf_list (p : ByteArray) (i : Nat) : pickOf p i = if i < p.data.toList.length then (p.data.toList.getD i 0).toNat % 3 else 0 := rfl
theorem keep_one {d : Disk} (hc : check d = true) (l : List UInt8) (p : Int × ByteArray) (hp : p ∈ d.loose) : keep l p 1 = lay 0 d.size.toNat l p := by
  have hs := (check_spec hc).2.2.2 p hp
  unfold keep lay
  rw [if_pos rfl, if_pos (by omega), Nat.sub_zero]
theorem crashed_all {d : Disk} (hc : check d = true) (q : ByteArray) (k : Nat) (hk : k ≤ d.loose.length) (h : ∀ i, i < k → pickOf q i = 1) (l : List UInt8) : crashed q d.loose k l = (d.loose.take k).foldl (lay 0 d.size.toNat) l := by
  induction k with
  | zero => rfl
  | succ k ih =>
    have hget : d.loose.getD k (0, ByteArray.empty) = d.loose[k] := by rw [List.getD_eq_getElem?_getD, List.getElem?_eq_getElem (by omega)]; rfl
    rw [crashed_succ, ih (by omega) (fun i hi => h i (by omega)), h k (by omega), hget, keep_one hc _ _ (List.getElem_mem _), List.take_succ_eq_append_getElem (by omega), List.foldl_append]
    rfl
theorem crash_all {d : Disk} (hc : check d = true) (q : ByteArray) (hq : q.data.toList = List.replicate d.loose.length 1) : crash d q = flush d := by
  have hs := check_spec hc
  have hfl := firm_length hc
  have h1 : ∀ i, i < d.loose.length → pickOf q i = 1 := fun i hi => by
    rw [pickOf_list, hq, if_pos (by simpa using hi), List.getD_eq_getElem?_getD, List.getElem?_eq_getElem (by simpa using hi)]
    simp
  rw [crash, if_pos hc, flush, if_pos hc, crashed_all hc q _ (Nat.le_refl _) h1, List.take_length]
  unfold seen
  rw [Nat.zero_mul, List.drop_zero, List.take_of_length_le (by omega)]
theorem crash_none {d : Disk} (hc : check d = true) (q : ByteArray) (hq : q.data.toList = []) : crash d q = ⟨d.size, d.firm, []⟩ := by
  rw [crash, if_pos hc]
  have h1 : ∀ k, crashed q d.loose k d.firm.data.toList = d.firm.data.toList := by
    intro k
    induction k with
    | zero => rfl
    | succ k ih =>
      rw [crashed_succ, ih, pickOf_list, hq]
      rfl
  rw [h1]
theorem crash_longer {d : Disk} (p q more : ByteArray) (hq : q.data.toList = p.data.toList ++ List.replicate (d.loose.length - p.size) 0) : crash d (q ++ more) = crash d p := by
  have hp : p.data.toList.length = p.size := rfl
  refine crash_congr _ _ _ (fun i hi => ?_)
  have hql : (q ++ more).data.toList = p.data.toList ++ (List.replicate (d.loose.length - p.size) 0 ++ more.data.toList) := by
    rw [ByteArray.data_append, Array.toList_append, hq, List.append_assoc]
  rw [pickOf_list, pickOf_list, hql]
  by_cases h : i < p.data.toList.length
  · rw [if_pos h, if_pos (by rw [List.length_append]; omega), List.getD_eq_getElem?_getD, List.getD_eq_getElem?_getD, List.getElem?_append_left h]
  · rw [if_neg h, if_pos (by rw [List.length_append, List.length_append, List.length_replicate]; omega), List.getD_eq_getElem?_getD, List.getElem?_append_right (by omega), List.getElem?_append_left (by rw [List.length_replicate]; omega), List.getElem?_replicate, if_pos (by omega)]
    rfl
end Gw.Disk
namespace Gw.Disk
/-- Behind k of Loose each half of a sector is what was firm there, or that half of one of them. -/
def halfOk (ps : List (Int × ByteArray)) (f l : List UInt8) (k : Nat) (a h : Nat) : Prop := (l.drop (16 * a + h)).take 8 = (f.drop (16 * a + h)).take 8 ∨ ∃ i, i < k ∧ ∃ p, ps[i]? = some p ∧ p.1 = (a : Int) ∧ (l.drop (16 * a + h)).take 8 = (p.2.data.toList.drop h).take 8
theorem over_take (l t : List UInt8) (i m n : Nat) (h : i + t.length ≤ l.length) (ho : m + n ≤ i ∨ i + t.length ≤ m) : ((over l i t).drop m).take n = (l.drop m).take n := by
  apply List.ext_getElem?
  intro j
  rw [List.getElem?_take, List.getElem?_take]
  split
  · rw [List.getElem?_drop, List.getElem?_drop, over_get _ _ _ _ h, if_neg (by omega)]
  · rfl
theorem over_in (l t : List UInt8) (i c n : Nat) (h : i + t.length ≤ l.length) (hc : c + n ≤ t.length) : ((over l i t).drop (i + c)).take n = (t.drop c).take n := by
  apply List.ext_getElem?
  intro j
  rw [List.getElem?_take, List.getElem?_take]
  split
  · rw [List.getElem?_drop, List.getElem?_drop, over_get _ _ _ _ h, if_pos (by omega)]
    congr 1
    omega
  · rfl
theorem crash_halves {d : Disk} (hc : check d = true) (picks : ByteArray) : ∀ k, k ≤ d.loose.length → ∀ a : Nat, (a : Int) < d.size → halfOk d.loose d.firm.data.toList (crashed picks d.loose k d.firm.data.toList) k a 0 ∧ halfOk d.loose d.firm.data.toList (crashed picks d.loose k d.firm.data.toList) k a 8 := by
  have hs := check_spec hc
  have hfl := firm_length hc
  intro k
  induction k with
  | zero => intro _ a _; exact ⟨.inl rfl, .inl rfl⟩
  | succ k ih =>
    intro hk a ha
    have ih := ih (by omega) a ha
    have hget : d.loose.getD k (0, ByteArray.empty) = d.loose[k] := by rw [List.getD_eq_getElem?_getD, List.getElem?_eq_getElem (by omega)]; rfl
    have hp := hs.2.2.2 _ (List.getElem_mem (show k < d.loose.length by omega))
    have hpk : d.loose[k]? = some d.loose[k] := List.getElem?_eq_getElem (by omega)
    have hl : (crashed picks d.loose k d.firm.data.toList).length = d.size.toNat * 16 := by
      rw [crashed_length _ _ _ _ (fun i hi => ?_), hfl]
      have hg : d.loose.getD i (0, ByteArray.empty) = d.loose[i] := by rw [List.getD_eq_getElem?_getD, List.getElem?_eq_getElem (by omega)]; rfl
      have h2 := hs.2.2.2 _ (List.getElem_mem (show i < d.loose.length by omega))
      rw [hg]
      omega
    rw [crashed_succ, hget]
    generalize crashed picks d.loose k d.firm.data.toList = l at *
    generalize d.loose[k] = p at *
    have hpl : p.2.data.toList.length = 16 := hp.2.2
    have keepIt : ∀ l', (∀ h, (h = 0 ∨ h = 8) → (l'.drop (16 * a + h)).take 8 = (l.drop (16 * a + h)).take 8 ∨ (p.1 = (a : Int) ∧ (l'.drop (16 * a + h)).take 8 = (p.2.data.toList.drop h).take 8)) → halfOk d.loose d.firm.data.toList l' (k + 1) a 0 ∧ halfOk d.loose d.firm.data.toList l' (k + 1) a 8 := by
      intro l' hh
      have one : ∀ h, (h = 0 ∨ h = 8) → halfOk d.loose d.firm.data.toList l k a h → halfOk d.loose d.firm.data.toList l' (k + 1) a h := by
        intro h h08 hok
        rcases hh h h08 with e | ⟨e1, e2⟩
        · rcases hok with e3 | ⟨i, hi, q, hq, hqa, e3⟩
          · exact .inl (e.trans e3)
          · exact .inr ⟨i, by omega, q, hq, hqa, e.trans e3⟩
        · exact .inr ⟨k, by omega, p, hpk, e1, e2⟩
      exact ⟨one 0 (.inl rfl) ih.1, one 8 (.inr rfl) ih.2⟩
    refine keepIt _ (fun h h08 => ?_)
    unfold keep
    split
    · by_cases hpa : p.1 = (a : Int)
      · refine .inr ⟨hpa, ?_⟩
        rw [show 16 * a + h = p.1.toNat * 16 + h from by omega]
        exact over_in _ _ _ _ _ (by omega) (by omega)
      · refine .inl (over_take _ _ _ _ _ (by omega) (by omega))
    · split
      · have ht : (p.2.data.toList.take 8).length = 8 := by rw [List.length_take]; omega
        by_cases hpa : p.1 = (a : Int)
        · rcases h08 with rfl | rfl
          · refine .inr ⟨hpa, ?_⟩
            have := over_in l (p.2.data.toList.take 8) (p.1.toNat * 16) 0 8 (by omega) (by omega)
            rw [show 16 * a + 0 = p.1.toNat * 16 + 0 from by omega, this, List.drop_zero, List.drop_zero, List.take_take]
            rfl
          · exact .inl (over_take _ _ _ _ _ (by omega) (by omega))
        · exact .inl (over_take _ _ _ _ _ (by omega) (by omega))
      · exact .inl rfl
end Gw.Disk
