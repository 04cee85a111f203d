/- Plain laws of disks: what a crash keeps. -/
import Derived.Test.YtfehckdcjgmcpaaDiskPlain4
namespace Gw.Disk
theorem crashed_congr (p q : ByteArray) (ps : List (Int × ByteArray)) (k : Nat) (l : List UInt8) (h : ∀ i, i < k → pickOf p i = pickOf q i) : crashed p ps k l = crashed q ps k l := by
  induction k with
  | zero => rfl
  | succ k ih => rw [crashed_succ, crashed_succ, ih (fun i hi => h i (by omega)), h k (by omega)]
theorem crash_congr (d : Disk) (p q : ByteArray) (h : ∀ i, i < d.loose.length → pickOf p i = pickOf q i) : crash d p = crash d q := by
  unfold crash
  rw [crashed_congr p q _ _ _ h]
theorem pickOf_list (p : ByteArray) (i : Nat) : pickOf p i = if i < p.data.toList.length then (p.data.toList.getD i 0).toNat % 3 else 0 := rfl
theorem keep_one {d : Disk} (hc : check d = true) (l : List UInt8) (p : Int × ByteArray) (hp : p ∈ d.loose) : keep l p 1 = lay 0 d.size.toNat l p := by
  have hs := (check_spec hc).2.2.2 p hp
  unfold keep lay
  rw [if_pos rfl, if_pos (by omega), Nat.sub_zero]
theorem crashed_all {d : Disk} (hc : check d = true) (q : ByteArray) (k : Nat) (hk : k ≤ d.loose.length) (h : ∀ i, i < k → pickOf q i = 1) (l : List UInt8) : crashed q d.loose k l = (d.loose.take k).foldl (lay 0 d.size.toNat) l := by
  induction k with
  | zero => rfl
  | succ k ih =>
    have hget : d.loose.getD k (0, ByteArray.empty) = d.loose[k] := by rw [List.getD_eq_getElem?_getD, List.getElem?_eq_getElem (by omega)]; rfl
    rw [crashed_succ, ih (by omega) (fun i hi => h i (by omega)), h k (by omega), hget, keep_one hc _ _ (List.getElem_mem _), List.take_succ_eq_append_getElem (by omega), List.foldl_append]
    rfl
theorem crash_all {d : Disk} (hc : check d = true) (q : ByteArray) (hq : q.data.toList = List.replicate d.loose.length 1) : crash d q = flush d := by
  have hs := check_spec hc
  have hfl := firm_length hc
  have h1 : ∀ i, i < d.loose.length → pickOf q i = 1 := fun i hi => by
    rw [pickOf_list, hq, if_pos (by simpa using hi), List.getD_eq_getElem?_getD, List.getElem?_eq_getElem (by simpa using hi)]
    simp
  rw [crash, if_pos hc, flush, if_pos hc, crashed_all hc q _ (Nat.le_refl _) h1, List.take_length]
  unfold seen
  rw [Nat.zero_mul, List.drop_zero, List.take_of_length_le (by omega)]
theorem crash_none {d : Disk} (hc : check d = true) (q : ByteArray) (hq : q.data.toList = []) : crash d q = ⟨d.size, d.firm, []⟩ := by
  rw [crash, if_pos hc]
  have h1 : ∀ k, crashed q d.loose k d.firm.data.toList = d.firm.data.toList := by
    intro k
    induction k with
    | zero => rfl
    | succ k ih =>
      rw [crashed_succ, ih, pickOf_list, hq]
      rfl
  rw [h1]
theorem crash_longer {d : Disk} (p q more : ByteArray) (hq : q.data.toList = p.data.toList ++ List.replicate (d.loose.length - p.size) 0) : crash d (q ++ more) = crash d p := by
  have hp : p.data.toList.length = p.size := rfl
  refine crash_congr _ _ _ (fun i hi => ?_)
  have hql : (q ++ more).data.toList = p.data.toList ++ (List.replicate (d.loose.length - p.size) 0 ++ more.data.toList) := by
    rw [ByteArray.data_append, Array.toList_append, hq, List.append_assoc]
  rw [pickOf_list, pickOf_list, hql]
  by_cases h : i < p.data.toList.length
  · rw [if_pos h, if_pos (by rw [List.length_append]; omega), List.getD_eq_getElem?_getD, List.getD_eq_getElem?_getD, List.getElem?_append_left h]
  · rw [if_neg h, if_pos (by rw [List.length_append, List.length_append, List.length_replicate]; omega), List.getD_eq_getElem?_getD, List.getElem?_append_right (by omega), List.getElem?_append_left (by rw [List.length_replicate]; omega), List.getElem?_replicate, if_pos (by omega)]
    rfl
end Gw.Disk
