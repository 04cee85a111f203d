/- What strings.Join computes, between marks: told without addresses. No claim of its own. -/
import Derived.Test.YtgbahdoiogcpiaaDoorABld2
import Derived.Test.YtgbahdoiogcpiaaDoorAStr
namespace Go.Proofs.YtgbahdoiogcpiaaDoor
open Go.RowKit Go.Am

def lensT (l : List (List UInt8)) : Nat := (l.map List.length).sum
theorem lensT_succ {l : List (List UInt8)} {k : Nat} (h : k < l.length) : lensT (l.take (k + 1)) = lensT (l.take k) + l[k].length := by
  unfold lensT
  rw [List.take_succ_eq_append_getElem h, List.map_append, List.sum_append]; rfl
theorem lensT_le {l : List (List UInt8)} (hs : ∀ t ∈ l, t.length ≤ 1048576) : lensT l ≤ l.length * 1048576 := by
  induction l with
  | nil => simp [lensT]
  | cons a l ih =>
    have h1 := ih (fun t ht => hs t (by simp [ht]))
    have h2 := hs a (by simp)
    unfold lensT at h1 ⊢
    simp only [List.map_cons, List.sum_cons, List.length_cons]
    omega
def glT (l : List (List UInt8)) : List UInt8 := (l.map fun y => 47 :: y).flatten
theorem glT_succ {l : List (List UInt8)} {k : Nat} (h : k < l.length) : glT (l.take (k + 1)) = glT (l.take k) ++ [47] ++ l[k] := by
  unfold glT
  rw [List.take_succ_eq_append_getElem h, List.map_append, List.flatten_append, List.append_assoc]; simp only [List.map_cons, List.map_nil, List.flatten_cons, List.flatten_nil, List.append_nil]; rfl
theorem encT_get {l : List (List UInt8)} {k : Nat} (h : k < l.length) : (encT l)[k]? = some [.str l[k]] := by unfold encT; rw [List.getElem?_map, List.getElem?_eq_getElem h]; rfl
theorem glT_len {l : List (List UInt8)} : (glT l).length = l.length + lensT l := by
  induction l with
  | nil => rfl
  | cons a l ih =>
    unfold glT lensT at ih ⊢
    simp only [List.map_cons, List.flatten_cons, List.length_append, List.length_cons, List.sum_cons, ih]
    omega

theorem join_pc (nil : Bool) (l : List (List UInt8)) (hl : l.length ≤ 1000) (hs : ∀ t ∈ l, t.length ≤ 1048576) : PC Tryd.prog 27 [.lst nil 1 (encT l) .none, .str [47]] (.str (Gw.Name.glue l)) := by
  have hel : (encT l).length = l.length := by simp [encT]
  refine PC.of tabOk mixed (fn := Tryd.f27) (by kernel_rfl) rfl (by kernel_rfl) rfl rfl ?_
  match l, hl, hs, hel with
  | [], _, _, _ =>
    conv => whnf
    refine ⟨fun _ => ?_, fun h => absurd h (by decide)⟩
    conv => whnf
    rfl
  | [x], _, _, _ =>
    conv => whnf
    refine ⟨fun h => absurd (show ((1 : Int) == 0) = true from h) (by decide), fun _ => ?_⟩
    conv => whnf
    refine ⟨fun _ => ?_, fun h => absurd (show ((1 : Int) == 1) = false from h) (by decide)⟩
    conv => whnf
    refine ⟨_, ⟨by decide, rfl⟩, ?_⟩
    conv => whnf
    simp [Gw.Name.glue]
  | x :: y :: r, hl, hs, hel =>
    generalize hr : y :: r = r' at *
    have hr1 : 1 ≤ r'.length := by subst hr; simp
    have hlc : (encT (x :: r')).length = r'.length + 1 := by rw [hel]; rfl
    have hll : r'.length ≤ 1000 := by have : r'.length + 1 ≤ 1000 := hl; omega
    have hcast : ((encT (x :: r')).length : Int) = (r'.length : Int) + 1 := by rw [hlc]; rfl
    conv => whnf
    refine ⟨fun h => ?_, fun _ => ?_⟩
    · have h : (((encT (x :: r')).length : Int) == 0) = true := h
      simp only [beq_iff_eq] at h
      omega
    conv => whnf
    refine ⟨fun h => ?_, fun _ => ?_⟩
    · have h : (((encT (x :: r')).length : Int) == 1) = true := h
      simp only [beq_iff_eq] at h
      omega
    conv => whnf
    refine ⟨fun _ => ?_, fun h => absurd h (by decide)⟩
    conv => whnf
    obtain ⟨q, hq⟩ : ∃ q, r'.length = q + 1 := ⟨r'.length - 1, by omega⟩
    have wq : IntKind.i64.wrap (((encT (x :: r')).length : Int) - 1) = ((q + 1 : Nat) : Int) := by rw [hcast, w64 (by omega) (by omega)]; omega
    rw [wq]
    conv => whnf
    have hdv : IntKind.i64.wrap (Int.tdiv 9223372036854775807 ((q + 1 : Nat) : Int)) = ((9223372036854775807 / (q + 1) : Nat) : Int) := by
      have h1 := Nat.div_le_self 9223372036854775807 (q + 1)
      rw [show (9223372036854775807 : Int) = ((9223372036854775807 : Nat) : Int) from rfl, tdivN]
      generalize 9223372036854775807 / (q + 1) = d at h1
      exact w64 (by omega) (by omega)
    have hdg : 2 ≤ 9223372036854775807 / (q + 1) := by rw [Nat.le_div_iff_mul_le (by omega)]; omega
    refine ⟨fun h => ?_, fun _ => ?_⟩
    · have h := of_decide_eq_true h
      rw [hdv] at h
      have h : ((9223372036854775807 / (q + 1) : Nat) : Int) ≤ 1 := h
      omega
    have hT := lensT_le hs
    have hT' : lensT (x :: r') ≤ 1048576 * 1001 := Nat.le_trans hT (by rw [List.length_cons, Nat.mul_comm]; exact Nat.mul_le_mul_left _ (by omega))
    have hTk : ∀ k, lensT ((x :: r').take k) ≤ lensT (x :: r') := fun k => by
      unfold lensT
      have : x :: r' = (x :: r').take k ++ (x :: r').drop k := (List.take_append_drop k _).symm
      conv => rhs; rw [this, List.map_append, List.sum_append]
      omega
    have hkT : ∀ k (h : k < (x :: r').length), (x :: r')[k].length ≤ 1048576 := fun k h => hs _ (List.getElem_mem h)
    conv => whnf
    refine AW.loop (fun k : Nat => [(.tmp 0, .v (.lst nil 1 (encT (x :: r')) .none)), (.tmp 1, .v (.str [47])), (.tmp 5, .v (.int .i64 ((q + 1 + lensT ((x :: r').take k) : Nat) : Int))), (.tmp 39, .v (.lst nil 1 (encT (x :: r')) .none)), (.tmp 40, .v (.int .i64 ((q + 2 : Nat) : Int))), (.tmp 41, .v (.int .i64 k))])
      0 (fun k => k ≤ q + 2) (fun k => q + 2 - k) (by decide) 0 (Nat.zero_le _) ⟨rfl, rfl, rfl, rfl, ?_, rfl, rfl, rfl, ?_, rfl, rfl, rfl, trivial⟩ ?_
    · show C.v (V.int .i64 (IntKind.i64.wrap (0 + IntKind.i64.wrap ((([47] : List UInt8).length : Int) * IntKind.i64.wrap (((encT (x :: r')).length : Int) - 1))))) = C.v (V.int .i64 ((q + 1 + 0 : Nat) : Int))
      rw [wq]
      have e1 : (([47] : List UInt8).length : Int) * ((q + 1 : Nat) : Int) = ((q + 1 : Nat) : Int) := by simp
      rw [e1, w64 (x := ((q + 1 : Nat) : Int)) (by omega) (by omega), Int.zero_add, w64 (x := ((q + 1 : Nat) : Int)) (by omega) (by omega)]
    · show C.v (V.int .i64 ((encT (x :: r')).length : Int)) = _
      rw [hcast, hq]; rfl
    rintro k hk
    refine ev_sound tabOk mixed _ _ _ _ ?_
    conv => whnf
    refine ⟨fun h => ?_, fun h => ?_⟩
    · have h := of_decide_eq_true h
      have hlt : k < (x :: r').length := by rw [List.length_cons]; omega
      have hg := encT_get hlt
      have hsu := lensT_succ hlt
      have hk1 := hTk k
      have hk2 := hkT k hlt
      conv => whnf
      refine ⟨_, ⟨by omega, hg⟩, ?_⟩
      conv => whnf
      refine ⟨fun h => ?_, fun _ => ?_⟩
      · have h := of_decide_eq_true h
        rw [w64 (by omega) (by omega)] at h
        omega
      conv => whnf
      refine ⟨k + 1, by show k + 1 ≤ _; omega, by show q + 2 - (k + 1) < q + 2 - k; omega, rfl, rfl, rfl, rfl, ?_, rfl, rfl, rfl, rfl, rfl, ?_, rfl, trivial⟩
      · show C.v (V.int .i64 (IntKind.i64.wrap (((q + 1 + lensT ((x :: r').take k) : Nat) : Int) + ((x :: r')[k].length : Int)))) = C.v (V.int .i64 ((q + 1 + lensT ((x :: r').take (k + 1)) : Nat) : Int))
        rw [w64 (by omega) (by omega), hsu]
        congr 2; omega
      · show C.v (V.int .i64 (IntKind.i64.wrap ((k : Int) + 1))) = C.v (V.int .i64 ((k + 1 : Nat) : Int))
        rw [w64 (by omega) (by omega)]; rfl
    have h := of_decide_eq_false h
    have hke : k = (x :: r').length := by rw [List.length_cons]; omega
    rw [hke, List.take_length]
    conv => whnf
    refine AC.growB (e := 5) (enters_of (fn := Tryd.f37) (by kernel_rfl) rfl (by kernel_rfl)) rfl (fun w c hh => bld_grow (q + 1 + lensT (x :: r')) (by omega) (by omega) w c hh) ?_
    conv => whnf
    refine ⟨_, ⟨by decide, rfl⟩, ?_⟩
    conv => whnf
    refine AC.of tabOk mixed (fn := Tryd.f38) (by kernel_rfl) rfl (by kernel_rfl) rfl rfl ?_
    conv => whnf
    refine AC.selfPtr (enters_of (fn := Tryd.f48) (by kernel_rfl) rfl (by kernel_rfl)) rfl (.inr rfl) bld_copy ?_
    conv => whnf
    have hx := hs x (by simp)
    refine ⟨⟨rfl, fits_small (by show 0 + (x.map fun c => [V.int .u8 c.toNat]).length ≤ _; rw [List.length_map]; omega) (by decide)⟩, ?_⟩
    conv => whnf
    refine ⟨by show 0 ≤ (1 : Int) ∧ (1 : Int).toNat ≤ (encT (x :: r')).length; rw [hlc]; omega, ?_⟩
    conv => whnf
    have hwhole : ∀ k, (x ++ glT (r'.take k)).length ≤ 1048576 + (q + 1 + lensT (x :: r')) := fun k => by
      have h1 : lensT (r'.take k) ≤ lensT (x :: r') := by
        have := hTk (k + 1)
        rw [List.take_succ_cons] at this
        unfold lensT at this ⊢
        simp only [List.map_cons, List.sum_cons] at this ⊢
        omega
      rw [List.length_append, glT_len, List.length_take]
      omega
    refine AW.loop (fun k : Nat => [(.tmp 1, .v (.str [47])), (.tmp 8, .v (.ptr 1 0)), (.tmp 63, .v (.lst nil 1 (encT r') .none)), (.tmp 64, .v (.int .i64 ((q + 1 : Nat) : Int))), (.tmp 65, .v (.int .i64 k)), (.blk 1, .box 60 [.ptr 1 0, .lst false 1 (bytesL (x ++ glT (r'.take k))) (.brow 3)]), (.row 3, .row 5 1 (x ++ glT (r'.take k)).length)])
      4 (fun k => k ≤ q + 1) (fun k => q + 1 - k) (by decide) 0 (Nat.zero_le _) ⟨rfl, rfl, rfl, rfl, rfl, rfl, ?_, rfl, rfl, rfl, ?_, rfl, ?_, rfl, trivial⟩ ?_
    · show C.v (V.int .i64 (((encT (x :: r')).drop 1).length : Int)) = _
      rw [List.length_drop, hlc, hq]; rfl
    · show C.box _ [V.ptr 1 0, V.lst (false && _) 1 ([] ++ x.map fun c => [V.int .u8 c.toNat]) (.brow 3)] = C.box _ [V.ptr 1 0, V.lst false 1 (bytesL (x ++ [])) (.brow 3)]
      rw [List.append_nil, List.nil_append]; rfl
    · show C.row _ 1 (([] : List (List V)).length + (x.map fun c => [V.int .u8 c.toNat]).length) = C.row _ 1 (x ++ []).length
      rw [List.append_nil, List.length_map, List.length_nil, Nat.zero_add]
    rintro k hk
    have hb0 := hwhole k
    have hb1 := hwhole (k + 1)
    refine ev_sound tabOk mixed _ _ _ _ ?_
    conv => whnf
    refine ⟨fun h => ?_, fun h => ?_⟩
    · have h := of_decide_eq_true h
      have hlt : k < r'.length := by omega
      have hg := encT_get hlt
      have hsu := glT_succ hlt
      rw [hsu] at hb1
      simp only [List.length_append] at hb0 hb1
      have hb2 : ([47] : List UInt8).length = 1 := rfl
      conv => whnf
      refine ⟨_, ⟨by omega, hg⟩, ?_⟩
      conv => whnf
      refine AC.of tabOk mixed (fn := Tryd.f38) (by kernel_rfl) rfl (by kernel_rfl) rfl rfl ?_
      conv => whnf
      refine AC.selfPtr (enters_of (fn := Tryd.f48) (by kernel_rfl) rfl (by kernel_rfl)) rfl (.inr rfl) bld_copy ?_
      conv => whnf
      refine ⟨⟨(bytesL_len _).symm, fits_small (by rw [bytesL_len, List.length_map, List.length_append]; omega) (by decide)⟩, ?_⟩
      conv => whnf
      refine AC.of tabOk mixed (fn := Tryd.f38) (by kernel_rfl) rfl (by kernel_rfl) rfl rfl ?_
      conv => whnf
      refine AC.selfPtr (enters_of (fn := Tryd.f48) (by kernel_rfl) rfl (by kernel_rfl)) rfl (.inr rfl) bld_copy ?_
      conv => whnf
      refine ⟨⟨?_, fits_small ?_ (by decide)⟩, ?_⟩
      · exact (List.length_append).symm
      · show (bytesL (x ++ glT (r'.take k)) ++ _).length + _ ≤ _; rw [List.length_append, List.length_map, List.length_map, bytesL_len, List.length_append]; omega
      conv => whnf
      refine ⟨k + 1, by show k + 1 ≤ _; omega, by show q + 1 - (k + 1) < q + 1 - k; omega, rfl, rfl, rfl, rfl, rfl, rfl, rfl, rfl, ?_, rfl, ?_, rfl, ?_, rfl, trivial⟩
      · show C.v (V.int .i64 (IntKind.i64.wrap ((k : Int) + 1))) = C.v (V.int .i64 ((k + 1 : Nat) : Int))
        rw [w64 (by omega) (by omega)]; rfl
      · show C.box _ [V.ptr 1 0, V.lst false 1 (bytesL (x ++ glT (r'.take k)) ++ (([47] : List UInt8).map fun c => [V.int .u8 c.toNat]) ++ (r'[k].map fun c => [V.int .u8 c.toNat])) (.brow 3)] = C.box _ [V.ptr 1 0, V.lst false 1 (bytesL (x ++ glT (r'.take (k + 1)))) (.brow 3)]
        rw [hsu]
        congr 3
        unfold bytesL
        simp only [List.map_append, List.append_assoc]
      · show C.row _ 1 ((bytesL (x ++ glT (r'.take k)) ++ (([47] : List UInt8).map fun c => [V.int .u8 c.toNat])).length + (r'[k].map fun c => [V.int .u8 c.toNat]).length) = C.row _ 1 (x ++ glT (r'.take (k + 1))).length
        rw [hsu]
        congr 1
        simp only [List.length_append, List.length_map, bytesL_len]
        omega
    · have h := of_decide_eq_false h
      obtain rfl : k = q + 1 := by omega
      have hgl : Gw.Name.glue (x :: r') = x ++ glT r' := rfl
      rw [show r'.take (q + 1) = r' from List.take_of_length_le (by omega)] at hb0 ⊢
      rw [hgl]
      conv => whnf
      refine AC.unrow (e := 5) (enters_of (fn := Tryd.f39) (by kernel_rfl) rfl (by kernel_rfl)) (s := x ++ glT r') rfl rfl (fun e => ?_) (fun _ => bld_nil) (fun h0 => bld_text (x ++ glT r') h0 (by omega)) ?_
      · have := congrArg List.length e
        rw [List.length_append, glT_len, hq] at this
        simp at this
      conv => whnf
end Go.Proofs.YtgbahdoiogcpiaaDoor
