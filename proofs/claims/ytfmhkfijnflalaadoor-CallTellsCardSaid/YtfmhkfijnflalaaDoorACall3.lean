/- What call.Read and call.Write compute, and the lists' Same and Few: told without addresses. No claim of its own. -/
import Derived.Test.YtfmhkfijnflalaaDoorCallTake
import Derived.Test.YtfmhkfijnflalaaDoorCallLaw
import Derived.Test.YtfmhkfijnflalaaDoorABld
namespace Go.Proofs.YtfmhkfijnflalaaDoor
open Go.Am

def encKs (l : List Gw.Call.Call) : List (List V) := l.map cellsK
theorem encKs_get {l : List Gw.Call.Call} {k : Nat} (hk : k < l.length) : (encKs l)[k]? = some (cellsK l[k]) := by unfold encKs; rw [List.getElem?_map, List.getElem?_eq_getElem hk]; rfl
theorem encKs_len (l : List Gw.Call.Call) : (encKs l).length = l.length := by simp [encKs]
def readV (x : Option (List Gw.Call.Call)) : V := match x with
  | none => .tup [.lst true 5 [] .none, .int .i64 180]
  | some l => .tup [.lst (decide (l = [])) 5 (encKs l) .none, .int .i64 0]

theorem read_pc (b : List UInt8) (hb : b.length ≤ 1048576) : PC Tryd.prog 16 [.str b] (readV (Gw.Call.read b)) := by
  refine PC.ofS tabOk mixed (fn := Tryd.f16) (by kernel_rfl) rfl (by kernel_rfl) rfl rfl ?_
  conv => whnf
  refine AW.row 4 23 5 rfl rfl (.inr rfl) ?_
  refine AW.loop (X := List UInt8 × List Gw.Call.Call) (fun x => [(.tmp 0, .v (.str x.1)), (.tmp 4, .v (.lst (decide (x.2 = [])) 5 (encKs x.2) (.row 3))), (.row 3, .row 23 5 x.2.length)]) 4
    (fun x => x.1.length + x.2.length ≤ 1048576 ∧ ∃ f, x.1.length < f ∧ Gw.Call.read b = Gw.Call.readF f x.1 x.2) (fun x => x.1.length) (by decide) (b, []) ⟨by simpa using hb, b.length + 1, Nat.lt_succ_self _, rfl⟩ ⟨rfl, rfl, rfl, rfl, rfl, rfl, trivial⟩ ?_
  rintro ⟨rest, acc⟩ ⟨h1, f, hf, hr⟩
  simp only at h1 hf hr
  have htk := calltake_pc rest (by omega)
  have hal := encKs_len acc
  refine ev_sound tabOk mixed _ _ _ _ ?_
  conv => whnf
  refine ⟨fun h => ?_, fun h => ?_⟩
  · have h : rest ≠ [] := by
      have h : (!decide (rest = [])) = true := h
      simpa using h
    obtain ⟨f, rfl⟩ : ∃ g, f = g + 1 := ⟨f - 1, by omega⟩
    rw [Gw.Call.readF, if_neg h] at hr
    conv => whnf
    cases ht : Gw.Call.take rest with
    | none =>
      rw [ht] at htk hr
      simp only at hr
      rw [hr]
      refine AC.of_pc htk rfl ?_
      conv => whnf
      refine ⟨fun _ => ?_, fun h => absurd h (by decide)⟩
      conv => whnf
      exact SubV.tup (.cons (.nil _ _ _) (.cons (.of_eq rfl) .nil))
    | some oq =>
      obtain ⟨o, q⟩ := oq
      have hlen := Gw.Call.take_len ht
      rw [ht] at htk hr
      simp only at hr
      refine AC.of_pc htk rfl ?_
      conv => whnf
      refine ⟨fun h => absurd h (by decide), fun _ => ?_⟩
      conv => whnf
      refine ⟨⟨hal.symm, fits_small (by show (encKs acc).length + 1 ≤ _; omega) (by decide)⟩, ?_⟩
      conv => whnf
      refine ⟨(q, acc ++ [o]), ⟨by show q.length + (acc ++ [o]).length ≤ _; rw [List.length_append, List.length_singleton]; omega, f, by show q.length < f; omega, hr⟩, hlen, rfl, rfl, ?_, rfl, ?_, rfl, trivial⟩
      · show C.v (V.lst (decide (acc = []) && false) 5 (encKs acc ++ [cellsK o]) _) = C.v (V.lst (decide (acc ++ [o] = [])) 5 (encKs (acc ++ [o])) _)
        rw [Bool.and_false, decide_eq_false (by simp), encKs, encKs, List.map_append]
        rfl
      · show C.row _ 5 ((encKs acc).length + 1) = C.row _ 5 (acc ++ [o]).length
        rw [hal, List.length_append]
        rfl
  · have h : rest = [] := by
      have h : (!decide (rest = [])) = false := h
      simpa using h
    have e : Gw.Call.readF f rest acc = some acc := by
      cases f with
      | zero => rfl
      | succ f => rw [Gw.Call.readF, if_pos h]
    rw [e] at hr
    rw [hr]
    conv => whnf
    exact SubV.refl _

theorem ksame_pc (na nb : Bool) (l : List Gw.Call.Call) (hl : l.length ≤ 1048576) : PC Tryd.prog 20 [.lst na 5 (encKs l) .none, .lst nb 5 (encKs l) .none] (.bool true) := by
  have hal := encKs_len l
  refine PC.of tabOk mixed (fn := Tryd.f20) (by kernel_rfl) rfl (by kernel_rfl) rfl rfl ?_
  conv => whnf
  refine ⟨fun h => absurd h (by simp), fun _ => ?_⟩
  conv => whnf
  refine AW.loop (fun k : Nat => [(.tmp 0, .v (.lst na 5 (encKs l) .none)), (.tmp 1, .v (.lst nb 5 (encKs l) .none)), (.tmp 5, .v (.int .i64 k))]) 0 (fun k => k ≤ l.length) (fun k => l.length - k) (by decide) 0 (Nat.zero_le _) ⟨rfl, rfl, rfl, rfl, rfl, rfl, trivial⟩ ?_
  rintro k hk
  refine ev_sound tabOk mixed _ _ _ _ ?_
  conv => whnf
  refine ⟨fun h => ?_, fun h => ?_⟩
  · have h := of_decide_eq_true h
    rw [hal] at h
    have hlt : k < l.length := by omega
    have hel := encKs_get hlt
    unfold cellsK at hel
    conv => whnf
    refine ⟨_, ⟨by omega, hel⟩, ?_⟩
    conv => whnf
    refine ⟨_, ⟨by omega, hel⟩, ?_⟩
    conv => whnf
    refine ⟨by kernel_rfl, ?_⟩
    conv => whnf
    refine ⟨by kernel_rfl, ?_⟩
    conv => whnf
    refine ⟨fun h => absurd h (by simp), fun _ => ?_⟩
    conv => whnf
    refine ⟨k + 1, by show k + 1 ≤ _; omega, by show _ - (k + 1) < _ - k; omega, rfl, rfl, rfl, rfl, ?_, rfl, trivial⟩
    show C.v (V.int .i64 (IntKind.i64.wrap ((k : Int) + 1))) = _
    rw [w64 (by omega) (by omega)]; rfl
  · conv => whnf

def outB (l : List Gw.Call.Call) : List UInt8 := l.flatMap Gw.Call.bytes
theorem outB_succ {l : List Gw.Call.Call} {k : Nat} (hk : k < l.length) : outB (l.take (k + 1)) = outB (l.take k) ++ Gw.Call.bytes l[k] := by
  unfold outB
  rw [List.take_succ_eq_append_getElem hk, List.flatMap_append]
  simp

theorem write_pc (nil : Bool) (l : List Gw.Call.Call) (hf : ∀ o ∈ l, (o.path.length ≤ 1048576 ∧ o.to.length ≤ 1048576) ∧ Gw.Call.Nn o) (hl : l.length ≤ 1048576) (hb : ∀ k, k ≤ l.length → (l.take k).all Gw.Call.check = true → (outB (l.take k)).length ≤ 1000000000000) :
    PC Tryd.prog 14 [.lst nil 5 (encKs l) .none] (.tup [.str (if l.all Gw.Call.check = true then outB l else []), .int .i64 (if l.all Gw.Call.check = true then 0 else 180)]) := by
  have hal := encKs_len l
  refine PC.of tabOk mixed (fn := Tryd.f14) (by kernel_rfl) rfl (by kernel_rfl) rfl rfl ?_
  conv => whnf
  refine AW.rowB 2 5 rfl ?_
  refine AW.loop (fun k : Nat => [(.tmp 4, .v (.ptr 2 0)), (.tmp 9, .v (.lst nil 5 (encKs l) .none)), (.tmp 10, .v (.int .i64 l.length)), (.tmp 11, .v (.int .i64 k)), (.blk 2, .box 63 [if k = 0 then .nilp else .ptr 2 0, .lst (decide (outB (l.take k) = [])) 1 (bytesL (outB (l.take k))) (.brow 6)]), (.row 6, .row 5 1 (outB (l.take k)).length)])
    7 (fun k => k ≤ l.length ∧ (l.take k).all Gw.Call.check = true) (fun k => l.length - k) (by decide) 0 ⟨Nat.zero_le _, rfl⟩ ⟨rfl, rfl, rfl, rfl, ?_, rfl, rfl, rfl, rfl, rfl, rfl, rfl, trivial⟩ ?_
  · show C.v (V.int .i64 (encKs l).length) = _
    rw [hal]
  rintro k ⟨hk, hall⟩
  have hbk := hb k hk hall
  refine ev_sound tabOk mixed _ _ _ _ ?_
  conv => whnf
  refine ⟨fun h => ?_, fun h => ?_⟩
  · have h := of_decide_eq_true h
    have hlt : k < l.length := by omega
    have hel := encKs_get hlt
    have hfo := hf l[k] (List.getElem_mem hlt)
    have hput := put_pc [] l[k] (by decide) hfo.1.1 hfo.1.2 hfo.2
    have hno : Gw.Call.check l[k] = false → ¬ (l.all Gw.Call.check = true) := fun h2 h3 => by
      rw [List.all_eq_true.1 h3 _ (List.getElem_mem hlt)] at h2; cases h2
    have hsu := outB_succ hlt
    have htk : l.take (k + 1) = l.take k ++ [l[k]] := List.take_succ_eq_append_getElem hlt
    have hbs := hb (k + 1) (by omega)
    unfold cellsK at hel
    unfold encK cellsK at hput
    conv => whnf
    refine ⟨_, ⟨by omega, hel⟩, ?_⟩
    conv => whnf
    cases hck : Gw.Call.check l[k] with
    | false =>
      have e1 : Gw.Call.put [] l[k] = none := by unfold Gw.Call.put; rw [hck]; rfl
      have e2 : putV none = .tup [.str [], .int .i64 180] := rfl
      rw [e1, e2] at hput
      refine AC.of_pc hput rfl ?_
      conv => whnf
      refine ⟨fun _ => ?_, fun h => absurd h (by decide)⟩
      conv => whnf
      rw [if_neg (hno hck), if_neg (hno hck)]
    | true =>
      have e1 : Gw.Call.put [] l[k] = some (Gw.Call.bytes l[k]) := by unfold Gw.Call.put; rw [hck]; rfl
      have e2 : putV (some (Gw.Call.bytes l[k])) = .tup [.str (Gw.Call.bytes l[k]), .int .i64 0] := rfl
      rw [e1, e2] at hput
      refine AC.of_pc hput rfl ?_
      conv => whnf
      refine ⟨fun h => absurd h (by decide), fun _ => ?_⟩
      conv => whnf
      refine AC.of tabOk mixed (fn := Tryd.f30) (by kernel_rfl) rfl (by kernel_rfl) rfl rfl ?_
      conv => whnf
      refine AC.selfPtr (enters_of (fn := Tryd.f40) (by kernel_rfl) rfl (by kernel_rfl)) rfl (by split; exact .inl rfl; exact .inr rfl) bld_copy ?_
      conv => whnf
      have hbl := hbs (by rw [htk, List.all_append, hall]; simp [hck])
      rw [hsu, List.length_append] at hbl
      refine ⟨⟨(bytesL_len _).symm, ⟨by rw [bytesL_len, List.length_map]; omega, by rw [bytesL_len, List.length_map]; omega⟩⟩, ?_⟩
      conv => whnf
      refine ⟨k + 1, ⟨by omega, by rw [htk, List.all_append, hall]; simp [hck]⟩, by show _ - (k + 1) < _ - k; omega, rfl, rfl, rfl, rfl, rfl, rfl, ?_, rfl, ?_, rfl, ?_, rfl, trivial⟩
      · show C.v (V.int .i64 (IntKind.i64.wrap ((k : Int) + 1))) = _
        rw [w64 (by omega) (by omega)]; rfl
      · show C.box _ [V.ptr 2 0, V.lst (decide (outB (l.take k) = []) && ((Gw.Call.bytes l[k]).map fun c => [V.int .u8 c.toNat]).isEmpty) 1 (bytesL (outB (l.take k)) ++ (Gw.Call.bytes l[k]).map fun c => [V.int .u8 c.toNat]) (.brow 6)] = C.box _ [if k + 1 = 0 then V.nilp else V.ptr 2 0, V.lst (decide (outB (l.take (k + 1)) = [])) 1 (bytesL (outB (l.take (k + 1)))) (.brow 6)]
        rw [hsu, if_neg (Nat.succ_ne_zero k), bytesL, bytesL, List.map_append]
        have e3 : decide (outB (l.take k) ++ Gw.Call.bytes l[k] = []) = (decide (outB (l.take k) = []) && ((Gw.Call.bytes l[k]).map fun c => [V.int .u8 c.toNat]).isEmpty) := by
          rw [Bool.eq_iff_iff]; simp
        rw [e3]
      · show C.row _ 1 ((bytesL (outB (l.take k))).length + ((Gw.Call.bytes l[k]).map fun c => [V.int .u8 c.toNat]).length) = C.row _ 1 (outB (l.take (k + 1))).length
        rw [hsu, bytesL_len, List.length_map, List.length_append]
  · have h := of_decide_eq_false h
    obtain rfl : k = l.length := by omega
    rw [List.take_length] at hall hbk
    rw [List.take_length, if_pos hall, if_pos hall]
    conv => whnf
    refine AC.unrow (e := 5) (enters_of (fn := Tryd.f31) (by kernel_rfl) rfl (by kernel_rfl)) (s := outB l) rfl rfl (fun e => decide_eq_true e) (fun _ => bld_nil) (fun h0 => bld_text (outB l) h0 hbk) ?_
    conv => whnf

theorem fewL_false {l : List Gw.Call.Call} {k : Nat} (hk : k < l.length) (h : ¬ (l[k].path.length ≤ 1000 ∧ l[k].to.length ≤ 1000 ∧ l[k].data.length ≤ 5000)) : Gw.Call.fewL l = false := by
  cases e : Gw.Call.fewL l with
  | false => rfl
  | true =>
    have h2 := List.all_eq_true.1 e _ (List.getElem_mem hk)
    simp only [Bool.and_eq_true, decide_eq_true_eq] at h2
    exact absurd h2 h
theorem fewL_take {l : List Gw.Call.Call} {k : Nat} (hk : k < l.length) (h : Gw.Call.fewL (l.take k) = true) (h1 : l[k].path.length ≤ 1000) (h2 : l[k].to.length ≤ 1000) (h3 : l[k].data.length ≤ 5000) : Gw.Call.fewL (l.take (k + 1)) = true := by
  rw [List.take_succ_eq_append_getElem hk]
  unfold Gw.Call.fewL at h ⊢
  rw [List.all_append, h]
  simp [h1, h2, h3]
theorem few_pc (nil : Bool) (l : List Gw.Call.Call) (m : Int) (hl : l.length ≤ 9223372036854775807) : PC Tryd.prog 9 [.lst nil 5 (encKs l) .none, .int .i64 m] (.bool (Gw.Call.fewL l && decide ((l.length : Int) ≤ m))) := by
  have hal := encKs_len l
  refine PC.of tabOk mixed (fn := Tryd.f9) (by kernel_rfl) rfl (by kernel_rfl) rfl rfl ?_
  conv => whnf
  refine AW.loop (fun k : Nat => [(.tmp 0, .v (.lst nil 5 (encKs l) .none)), (.tmp 1, .v (.int .i64 m)), (.tmp 5, .v (.int .i64 k))]) 0 (fun k => k ≤ l.length ∧ Gw.Call.fewL (l.take k) = true) (fun k => l.length - k) (by decide) 0 ⟨Nat.zero_le _, rfl⟩ ⟨rfl, rfl, rfl, rfl, rfl, rfl, trivial⟩ ?_
  rintro k ⟨hk, hf⟩
  refine ev_sound tabOk mixed _ _ _ _ ?_
  conv => whnf
  refine ⟨fun h => ?_, fun h => ?_⟩
  · have h := of_decide_eq_true h
    rw [hal] at h
    have hlt : k < l.length := by omega
    have hel := encKs_get hlt
    unfold cellsK at hel
    conv => whnf
    refine ⟨_, ⟨by omega, hel⟩, ?_⟩
    conv => whnf
    refine ⟨fun c1 => ?_, fun c1 => ?_⟩
    · have c1 := of_decide_eq_true c1
      conv => whnf
      rw [fewL_false hlt (by omega)]; rfl
    have c1 := of_decide_eq_false c1
    conv => whnf
    refine ⟨_, ⟨by omega, hel⟩, ?_⟩
    conv => whnf
    refine ⟨fun c2 => ?_, fun c2 => ?_⟩
    · have c2 := of_decide_eq_true c2
      conv => whnf
      rw [fewL_false hlt (by omega)]; rfl
    have c2 := of_decide_eq_false c2
    conv => whnf
    refine ⟨_, ⟨by omega, hel⟩, ?_⟩
    conv => whnf
    refine ⟨fun c3 => ?_, fun c3 => ?_⟩
    · have c3 := of_decide_eq_true c3
      conv => whnf
      rw [fewL_false hlt (by omega)]; rfl
    have c3 := of_decide_eq_false c3
    conv => whnf
    refine ⟨k + 1, ⟨by omega, fewL_take hlt hf (by omega) (by omega) (by omega)⟩, by show _ - (k + 1) < _ - k; omega, rfl, rfl, rfl, rfl, ?_, rfl, trivial⟩
    show C.v (V.int .i64 (IntKind.i64.wrap ((k : Int) + 1))) = _
    rw [w64 (by omega) (by omega)]; rfl
  · have h := of_decide_eq_false h
    rw [hal] at h
    obtain rfl : k = l.length := by omega
    rw [List.take_length] at hf
    conv => whnf
    rw [hf, ← hal]
    rfl
end Go.Proofs.YtfmhkfijnflalaaDoor
