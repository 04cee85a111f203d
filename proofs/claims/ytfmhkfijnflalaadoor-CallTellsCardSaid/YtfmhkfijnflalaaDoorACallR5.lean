/- What the document's answer for call's Write and Read computes: told without addresses. No claim of its own. -/
import Derived.Test.YtfmhkfijnflalaaDoorACallR4
namespace Go.Proofs.YtfmhkfijnflalaaDoor
open Go.Am

theorem out_bound (l : List Gw.Call.Call) (hn : ∀ o ∈ l, Gw.Call.Nn o) (hl : l.length ≤ 10000) : ∀ k, k ≤ l.length → (l.take k).all Gw.Call.check = true → (outB (l.take k)).length ≤ 100000000 := fun k hk h => by
  have := Gw.Call.out_small h (fun c hc => hn c (List.mem_of_mem_take hc))
  rw [List.length_take] at this
  unfold outB
  omega
/-- What Write answers. -/
theorem write_pc' (nil : Bool) (l : List Gw.Call.Call) (hf : ∀ o ∈ l, (o.path.length ≤ 1048576 ∧ o.to.length ≤ 1048576) ∧ Gw.Call.Nn o) (hl : l.length ≤ 10000) :
    PC Tryd.prog 14 [.lst nil 5 (encKs l) .none] (.tup [.str (if l.all Gw.Call.check = true then outB l else []), .int .i64 (if l.all Gw.Call.check = true then 0 else 180)]) :=
  write_pc nil l hf (by omega) (fun k hk h => Nat.le_trans (out_bound l (fun o h => (hf o h).2) hl k hk h) (by decide))
theorem rwrite_pc (nil : Bool) (l : List Gw.Call.Call) (hf : ∀ o ∈ l, (o.path.length ≤ 100000 ∧ o.to.length ≤ 100000) ∧ Gw.Call.Nn o) (hl : l.length ≤ 10000) :
    PC Tryd.prog 15 [.lst nil 5 (encKs l) .none] (.tup [.str (if l.all Gw.Call.check = true then outB l else []), .int .i64 (if l.all Gw.Call.check = true then 0 else 180)]) := by
  have hal := encKs_len l
  have hb := out_bound l (fun o h => (hf o h).2) hl
  refine PC.of tabOk mixed (fn := Tryd.f15) (by kernel_rfl) rfl (by kernel_rfl) rfl rfl ?_
  conv => whnf
  refine AW.loop (fun k : Nat => [(.tmp 0, .v (.lst nil 5 (encKs l) .none)), (.tmp 4, .v (.str (outB (l.take k)))), (.tmp 5, .v (.int .i64 k))])
    0 (fun k => k ≤ l.length ∧ (l.take k).all Gw.Call.check = true) (fun k => l.length - k) (by decide) 0 ⟨Nat.zero_le _, rfl⟩ ⟨rfl, rfl, rfl, rfl, rfl, rfl, trivial⟩ ?_
  rintro k ⟨hk, hall⟩
  have hbk := hb k hk hall
  refine ev_sound tabOk mixed _ _ _ _ ?_
  conv => whnf
  refine ⟨fun h => ?_, fun h => ?_⟩
  · have h := of_decide_eq_true h
    have hlt : k < l.length := by omega
    have hel := encKs_get hlt
    have hfo := hf l[k] (List.getElem_mem hlt)
    have hput := rput_pc (outB (l.take k)) l[k] hbk hfo.1.1 hfo.1.2 hfo.2
    have hno : Gw.Call.check l[k] = false → ¬ (l.all Gw.Call.check = true) := fun h2 h3 => by
      rw [List.all_eq_true.1 h3 _ (List.getElem_mem hlt)] at h2; cases h2
    have hsu := outB_succ hlt
    have htk : l.take (k + 1) = l.take k ++ [l[k]] := List.take_succ_eq_append_getElem hlt
    unfold cellsK at hel
    unfold encK cellsK at hput
    conv => whnf
    refine ⟨_, ⟨by omega, hel⟩, ?_⟩
    conv => whnf
    cases hck : Gw.Call.check l[k] with
    | false =>
      have e1 : Gw.Call.put (outB (l.take k)) l[k] = none := by unfold Gw.Call.put; rw [hck]; rfl
      have e2 : putV none = .tup [.str [], .int .i64 180] := rfl
      rw [e1, e2] at hput
      refine AC.of_pc hput rfl ?_
      conv => whnf
      refine ⟨fun _ => ?_, fun h => absurd h (by decide)⟩
      conv => whnf
      rw [if_neg (hno hck), if_neg (hno hck)]
      try rfl
    | true =>
      have e1 : Gw.Call.put (outB (l.take k)) l[k] = some (outB (l.take (k + 1))) := by unfold Gw.Call.put; rw [hck, hsu]; rfl
      have e2 : putV (some (outB (l.take (k + 1)))) = .tup [.str (outB (l.take (k + 1))), .int .i64 0] := rfl
      rw [e1, e2] at hput
      refine AC.of_pc hput rfl ?_
      conv => whnf
      refine ⟨fun h => absurd h (by decide), fun _ => ?_⟩
      conv => whnf
      refine ⟨k + 1, ⟨by omega, by rw [htk, List.all_append, hall]; simp [hck]⟩, by show _ - (k + 1) < _ - k; omega, rfl, rfl, rfl, rfl, ?_, rfl, trivial⟩
      show C.v (V.int .i64 (IntKind.i64.wrap ((k : Int) + 1))) = _
      rw [w64 (by omega) (by omega)]; rfl
  · have h := of_decide_eq_false h
    obtain rfl : k = l.length := by omega
    rw [List.take_length] at hall hbk
    rw [List.take_length, if_pos hall, if_pos hall]
    conv => whnf
    try rfl

theorem rread_pc (b : List UInt8) (hb : b.length ≤ 100000) : PC Tryd.prog 17 [.str b] (readV (Gw.Call.read b)) := by
  refine PC.ofS tabOk mixed (fn := Tryd.f17) (by kernel_rfl) rfl (by kernel_rfl) rfl rfl ?_
  conv => whnf
  refine AW.row 4 23 5 rfl rfl (.inr rfl) ?_
  refine AW.loop (X := List UInt8 × List Gw.Call.Call) (fun x => [(.tmp 0, .v (.str x.1)), (.tmp 4, .v (.lst (decide (x.2 = [])) 5 (encKs x.2) (.row 3))), (.row 3, .row 23 5 x.2.length)]) 4
    (fun x => x.1.length + x.2.length ≤ 100000 ∧ ∃ f, x.1.length < f ∧ Gw.Call.read b = Gw.Call.readF f x.1 x.2) (fun x => x.1.length) (by decide) (b, []) ⟨by simpa using hb, b.length + 1, Nat.lt_succ_self _, rfl⟩ ⟨rfl, rfl, rfl, rfl, rfl, rfl, trivial⟩ ?_
  rintro ⟨rest, acc⟩ ⟨h1, f, hf, hr⟩
  simp only at h1 hf hr
  have htk := rcallTake_pc rest (by omega)
  have hal := encKs_len acc
  refine ev_sound tabOk mixed _ _ _ _ ?_
  conv => whnf
  refine ⟨fun h => ?_, fun h => ?_⟩
  · have h : rest ≠ [] := by
      have h := of_decide_eq_true h
      intro e; rw [e] at h; simp at h
    obtain ⟨f, rfl⟩ : ∃ g, f = g + 1 := ⟨f - 1, by omega⟩
    rw [Gw.Call.readF, if_neg h] at hr
    conv => whnf
    cases ht : Gw.Call.take rest with
    | none =>
      rw [ht] at htk hr
      simp only at hr
      rw [hr]
      refine AC.of_pc htk rfl ?_
      conv => whnf
      refine ⟨fun _ => ?_, fun h => absurd h (by decide)⟩
      conv => whnf
      exact SubV.tup (.cons (.nil _ _ _) (.cons (.of_eq rfl) .nil))
    | some oq =>
      obtain ⟨o, q⟩ := oq
      have hlen := Gw.Call.take_len ht
      rw [ht] at htk hr
      simp only at hr
      refine AC.of_pc htk rfl ?_
      conv => whnf
      refine ⟨fun h => absurd h (by decide), fun _ => ?_⟩
      conv => whnf
      refine ⟨⟨hal.symm, fits_small (by show (encKs acc).length + 1 ≤ _; omega) (by decide)⟩, ?_⟩
      conv => whnf
      refine ⟨(q, acc ++ [o]), ⟨by show q.length + (acc ++ [o]).length ≤ _; rw [List.length_append, List.length_singleton]; omega, f, by show q.length < f; omega, hr⟩, hlen, rfl, rfl, ?_, rfl, ?_, rfl, trivial⟩
      · show C.v (V.lst (decide (acc = []) && false) 5 (encKs acc ++ [cellsK o]) _) = C.v (V.lst (decide (acc ++ [o] = [])) 5 (encKs (acc ++ [o])) _)
        rw [Bool.and_false, decide_eq_false (by simp), encKs, encKs, List.map_append]
        rfl
      · show C.row _ 5 ((encKs acc).length + 1) = C.row _ 5 (acc ++ [o]).length
        rw [hal, List.length_append]
        rfl
  · have h : rest = [] := by
      have h := of_decide_eq_false h
      cases rest with
      | nil => rfl
      | cons c t => simp at h
    have e : Gw.Call.readF f rest acc = some acc := by
      cases f with
      | zero => rfl
      | succ f => rw [Gw.Call.readF, if_pos h]
    rw [e] at hr
    rw [hr]
    conv => whnf
    exact SubV.refl _
end Go.Proofs.YtfmhkfijnflalaaDoor
