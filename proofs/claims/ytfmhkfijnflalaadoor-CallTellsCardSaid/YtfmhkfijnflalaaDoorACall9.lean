/- The law CallBack, told without addresses. No claim of its own. -/
import Derived.Test.YtfmhkfijnflalaaDoorACall8
namespace Go.Proofs.YtfmhkfijnflalaaDoor
open Go.Am

theorem encKs_app (k l : List Gw.Call.Call) : encKs (k ++ l) = encKs k ++ encKs l := List.map_append
theorem outB_app (k l : List Gw.Call.Call) : outB (k ++ l) = outB k ++ outB l := List.flatMap_append
theorem outB_len {l : List Gw.Call.Call} (h : l.all Gw.Call.check = true) (hn : ∀ o ∈ l, Gw.Call.Nn o) : (outB l).length ≤ 9000 * l.length := Gw.Call.out_small h hn
theorem check_lens {o : Gw.Call.Call} (h : Gw.Call.check o = true) : o.path.length ≤ 1048576 ∧ o.to.length ≤ 1048576 := by
  obtain ⟨p, _, hok⟩ := Gw.Call.check_some h
  obtain ⟨l1, l2, _⟩ := Gw.Call.lens hok
  omega
theorem fewer {l : List Gw.Call.Call} (h : l.all Gw.Call.check = true) : l.length ≤ (outB l).length := by
  induction l with
  | nil => exact Nat.le_refl _
  | cons o l ih =>
    rw [List.all_cons, Bool.and_eq_true] at h
    have h1 := ih h.2
    have h2 := List.length_pos_iff.2 (Gw.Call.bytes_ne h.1)
    show l.length + 1 ≤ (Gw.Call.bytes o ++ outB l).length
    rw [List.length_append]
    omega

theorem back_pc (nil : Bool) (l : List Gw.Call.Call) (b : List UInt8) (hi : ∀ o ∈ l, Gw.Call.Nn o) (hl : l.length ≤ 9223372036854775807) : PC Tryd.prog 4 [.lst nil 5 (encKs l) .none, .str b] (.bool true) := by
  have hfew := few_pc nil l 100 hl
  refine PC.of tabOk mixed (fn := Tryd.f4) (by kernel_rfl) rfl (by kernel_rfl) rfl rfl ?_
  conv => whnf
  refine AC.of_pc awake_pc rfl ?_
  conv => whnf
  refine AC.of_pc hfew rfl ?_
  conv => whnf
  refine ⟨fun _ => ?_, fun h => ?_⟩
  · conv => whnf
  have h : Gw.Call.fewL l = true ∧ l.length ≤ 100 := by
    have h : (!(Gw.Call.fewL l && decide ((l.length : Int) ≤ 100))) = false := h
    simp only [Bool.not_eq_false', Bool.and_eq_true, decide_eq_true_eq] at h
    exact ⟨h.1, by omega⟩
  obtain ⟨hfw, hl⟩ := h
  have hf : ∀ o ∈ l, (o.path.length ≤ 1048576 ∧ o.to.length ≤ 1048576) ∧ Gw.Call.Nn o := fun o ho => by have := few_len hfw ho; exact ⟨⟨by omega, by omega⟩, hi o ho⟩
  conv => whnf
  refine ⟨fun _ => ?_, fun h => ?_⟩
  · conv => whnf
  have hb : b.length ≤ 5000 := by have := of_decide_eq_false h; omega
  have hw := write_pc' nil l hf (by omega)
  have hrb := read_pc b (by omega)
  have hlen := encKs_len l
  obtain ⟨w, e, nx, xs, hw, hrw, hcase⟩ : ∃ w e nx xs, PC Tryd.prog 14 [.lst nil 5 (encKs l) .none] (.tup [.str w, .int .i64 e]) ∧ PC Tryd.prog 16 [.str w] (.tup [.lst nx 5 (encKs xs) .none, .int .i64 0]) ∧
      ((l.all Gw.Call.check = true ∧ e = 0 ∧ xs = l) ∨ (l.all Gw.Call.check = false ∧ e = 180 ∧ w = [])) := by
    cases hall : l.all Gw.Call.check with
    | false =>
      rw [hall, if_neg (by decide), if_neg (by decide)] at hw
      exact ⟨_, _, _, [], hw, read_pc [] (by decide), .inr ⟨rfl, rfl, rfl⟩⟩
    | true =>
      rw [hall, if_pos rfl, if_pos rfl] at hw
      have h1 := outB_len hall hi
      have h2 := read_pc (outB l) (by omega)
      rw [show Gw.Call.read (outB l) = some l from Gw.Call.read_bytes hall hi] at h2
      exact ⟨_, _, _, l, hw, h2, .inl ⟨rfl, rfl, rfl⟩⟩
  obtain ⟨ny, y, g, v, hrb, hwy, hcase2⟩ : ∃ ny y g v, PC Tryd.prog 16 [.str b] (.tup [.lst ny 5 (encKs y) .none, .int .i64 g]) ∧ PC Tryd.prog 14 [.lst ny 5 (encKs y) .none] (.tup [.str v, .int .i64 0]) ∧
      ((g = 0 ∧ v = b) ∨ (g = 180 ∧ y = [])) := by
    cases hr : Gw.Call.read b with
    | none =>
      rw [hr] at hrb
      exact ⟨_, [], _, _, hrb, write_pc' true [] (fun o h => by cases h) (by decide), .inr ⟨rfl, rfl⟩⟩
    | some y =>
      obtain ⟨h1, hn1, h2⟩ := Gw.Call.read_own hr
      have h3 := fewer h1
      rw [show outB y = b from h2.symm] at h3
      rw [hr] at hrb
      have h4 := write_pc' (decide (y = [])) y (fun o h => ⟨check_lens (List.all_eq_true.1 h1 o h), hn1 o h⟩) (by omega)
      rw [h1, if_pos rfl, if_pos rfl, show outB y = b from h2.symm] at h4
      exact ⟨_, y, _, _, hrb, h4, .inl ⟨rfl, rfl⟩⟩
  conv => whnf
  refine AC.of_pc hw rfl ?_
  conv => whnf
  refine AC.of_pc hrw rfl ?_
  conv => whnf
  refine AC.of_pc hrb rfl ?_
  conv => whnf
  refine AC.of_pc hwy rfl ?_
  conv => whnf
  refine AW.loop (X := Nat × V) (fun x => [(.tmp 0, .v (.lst nil 5 (encKs l) .none)), (.tmp 1, .v (.str b)), (.tmp 5, .v (.bool true)), (.tmp 6, .v (.str w)), (.tmp 7, .v (.int .i64 e)), (.tmp 8, .v (.lst nx 5 (encKs xs) .none)), (.tmp 9, .v (.int .i64 0)),
    (.tmp 10, .v (.lst ny 5 (encKs y) .none)), (.tmp 11, .v (.int .i64 g)), (.tmp 12, .v (.str v)), (.tmp 13, .v (.int .i64 0)), (.tmp 14, .v x.2), (.tmp 15, .v (.int .i64 x.1))]) 0
    (fun x => x.1 ≤ l.length ∧ (x.2 = .tt ∨ x.2 = .ff ∨ ∃ p, x.2 = .bool p) ∧ boolOf x.2 = some ((l.take x.1).all Gw.Call.check)) (fun x => l.length - x.1) (by decide) (0, .tt) ⟨Nat.zero_le _, .inl rfl, rfl⟩ ⟨rfl, rfl, rfl, rfl, rfl, rfl, rfl, rfl, rfl, rfl, rfl, rfl, rfl, rfl, rfl, rfl, rfl, rfl, rfl, rfl, rfl, rfl, rfl, rfl, rfl, rfl, trivial⟩ ?_
  rintro ⟨k, a⟩ ⟨hk, ha, hab⟩
  simp only at hk ha hab
  have end_ : ∀ p, (l.take l.length).all Gw.Call.check = p → l.all Gw.Call.check = p := fun p h => by rwa [List.take_length] at h
  have hw1 : k < l.length → IntKind.i64.wrap ((k : Int) + 1) = ((k + 1 : Nat) : Int) := fun h => by rw [w64 (by omega) (by omega)]; rfl
  refine ev_sound tabOk mixed _ _ _ _ ?_
  have key : (a = .tt ∧ (l.take k).all Gw.Call.check = true) ∨ (a = .ff ∧ (l.take k).all Gw.Call.check = false) ∨ (a = .bool true ∧ (l.take k).all Gw.Call.check = true) ∨ (a = .bool false ∧ (l.take k).all Gw.Call.check = false) := by
    rcases ha with rfl | rfl | ⟨p, rfl⟩
    · exact .inl ⟨rfl, (Option.some.inj hab).symm⟩
    · exact .inr (.inl ⟨rfl, (Option.some.inj hab).symm⟩)
    · cases p with
      | true => exact .inr (.inr (.inl ⟨rfl, (Option.some.inj hab).symm⟩))
      | false => exact .inr (.inr (.inr ⟨rfl, (Option.some.inj hab).symm⟩))
  clear ha hab
  by_cases hlt : k < l.length
  · have hel := encKs_get hlt
    have hc := check_pc l[k] (hf _ (List.getElem_mem hlt)).1.1 (hf _ (List.getElem_mem hlt)).1.2
    have htk : (l.take (k + 1)).all Gw.Call.check = ((l.take k).all Gw.Call.check && Gw.Call.check l[k]) := by
      rw [List.take_succ_eq_append_getElem hlt, List.all_append]; simp
    unfold cellsK at hel
    generalize hq : Gw.Call.check l[k] = q at *
    have hts : decide ((k : Int) < ((encKs l).length : Int)) = true := by rw [hlen]; exact decide_eq_true (by omega)
    rcases key with ⟨rfl, hp⟩ | ⟨rfl, hp⟩ | ⟨rfl, hp⟩ | ⟨rfl, hp⟩
    all_goals rw [hp] at htk
    all_goals conv => whnf
    all_goals refine ⟨fun _ => ?_, fun h => absurd (hts.symm.trans h) (by decide)⟩
    all_goals conv => whnf
    all_goals try (refine ⟨fun _ => ?_, fun h => absurd h (by decide)⟩; conv => whnf)
    all_goals try (refine ⟨fun h => absurd h (by decide), fun _ => ?_⟩; conv => whnf)
    all_goals try (refine ⟨_, ⟨by omega, hel⟩, ?_⟩; conv => whnf)
    all_goals try (refine AC.of_pc hc rfl ?_; conv => whnf)
    · exact ⟨(k + 1, .bool q), ⟨by omega, .inr (.inr ⟨q, rfl⟩), by rw [htk]; rfl⟩, by show _ - (k + 1) < _ - k; omega, rfl, rfl, rfl, rfl, rfl, rfl, rfl, rfl, rfl, rfl, rfl, rfl, rfl, rfl, rfl, rfl, rfl, rfl, rfl, rfl, rfl, rfl, rfl, rfl, by show C.v (V.int .i64 (IntKind.i64.wrap ((k : Int) + 1))) = _; rw [hw1 hlt], rfl, trivial⟩
    · exact ⟨(k + 1, .ff), ⟨by omega, .inr (.inl rfl), by rw [htk]; rfl⟩, by show _ - (k + 1) < _ - k; omega, rfl, rfl, rfl, rfl, rfl, rfl, rfl, rfl, rfl, rfl, rfl, rfl, rfl, rfl, rfl, rfl, rfl, rfl, rfl, rfl, rfl, rfl, rfl, rfl, by show C.v (V.int .i64 (IntKind.i64.wrap ((k : Int) + 1))) = _; rw [hw1 hlt], rfl, trivial⟩
    · exact ⟨(k + 1, .bool q), ⟨by omega, .inr (.inr ⟨q, rfl⟩), by rw [htk]; rfl⟩, by show _ - (k + 1) < _ - k; omega, rfl, rfl, rfl, rfl, rfl, rfl, rfl, rfl, rfl, rfl, rfl, rfl, rfl, rfl, rfl, rfl, rfl, rfl, rfl, rfl, rfl, rfl, rfl, rfl, by show C.v (V.int .i64 (IntKind.i64.wrap ((k : Int) + 1))) = _; rw [hw1 hlt], rfl, trivial⟩
    · exact ⟨(k + 1, .ff), ⟨by omega, .inr (.inl rfl), by rw [htk]; rfl⟩, by show _ - (k + 1) < _ - k; omega, rfl, rfl, rfl, rfl, rfl, rfl, rfl, rfl, rfl, rfl, rfl, rfl, rfl, rfl, rfl, rfl, rfl, rfl, rfl, rfl, rfl, rfl, rfl, rfl, by show C.v (V.int .i64 (IntKind.i64.wrap ((k : Int) + 1))) = _; rw [hw1 hlt], rfl, trivial⟩
  · obtain rfl : k = l.length := by omega
    have hts : decide ((l.length : Int) < ((encKs l).length : Int)) = false := by rw [hlen]; exact decide_eq_false (by omega)
    rw [List.take_length] at key
    have hsm := ksame_pc nx nil l (by omega)
    rcases hcase with ⟨hall, rfl, rfl⟩ | ⟨hall, rfl, rfl⟩ <;> rcases hcase2 with ⟨rfl, rfl⟩ | ⟨rfl, rfl⟩ <;> rcases key with ⟨rfl, hp⟩ | ⟨rfl, hp⟩ | ⟨rfl, hp⟩ | ⟨rfl, hp⟩
    all_goals first | (rw [hp] at hall; cases hall; done) | skip
    all_goals conv => whnf
    all_goals refine ⟨fun h => absurd (hts.symm.trans h) (by decide), fun _ => ?_⟩
    all_goals conv => whnf
    all_goals repeat (first | refine ⟨fun _ => ?_, fun h => absurd h (by decide)⟩ | refine ⟨fun h => absurd h (by decide), fun _ => ?_⟩ | refine AC.of_pc hsm rfl ?_ | refine ⟨fun _ => ?_, fun h => absurd (of_decide_eq_false h) (fun h => h rfl)⟩
                      (conv => whnf))
    all_goals rfl
end Go.Proofs.YtfmhkfijnflalaaDoor
