/- What the law RecAll computes: told without addresses. No claim of its own. -/
import Derived.Test.YtkempcjemeipnaaDoorARec10
namespace Go.Proofs.YtkempcjemeipnaaDoor
open Go.Am

def firstL (n i : Nat) (l : List (List UInt8)) : Nat := if i = 0 then 0 else (Gw.Rec.packed n (l.getD 0 [])).length
theorem recall_pc (na : Bool) (l : List (List UInt8)) (n : Nat) (hn : n ≤ 65535) : PC Tryd.prog 8 [.lst na 1 (encSL l) .none, .int .u16 n] (.bool true) := by
  have e1 := from_wrap hn
  have hal := encSL_len l
  refine PC.of tabOk mixed (fn := Tryd.f8) (by kernel_rfl) rfl (by kernel_rfl) rfl rfl ?_
  conv => whnf
  refine AC.of_pc awake_pc rfl ?_
  conv => whnf
  refine ⟨fun h1 => ?_, fun h1 => ?_⟩
  · conv => whnf
    repeat (first | refine ⟨fun _ => ?_, fun h => absurd h (by decide)⟩ | refine ⟨fun h => absurd h (by decide), fun _ => ?_⟩ | refine ⟨fun _ => ?_, fun h => absurd (show true = false from h) (by decide)⟩ | refine ⟨fun h => absurd (show false = true from h) (by decide), fun _ => ?_⟩
            (conv => whnf))
    try rfl
  have h1 : l.length ≤ 10 := by have := of_decide_eq_false (show decide ((10 : Int) < ((encSL l).length : Int)) = false from h1); omega
  conv => whnf
  refine ⟨fun h2 => ?_, fun h2 => ?_⟩
  · conv => whnf
    try rfl
  have h2 : 0 < l.length := by
    have h2 : (((encSL l).length : Int) == 0) = false := h2
    rw [hal] at h2
    simp at h2
    exact List.length_pos_iff.2 h2
  conv => whnf
  rw [e1]
  refine AW.loop (fun i : Nat => [(.tmp 0, .v (.lst na 1 (encSL l) .none)), (.tmp 5, .v (.bool true)), (.tmp 6, .v (.str (Gw.Rec.packs (l.take i) ((n + 1 : Nat) : Int)))), (.tmp 7, .v (.int .i64 (firstL (n + 1) i l : Nat))), (.tmp 8, .v (.int .i64 ((n + 1 : Nat) : Int))), (.tmp 9, .v (.int .i64 i))]) 0
    (fun i => i ≤ l.length ∧ ∀ q ∈ l.take i, q.length ≤ 300) (fun i => l.length - i) (by decide) 0 ⟨Nat.zero_le _, by simp⟩ ⟨rfl, rfl, rfl, rfl, rfl, rfl, rfl, rfl, rfl, rfl, rfl, rfl, trivial⟩ ?_
  rintro i ⟨hi, hq⟩
  refine ev_sound tabOk mixed _ _ _ _ ?_
  conv => whnf
  refine ⟨fun h => ?_, fun h => ?_⟩
  · have h : i < l.length := by have := of_decide_eq_true (show decide ((i : Int) < ((encSL l).length : Int)) = true from h); omega
    have hel := encSL_get h
    conv => whnf
    refine ⟨_, ⟨by omega, hel⟩, ?_⟩
    conv => whnf
    refine ⟨fun h3 => ?_, fun h3 => ?_⟩
    · conv => whnf
      try rfl
    have h3 : l[i].length ≤ 300 := by have := of_decide_eq_false h3; omega
    conv => whnf
    refine ⟨_, ⟨by omega, hel⟩, ?_⟩
    have e2 : IntKind.i64.wrap (((n + 1 : Nat) : Int) + (i : Int)) = ((n + 1 + i : Nat) : Int) := by rw [w64 (by omega) (by omega)]; omega
    have c := pack_at (m := n + 1 + i) (p := l[i]) (by omega) (by omega) h3
    have hsm := (packed_small (n := n + 1 + i) (p := l[i]) (by omega) h3).2
    have hps := packs_small (l.take i) (n + 1) (by rw [List.length_take]; omega) hq
    rw [List.length_take] at hps
    rw [← e2] at c
    refine AC.of_pc c rfl ?_
    conv => whnf
    repeat (first | refine ⟨fun _ => ?_, fun h => absurd h (by decide)⟩ | refine ⟨fun h => absurd h (by decide), fun _ => ?_⟩ | refine ⟨fun _ => ?_, fun h => absurd (show true = false from h) (by decide)⟩ | refine ⟨fun h => absurd (show false = true from h) (by decide), fun _ => ?_⟩
            (conv => whnf))
    refine ⟨by show (Gw.Rec.packs (l.take i) ((n + 1 : Nat) : Int)).length + (Gw.Rec.packed (n + 1 + i) l[i]).length < _; omega, ?_⟩
    conv => whnf
    refine ⟨fun h4 => ?_, fun h4 => ?_⟩
    · have h4 : i = 0 := by
        have h4 : ((i : Int) == 0) = true := h4
        simpa using h4
      subst h4
      conv => whnf
      refine ⟨1, ⟨h, mem_take_snoc h h3 hq⟩, by show _ - (0 + 1) < _ - 0; omega, rfl, rfl, rfl, rfl, ?_, rfl, ?_, rfl, rfl, rfl, ?_, rfl, trivial⟩
      · show C.v (V.str (Gw.Rec.packs (l.take 0) ((n + 1 : Nat) : Int) ++ Gw.Rec.packed (n + 1 + 0) l[0])) = C.v (V.str (Gw.Rec.packs (l.take (0 + 1)) ((n + 1 : Nat) : Int)))
        rw [packs_take h]
      · show C.v (V.int .i64 ((Gw.Rec.packed (n + 1 + 0) l[0]).length : Int)) = C.v (V.int .i64 (firstL (n + 1) 1 l : Int))
        unfold firstL
        rw [if_neg (by decide), List.getD_eq_getElem?_getD, List.getElem?_eq_getElem h]; rfl
      · rfl
    · have h4 : i ≠ 0 := by
        have h4 : ((i : Int) == 0) = false := h4
        simpa using h4
      conv => whnf
      refine ⟨i + 1, ⟨h, mem_take_snoc h h3 hq⟩, by show _ - (i + 1) < _ - i; omega, rfl, rfl, rfl, rfl, ?_, rfl, ?_, rfl, rfl, rfl, ?_, rfl, trivial⟩
      · show C.v (V.str (Gw.Rec.packs (l.take i) ((n + 1 : Nat) : Int) ++ Gw.Rec.packed (n + 1 + i) l[i])) = C.v (V.str (Gw.Rec.packs (l.take (i + 1)) ((n + 1 : Nat) : Int)))
        rw [packs_take h]
      · show C.v (V.int .i64 (firstL (n + 1) i l : Int)) = C.v (V.int .i64 (firstL (n + 1) (i + 1) l : Int))
        unfold firstL
        rw [if_neg h4, if_neg (by omega)]
      · show C.v (V.int .i64 (IntKind.i64.wrap ((i : Int) + 1))) = _
        rw [w64 (by omega) (by omega)]; rfl
  · have h : i = l.length := by have := of_decide_eq_false (show decide ((i : Int) < ((encSL l).length : Int)) = false from h); omega
    subst h
    rw [List.take_length] at hq
    rw [List.take_length]
    obtain ⟨p, t, rfl⟩ : ∃ p t, l = p :: t := by
      cases l with
      | nil => simp at h2
      | cons p t => exact ⟨p, t, rfl⟩
    have hf : firstL (n + 1) (p :: t).length (p :: t) = (Gw.Rec.packed (n + 1) p).length := by
      unfold firstL; rw [if_neg (by omega)]; rfl
    rw [hf]
    have hps := packs_small (p :: t) (n + 1) (by omega) hq
    have hmp : Gw.Rec.may ((n + 1 : Nat) : Int) p = true := may_from hn (hq p (List.mem_cons_self ..))
    have e3 : IntKind.i64.wrap (((n + 1 : Nat) : Int) + 1) = (((n + 1 : Nat) : Int) + 1) := w64 (by omega) (by omega)
    have eS : Gw.Rec.packs (p :: t) ((n + 1 : Nat) : Int) = Gw.Rec.packed (n + 1) p ++ Gw.Rec.packs t (((n + 1 : Nat) : Int) + 1) := by rw [Gw.Rec.packs, Int.toNat_natCast]
    have t1 := Gw.Rec.take_other hmp (b := ((n + 1 : Nat) : Int) + 1) (by omega) (Gw.Rec.packs t (((n + 1 : Nat) : Int) + 1))
    rw [Int.toNat_natCast, ← eS] at t1
    have ta := Gw.Rec.all_of (.nil t1)
    rw [List.length_cons] at h1 hps
    obtain ⟨k, hk, tb⟩ := Gw.Rec.all_packs (l := t) (n := ((n + 1 : Nat) : Int) + 1) (by omega) (by omega) (fun q h => Nat.le_trans (hq q (List.mem_cons_of_mem _ h)) (by decide))
    have ca := recAll_pc (Gw.Rec.packs (p :: t) ((n + 1 : Nat) : Int)) (((n + 1 : Nat) : Int) + 1) (by omega)
    have hdr : (Gw.Rec.packs (p :: t) ((n + 1 : Nat) : Int)).drop (((Gw.Rec.packed (n + 1) p).length : Int)).toNat = Gw.Rec.packs t (((n + 1 : Nat) : Int) + 1) := by rw [Int.toNat_natCast, eS, List.drop_left]
    have hlS : (Gw.Rec.packs (p :: t) ((n + 1 : Nat) : Int)).length = (Gw.Rec.packed (n + 1) p).length + 16 * k := by rw [eS, List.length_append, hk]
    have cb := recAll_pc (Gw.Rec.packs t (((n + 1 : Nat) : Int) + 1)) (((n + 1 : Nat) : Int) + 1) (by omega)
    rw [ta] at ca
    rw [tb, ← hdr] at cb
    rw [← e3] at ca cb
    have c7 : ∀ nb, PC Tryd.prog 16 [.lst (decide (t = [])) 1 (encSL t) .none, .lst nb 1 (encSL t) .none] (.bool true) := fun nb => by
      have := strSame_pc (decide (t = [])) nb t t (by omega)
      rwa [decide_eq_true rfl] at this
    have hmin : min ((Gw.Rec.packed (n + 1) p).length : Int) ((Gw.Rec.packs (p :: t) ((n + 1 : Nat) : Int)).length : Int) = ((Gw.Rec.packed (n + 1) p).length : Int) := by omega
    generalize Gw.Rec.packs (p :: t) ((n + 1 : Nat) : Int) = S at *
    generalize (Gw.Rec.packed (n + 1) p).length = f at *
    conv => whnf
    refine AC.of_pc ca rfl ?_
    conv => whnf
    rw [hmin]
    refine ⟨⟨by show (0 : Int) ≤ (f : Int); omega, by show ((f : Int)).toNat ≤ _; rw [Int.toNat_natCast]; omega⟩, ?_⟩
    refine AC.of_pc cb rfl ?_
    conv => whnf
    repeat (first | refine ⟨fun _ => ?_, fun h => absurd h (by decide)⟩ | refine ⟨fun h => absurd h (by decide), fun _ => ?_⟩ | refine ⟨fun _ => ?_, fun h => absurd (show true = false from h) (by decide)⟩ | refine ⟨fun h => absurd (show false = true from h) (by decide), fun _ => ?_⟩
            (conv => whnf))
    refine ⟨⟨by decide, by show 1 ≤ (encSL (p :: t)).length; rw [encSL_len]; omega⟩, ?_⟩
    refine AC.of_pc (c7 _) rfl ?_
    conv => whnf
    repeat (first | refine ⟨fun _ => ?_, fun h => absurd h (by decide)⟩ | refine ⟨fun h => absurd h (by decide), fun _ => ?_⟩ | refine ⟨fun _ => ?_, fun h => absurd (show true = false from h) (by decide)⟩ | refine ⟨fun h => absurd (show false = true from h) (by decide), fun _ => ?_⟩
            (conv => whnf))
    rw [w64 (x := 16 * (k : Int)) (by omega) (by omega), w64 (by omega) (by omega)]
    have e : (16 * (k : Int)) = (S.length : Int) - (f : Int) := by omega
    rw [e, beq_self_eq_true]
end Go.Proofs.YtkempcjemeipnaaDoor
