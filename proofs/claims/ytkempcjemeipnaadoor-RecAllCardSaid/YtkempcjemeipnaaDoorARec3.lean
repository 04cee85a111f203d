/- What rec.Take computes: told without addresses. No claim of its own. -/
import Derived.Test.YtkempcjemeipnaaDoorARec2
import Derived.Test.YtkempcjemeipnaaDoorRecTakeFn
namespace Go.Proofs.YtkempcjemeipnaaDoor
open Go.Am

theorem recPre0_pc (s p : List UInt8) : PC Tryd.prog 38 [.str s, .str p] (.bool (Gw.Rec.isPre p s)) := by
  unfold Gw.Rec.isPre
  refine PC.of tabOk mixed (fn := Tryd.f38) (by kernel_rfl) rfl (by kernel_rfl) rfl rfl ?_
  conv => whnf
  refine ⟨fun h => ?_, fun h => ?_⟩
  · have h := of_decide_eq_true h
    conv => whnf
    refine ⟨by omega, ?_⟩
    conv => whnf
    rw [Int.toNat_natCast, decide_eq_true (by omega : p.length ≤ s.length), Bool.true_and]
  · have h := of_decide_eq_false h
    conv => whnf
    rw [decide_eq_false (by omega : ¬ p.length ≤ s.length)]; rfl
theorem recPre_pc (s p : List UInt8) : PC Tryd.prog 30 [.str s, .str p] (.bool (Gw.Rec.isPre p s)) := by
  refine PC.of tabOk mixed (fn := Tryd.f30) (by kernel_rfl) rfl (by kernel_rfl) rfl rfl ?_
  conv => whnf
  refine AC.of_pc (recPre0_pc s p) rfl ?_
  conv => whnf
theorem tookT_eq (s : List UInt8) : tookTextV s = match Gw.Rec.takeT s with
    | none => .tup [.str [], .str [], .int .i64 40]
    | some (x, y) => .tup [.str x, .str y, .int .i64 0] := by
  unfold tookTextV Gw.Rec.takeT takeText
  cases Gw.Vlq.take s with
  | none => rfl
  | some p =>
    obtain ⟨n, u⟩ := p
    by_cases h : n + u ≤ s.length
    · simp only [if_pos h]
    · simp only [if_neg h]
theorem openV_eq (s : List UInt8) : openV s = match Gw.Rec.openS s with
    | none => .tup [.str [], .bool false]
    | some x => .tup [.str x, .bool true] := by
  unfold openV Gw.Rec.openS
  split <;> rfl
def recTookV (o : Option (List UInt8 × Nat)) : V := match o with
  | none => .tup [.str [], .int .i64 0, .bool false]
  | some (p, k) => .tup [.str p, .int .i64 (k : Int), .bool true]
theorem recTake_pc (s : List UInt8) (lsn : Int) (hs : s.length ≤ 1048576) : PC Tryd.prog 12 [.str s, .int .i64 lsn] (recTookV (Gw.Rec.take s lsn)) := by
  unfold Gw.Rec.take
  refine PC.of tabOk mixed (fn := Tryd.f12) (by kernel_rfl) rfl (by kernel_rfl) rfl rfl ?_
  conv => whnf
  refine ⟨fun h1 => ?_, fun h1 => ?_⟩
  · have h1 := of_decide_eq_true h1
    rw [if_pos (.inl h1)]
    conv => whnf
    repeat (first | refine ⟨fun _ => ?_, fun h => absurd h (by decide)⟩ | refine ⟨fun h => absurd h (by decide), fun _ => ?_⟩ | refine ⟨fun _ => ?_, fun h => absurd (show true = false from h) (by decide)⟩ | refine ⟨fun h => absurd (show false = true from h) (by decide), fun _ => ?_⟩
            (conv => whnf))
    rfl
  have h1 := of_decide_eq_false h1
  conv => whnf
  refine ⟨fun h2 => ?_, fun h2 => ?_⟩
  · have h2 := of_decide_eq_true h2
    rw [if_pos (.inr h2)]
    conv => whnf
    rfl
  have h2 := of_decide_eq_false h2
  rw [if_neg (fun h => h.elim h1 h2)]
  obtain ⟨R, hR⟩ : ∃ R, R = recTookV (Gw.Rec.takeW s lsn (Gw.Rec.whole s (Gw.Rec.mark lsn.toNat))) := ⟨_, rfl⟩
  rw [← hR]
  obtain ⟨n, rfl⟩ : ∃ n : Nat, lsn = n := ⟨lsn.toNat, by omega⟩
  rw [Int.toNat_natCast] at hR
  have hwl := Gw.Rec.whole_len s (Gw.Rec.mark n)
  have c1 := mark_pc n
  have c2 := whole_pc s (Gw.Rec.mark n) hs
  generalize Gw.Rec.whole s (Gw.Rec.mark n) = W at *
  have c3 := vtakeText_pc W (by omega)
  rw [tookT_eq] at c3
  conv => whnf
  refine AC.of_pc c1 rfl ?_
  conv => whnf
  refine AC.of_pc c2 rfl ?_
  conv => whnf
  rcases hT : Gw.Rec.takeT W with _ | ⟨y, y2⟩
  · rw [hT] at c3
    refine AC.of_pc c3 rfl ?_
    conv => whnf
    repeat (first | refine ⟨fun _ => ?_, fun h => absurd h (by decide)⟩ | refine ⟨fun h => absurd h (by decide), fun _ => ?_⟩ | refine ⟨fun _ => ?_, fun h => absurd (show true = false from h) (by decide)⟩ | refine ⟨fun h => absurd (show false = true from h) (by decide), fun _ => ?_⟩
            (conv => whnf))
    rw [hR, Gw.Rec.takeW, hT]; rfl
  rw [hT] at c3
  have hyl := Gw.Rec.takeT_len hT
  have c4 := open_pc y (by omega)
  rw [openV_eq] at c4
  refine AC.of_pc c3 rfl ?_
  conv => whnf
  repeat (first | refine ⟨fun _ => ?_, fun h => absurd h (by decide)⟩ | refine ⟨fun h => absurd h (by decide), fun _ => ?_⟩ | refine ⟨fun _ => ?_, fun h => absurd (show true = false from h) (by decide)⟩ | refine ⟨fun h => absurd (show false = true from h) (by decide), fun _ => ?_⟩
          (conv => whnf))
  rcases hO : Gw.Rec.openS y with _ | b
  · rw [hO] at c4
    refine AC.of_pc c4 rfl ?_
    conv => whnf
    repeat (first | refine ⟨fun _ => ?_, fun h => absurd h (by decide)⟩ | refine ⟨fun h => absurd h (by decide), fun _ => ?_⟩ | refine ⟨fun _ => ?_, fun h => absurd (show true = false from h) (by decide)⟩ | refine ⟨fun h => absurd (show false = true from h) (by decide), fun _ => ?_⟩
            (conv => whnf))
    rw [hR]; simp only [Gw.Rec.takeW, hT, hO]; rfl
  rw [hO] at c4
  have hbl := Gw.Rec.openS_len hO
  refine AC.of_pc c4 rfl ?_
  conv => whnf
  repeat (first | refine ⟨fun _ => ?_, fun h => absurd h (by decide)⟩ | refine ⟨fun h => absurd h (by decide), fun _ => ?_⟩ | refine ⟨fun _ => ?_, fun h => absurd (show true = false from h) (by decide)⟩ | refine ⟨fun h => absurd (show false = true from h) (by decide), fun _ => ?_⟩
          (conv => whnf))
  have c5 := vtake_pc b (by omega)
  rcases hV : Gw.Vlq.take b with _ | ⟨q, u⟩
  · rw [show tookV b = .tup [.int .i64 0, .str [], .int .i64 40] from by unfold tookV; rw [hV]] at c5
    refine AC.of_pc c5 rfl ?_
    conv => whnf
    repeat (first | refine ⟨fun _ => ?_, fun h => absurd h (by decide)⟩ | refine ⟨fun h => absurd h (by decide), fun _ => ?_⟩ | refine ⟨fun _ => ?_, fun h => absurd (show true = false from h) (by decide)⟩ | refine ⟨fun h => absurd (show false = true from h) (by decide), fun _ => ?_⟩
            (conv => whnf))
    rw [hR]; simp only [Gw.Rec.takeW, hT, hO, Gw.Rec.takeN, hV]; rfl
  rw [show tookV b = .tup [.int .i64 (q : Int), .str (b.drop u), .int .i64 0] from by unfold tookV; rw [hV]] at c5
  refine AC.of_pc c5 rfl ?_
  conv => whnf
  repeat (first | refine ⟨fun _ => ?_, fun h => absurd h (by decide)⟩ | refine ⟨fun h => absurd h (by decide), fun _ => ?_⟩ | refine ⟨fun _ => ?_, fun h => absurd (show true = false from h) (by decide)⟩ | refine ⟨fun h => absurd (show false = true from h) (by decide), fun _ => ?_⟩
          (conv => whnf))
  have c6 := vtakeText_pc (b.drop u) (by rw [List.length_drop]; omega)
  rw [tookT_eq] at c6
  rcases hT2 : Gw.Rec.takeT (b.drop u) with _ | ⟨p, p2⟩
  · rw [hT2] at c6
    refine AC.of_pc c6 rfl ?_
    conv => whnf
    repeat (first | refine ⟨fun _ => ?_, fun h => absurd h (by decide)⟩ | refine ⟨fun h => absurd h (by decide), fun _ => ?_⟩ | refine ⟨fun _ => ?_, fun h => absurd (show true = false from h) (by decide)⟩ | refine ⟨fun h => absurd (show false = true from h) (by decide), fun _ => ?_⟩
            (conv => whnf))
    rw [hR]; simp only [Gw.Rec.takeW, hT, hO, Gw.Rec.takeN, hV, hT2]; rfl
  rw [hT2] at c6
  refine AC.of_pc c6 rfl ?_
  conv => whnf
  repeat (first | refine ⟨fun _ => ?_, fun h => absurd h (by decide)⟩ | refine ⟨fun h => absurd h (by decide), fun _ => ?_⟩ | refine ⟨fun _ => ?_, fun h => absurd (show true = false from h) (by decide)⟩ | refine ⟨fun h => absurd (show false = true from h) (by decide), fun _ => ?_⟩
          (conv => whnf))
  have c7 := pack_pc n p
  unfold Gw.Rec.pack Gw.Rec.packErr at c7
  rw [Int.toNat_natCast] at c7
  by_cases hm : Gw.Rec.may n p = true
  · rw [if_pos hm, if_pos hm] at c7
    have c8 := recPre_pc s (Gw.Rec.packed n p)
    refine AC.of_pc c7 rfl ?_
    conv => whnf
    repeat (first | refine ⟨fun _ => ?_, fun h => absurd h (by decide)⟩ | refine ⟨fun h => absurd h (by decide), fun _ => ?_⟩ | refine ⟨fun _ => ?_, fun h => absurd (show true = false from h) (by decide)⟩ | refine ⟨fun h => absurd (show false = true from h) (by decide), fun _ => ?_⟩
            (conv => whnf))
    refine AC.of_pc c8 rfl ?_
    conv => whnf
    refine ⟨fun hp => ?_, fun hp => ?_⟩
    · have hp : Gw.Rec.isPre (Gw.Rec.packed n p) s = false := by simpa using hp
      conv => whnf
      rw [hR]; simp only [Gw.Rec.takeW, hT, hO, Gw.Rec.takeN, hV, hT2, Gw.Rec.takeB]; rw [if_pos hm, Int.toNat_natCast, hp]; rfl
    · have hp : Gw.Rec.isPre (Gw.Rec.packed n p) s = true := by simpa using hp
      conv => whnf
      rw [hR]; simp only [Gw.Rec.takeW, hT, hO, Gw.Rec.takeN, hV, hT2, Gw.Rec.takeB]; rw [if_pos hm, Int.toNat_natCast, hp, if_pos rfl]
      have hl : (Gw.Rec.packed n p).length ≤ s.length := by
        unfold Gw.Rec.isPre at hp
        rw [Bool.and_eq_true, decide_eq_true_eq] at hp
        exact hp.1
      have e : (((Gw.Rec.packed n p).length : Int)).tdiv 16 = (((Gw.Rec.packed n p).length / 16 : Nat) : Int) := Int.ofNat_tdiv _ 16
      rw [e, w64 (by omega) (by omega)]; rfl
  · rw [if_neg hm, if_neg hm] at c7
    refine AC.of_pc c7 rfl ?_
    conv => whnf
    repeat (first | refine ⟨fun _ => ?_, fun h => absurd h (by decide)⟩ | refine ⟨fun h => absurd h (by decide), fun _ => ?_⟩ | refine ⟨fun _ => ?_, fun h => absurd (show true = false from h) (by decide)⟩ | refine ⟨fun h => absurd (show false = true from h) (by decide), fun _ => ?_⟩
            (conv => whnf))
    rw [hR]; simp only [Gw.Rec.takeW, hT, hO, Gw.Rec.takeN, hV, hT2, Gw.Rec.takeB]; rw [if_neg hm]; rfl
end Go.Proofs.YtkempcjemeipnaaDoor
