/- What the laws of records compute: told without addresses. No claim of its own. -/
import Derived.Test.YtkempcjemeipnaaDoorARec6
import Derived.Test.YtkempcjemeipnaaDoorRecLaw2
namespace Go.Proofs.YtkempcjemeipnaaDoor
open Go.Am

def textB : List UInt8 := [116, 104, 105, 115, 32, 111, 110, 101, 32, 104, 97, 115, 32, 109, 111, 114, 101, 32, 116, 104, 97, 110, 32, 97, 32, 115, 101, 99, 116, 111, 114]
theorem sec1 : Gw.Rec.packed 1 [97, 98] = [2, 8, 1, 2, 97, 98] ++ Gw.Sums.bytes (Gw.Sums.sum [1, 2, 97, 98]) ++ [0, 0, 0, 0, 0, 2] := by decide +kernel
theorem sec2 : (Gw.Rec.packed 2 textB).length = 48 := by decide +kernel
theorem may1 : Gw.Rec.may 1 [97, 98] = true := by decide +kernel
theorem may2 : Gw.Rec.may 2 textB = true := by decide +kernel
theorem many1 : Gw.Rec.many (Gw.Rec.bytes 1 [97, 98]) = 1 := by decide +kernel
theorem awake_pc : PC Tryd.prog 9 [] (.bool true) := by
  have c1 := pack_pc 1 [97, 98]
  have c2 := pack_pc 2 textB
  have c3 := pack_pc 0 []
  have l1 : (Gw.Rec.packed 1 [97, 98]).length = 16 := by rw [Gw.Rec.packed_len, many1]
  have l2 := sec2
  have c4 := recTake_pc (Gw.Rec.packed 1 [97, 98] ++ Gw.Rec.packed 2 textB) 1 (by rw [List.length_append]; omega)
  have c5 := recAll_pc (Gw.Rec.packed 1 [97, 98] ++ Gw.Rec.packed 2 textB ++ Gw.Rec.packed 1 [97, 98]) 1 (by simp only [List.length_append]; omega)
  have c6 := recTake_pc (Gw.Rec.packed 1 [97, 98]) 2 (by omega)
  have t1 := Gw.Rec.take_pack may1 (Gw.Rec.packed 2 textB)
  have t2 := Gw.Rec.take_other may1 (b := 2) (by decide) []
  have t3 : Gw.Rec.all (Gw.Rec.packed 1 [97, 98] ++ Gw.Rec.packed 2 textB ++ Gw.Rec.packed 1 [97, 98]) 1 = ([[97, 98], textB], 4) := by
    have t4 := Gw.Rec.take_other may1 (b := 3) (by decide) []
    rw [List.append_nil] at t4
    obtain ⟨k, hk, h⟩ := Gw.Rec.alls_packs [[97, 98], textB] 1 (Gw.Rec.packed 1 [97, 98]) [] 0 (by decide) (by decide) (by decide +kernel) (.nil t4)
    have e : Gw.Rec.packs [[97, 98], textB] 1 = Gw.Rec.packed 1 [97, 98] ++ Gw.Rec.packed 2 textB := by
      show Gw.Rec.packed 1 [97, 98] ++ (Gw.Rec.packed 2 textB ++ []) = _
      rw [List.append_nil]
    rw [e] at hk h
    rw [List.length_append, l1, l2] at hk
    obtain rfl : k = 4 := by omega
    exact Gw.Rec.all_of h
  rw [show ((1 : Int)).toNat = 1 from rfl] at t1 t2
  rw [List.append_nil] at t2
  rw [many1] at t1
  rw [t1] at c4
  rw [t2] at c6
  rw [t3] at c5
  have p1 : Gw.Rec.pack 1 [97, 98] = Gw.Rec.packed 1 [97, 98] := by unfold Gw.Rec.pack; rw [may1]; rfl
  have p2 : Gw.Rec.pack 2 textB = Gw.Rec.packed 2 textB := by unfold Gw.Rec.pack; rw [may2]; rfl
  have p3 : Gw.Rec.pack 0 [] = [] := rfl
  have e1 : Gw.Rec.packErr 1 [97, 98] = 0 := by unfold Gw.Rec.packErr; rw [may1]; rfl
  have e2 : Gw.Rec.packErr 2 textB = 0 := by unfold Gw.Rec.packErr; rw [may2]; rfl
  have e3 : Gw.Rec.packErr 0 [] = 130 := rfl
  rw [p1, e1] at c1
  rw [p2, e2] at c2
  rw [p3, e3] at c3
  have hs := sec1
  have c7 := sum_pc [1, 2, 97, 98] (by unfold maxLen; decide)
  have c8 := sbytes_pc (Gw.Sums.sum [1, 2, 97, 98]) (Gw.Sums.sum_lt _)
  have c9 := strSame_pc false false [[97, 98], textB] [[97, 98], textB] (by decide)
  rw [decide_eq_true rfl] at c9
  have hbl : (Gw.Sums.bytes (Gw.Sums.sum [1, 2, 97, 98])).length = 4 := rfl
  generalize Gw.Rec.packed 1 [97, 98] = S at *
  generalize Gw.Rec.packed 2 textB = U at *
  generalize Gw.Sums.sum [1, 2, 97, 98] = m at *
  generalize Gw.Sums.bytes m = mb at *
  refine PC.of tabOk mixed (fn := Tryd.f9) (by kernel_rfl) rfl (by kernel_rfl) rfl rfl ?_
  conv => whnf
  refine AC.of_pc c1 rfl ?_
  conv => whnf
  refine AC.of_pc c2 rfl ?_
  conv => whnf
  refine AC.of_pc c3 rfl ?_
  conv => whnf
  refine ⟨by omega, ?_⟩
  conv => whnf
  refine AC.of_pc c4 rfl ?_
  conv => whnf
  refine ⟨by omega, ?_⟩
  conv => whnf
  refine ⟨by show (S ++ U).length + S.length < _; rw [List.length_append]; omega, ?_⟩
  conv => whnf
  refine AC.of_pc c5 rfl ?_
  conv => whnf
  refine AC.of_pc c6 rfl ?_
  conv => whnf
  refine AC.of_pc c7 rfl ?_
  conv => whnf
  refine AC.of_pc c8 rfl ?_
  conv => whnf
  refine ⟨by rw [hbl]; decide, ?_⟩
  conv => whnf
  refine ⟨by show ([2, 8, 1, 2, 97, 98] ++ mb).length + 6 < _; rw [List.length_append, hbl]; decide, ?_⟩
  conv => whnf
  have hts : decide (S = [2, 8, 1, 2, 97, 98] ++ mb ++ [0, 0, 0, 0, 0, 2]) = true := decide_eq_true hs
  refine ⟨fun _ => ?_, fun h => absurd (hts.symm.trans h) (by decide)⟩
  conv => whnf
  repeat (first | refine ⟨fun _ => ?_, fun h => absurd h (by decide)⟩ | refine ⟨fun h => absurd h (by decide), fun _ => ?_⟩ | refine ⟨fun _ => ?_, fun h => absurd (show true = false from h) (by decide)⟩ | refine ⟨fun h => absurd (show false = true from h) (by decide), fun _ => ?_⟩
          (conv => whnf))
  have hu : (((U.length : Nat) : Int) == 48) = true := by rw [l2]; rfl
  refine ⟨fun _ => ?_, fun h => absurd (hu.symm.trans h) (by decide)⟩
  conv => whnf
  repeat (first | refine ⟨fun _ => ?_, fun h => absurd h (by decide)⟩ | refine ⟨fun h => absurd h (by decide), fun _ => ?_⟩ | refine ⟨fun _ => ?_, fun h => absurd (show true = false from h) (by decide)⟩ | refine ⟨fun h => absurd (show false = true from h) (by decide), fun _ => ?_⟩
          (conv => whnf))
  refine AC.of_pc c9 rfl ?_
  conv => whnf
  repeat (first | refine ⟨fun _ => ?_, fun h => absurd h (by decide)⟩ | refine ⟨fun h => absurd h (by decide), fun _ => ?_⟩ | refine ⟨fun _ => ?_, fun h => absurd (show true = false from h) (by decide)⟩ | refine ⟨fun h => absurd (show false = true from h) (by decide), fun _ => ?_⟩
          (conv => whnf))
  rfl
theorem all_small (s : List UInt8) (lsn : Int) : (Gw.Rec.all s lsn).1.length ≤ s.length := by
  have h : ∀ {s lsn l m}, Gw.Rec.Alls s lsn l m → l.length ≤ s.length := fun h => by
    induction h with
    | nil _ => exact Nat.zero_le _
    | cons e _ ih =>
      have := Gw.Rec.take_bound e
      rw [List.length_drop] at ih
      rw [List.length_cons]; omega
  exact h (Gw.Rec.all_alls s lsn)
theorem tells_pc (lsn : Int) (p s : List UInt8) (hlo : -9223372036854775808 ≤ lsn) (hhi : lsn < 9223372036854775808) : PC Tryd.prog 3 [.int .i64 lsn, .str p, .str s] (.bool true) := by
  have c1 := pack_pc lsn p
  have c2 := rpack_pc lsn p
  refine PC.of tabOk mixed (fn := Tryd.f3) (by kernel_rfl) rfl (by kernel_rfl) rfl rfl ?_
  conv => whnf
  refine AC.of_pc awake_pc rfl ?_
  conv => whnf
  refine ⟨fun h1 => ?_, fun h1 => ?_⟩
  · have h1 := of_decide_eq_true h1
    conv => whnf
    refine ⟨fun h2 => ?_, fun h2 => ?_⟩
    · conv => whnf
      repeat (first | refine ⟨fun _ => ?_, fun h => absurd h (by decide)⟩ | refine ⟨fun h => absurd h (by decide), fun _ => ?_⟩ | refine ⟨fun _ => ?_, fun h => absurd (show true = false from h) (by decide)⟩ | refine ⟨fun h => absurd (show false = true from h) (by decide), fun _ => ?_⟩
              (conv => whnf))
      try rfl
    conv => whnf
    refine ⟨fun h3 => ?_, fun h3 => ?_⟩
    · conv => whnf
      repeat (first | refine ⟨fun _ => ?_, fun h => absurd h (by decide)⟩ | refine ⟨fun h => absurd h (by decide), fun _ => ?_⟩ | refine ⟨fun _ => ?_, fun h => absurd (show true = false from h) (by decide)⟩ | refine ⟨fun h => absurd (show false = true from h) (by decide), fun _ => ?_⟩
              (conv => whnf))
      try rfl
    have h3 : s.length ≤ 1000 := by have := of_decide_eq_false h3; omega
    have c3 := recTake_pc s lsn (by omega)
    have c4 := rtakeRec_pc s lsn (by omega)
    have c5 := recAll_pc s lsn (by omega)
    have c6 := rAll_pc s lsn (by omega) hlo hhi
    have hal : (Gw.Rec.all s lsn).1.length ≤ 1048576 := Nat.le_trans (all_small s lsn) (by omega)
    generalize Gw.Rec.all s lsn = r at *
    obtain ⟨l, m⟩ := r
    simp only at hal
    have c7 := strSame_pc (decide (l = [])) (decide (l = [])) l l hal
    rw [decide_eq_true rfl] at c7
    obtain ⟨x, k, b, hx⟩ : ∃ x k b, recTookV (Gw.Rec.take s lsn) = .tup [.str x, .int .i64 k, .bool b] := by
      cases Gw.Rec.take s lsn with
      | none => exact ⟨_, _, _, rfl⟩
      | some q => exact ⟨_, _, _, rfl⟩
    rw [hx] at c3 c4
    generalize Gw.Rec.pack lsn p = w at *
    generalize Gw.Rec.packErr lsn p = e at *
    conv => whnf
    refine AC.of_pc c1 rfl ?_
    conv => whnf
    refine AC.of_pc c2 rfl ?_
    conv => whnf
    refine AC.of_pc c3 rfl ?_
    conv => whnf
    refine AC.of_pc c4 rfl ?_
    conv => whnf
    refine AC.of_pc c5 rfl ?_
    conv => whnf
    refine AC.of_pc c6 rfl ?_
    conv => whnf
    repeat (first | refine ⟨fun _ => ?_, fun h => absurd h (by decide)⟩ | refine ⟨fun h => absurd h (by decide), fun _ => ?_⟩ | refine ⟨fun _ => ?_, fun h => absurd (show true = false from h) (by decide)⟩ | refine ⟨fun h => absurd (show false = true from h) (by decide), fun _ => ?_⟩
            (conv => whnf))
    repeat (first | refine ⟨fun _ => ?_, fun h => absurd h (by simp)⟩
            (conv => whnf))
    refine AC.of_pc c7 rfl ?_
    conv => whnf
    repeat (first | refine ⟨fun _ => ?_, fun h => absurd h (by decide)⟩ | refine ⟨fun h => absurd h (by decide), fun _ => ?_⟩ | refine ⟨fun _ => ?_, fun h => absurd (show true = false from h) (by decide)⟩ | refine ⟨fun h => absurd (show false = true from h) (by decide), fun _ => ?_⟩
            (conv => whnf))
    rw [beq_self_eq_true]
  · have h1 := of_decide_eq_false h1
    conv => whnf
    refine ⟨fun h3 => ?_, fun h3 => ?_⟩
    · conv => whnf
      repeat (first | refine ⟨fun _ => ?_, fun h => absurd h (by decide)⟩ | refine ⟨fun h => absurd h (by decide), fun _ => ?_⟩ | refine ⟨fun _ => ?_, fun h => absurd (show true = false from h) (by decide)⟩ | refine ⟨fun h => absurd (show false = true from h) (by decide), fun _ => ?_⟩
              (conv => whnf))
      try rfl
    have h3 : s.length ≤ 1000 := by have := of_decide_eq_false h3; omega
    have c3 := recTake_pc s lsn (by omega)
    have c4 := rtakeRec_pc s lsn (by omega)
    have c5 := recAll_pc s lsn (by omega)
    have c6 := rAll_pc s lsn (by omega) hlo hhi
    have hal : (Gw.Rec.all s lsn).1.length ≤ 1048576 := Nat.le_trans (all_small s lsn) (by omega)
    generalize Gw.Rec.all s lsn = r at *
    obtain ⟨l, m⟩ := r
    simp only at hal
    have c7 := strSame_pc (decide (l = [])) (decide (l = [])) l l hal
    rw [decide_eq_true rfl] at c7
    obtain ⟨x, k, b, hx⟩ : ∃ x k b, recTookV (Gw.Rec.take s lsn) = .tup [.str x, .int .i64 k, .bool b] := by
      cases Gw.Rec.take s lsn with
      | none => exact ⟨_, _, _, rfl⟩
      | some q => exact ⟨_, _, _, rfl⟩
    rw [hx] at c3 c4
    generalize Gw.Rec.pack lsn p = w at *
    generalize Gw.Rec.packErr lsn p = e at *
    conv => whnf
    refine AC.of_pc c1 rfl ?_
    conv => whnf
    refine AC.of_pc c2 rfl ?_
    conv => whnf
    refine AC.of_pc c3 rfl ?_
    conv => whnf
    refine AC.of_pc c4 rfl ?_
    conv => whnf
    refine AC.of_pc c5 rfl ?_
    conv => whnf
    refine AC.of_pc c6 rfl ?_
    conv => whnf
    repeat (first | refine ⟨fun _ => ?_, fun h => absurd h (by decide)⟩ | refine ⟨fun h => absurd h (by decide), fun _ => ?_⟩ | refine ⟨fun _ => ?_, fun h => absurd (show true = false from h) (by decide)⟩ | refine ⟨fun h => absurd (show false = true from h) (by decide), fun _ => ?_⟩
            (conv => whnf))
    repeat (first | refine ⟨fun _ => ?_, fun h => absurd h (by simp)⟩
            (conv => whnf))
    refine AC.of_pc c7 rfl ?_
    conv => whnf
    repeat (first | refine ⟨fun _ => ?_, fun h => absurd h (by decide)⟩ | refine ⟨fun h => absurd h (by decide), fun _ => ?_⟩ | refine ⟨fun _ => ?_, fun h => absurd (show true = false from h) (by decide)⟩ | refine ⟨fun h => absurd (show false = true from h) (by decide), fun _ => ?_⟩
            (conv => whnf))
    rw [beq_self_eq_true]
end Go.Proofs.YtkempcjemeipnaaDoor
