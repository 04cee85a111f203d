/- NameDeep: told without addresses. No claim of its own. -/
import Derived.Test.YtgbahdoiogcpiaaDoorAName3
import Derived.Test.YtgbahdoiogcpiaaDoorNameLaw2
namespace Go.Proofs.YtgbahdoiogcpiaaDoor
open Go.Am

theorem deep_pc (s : List UInt8) (n : Nat) (hn : n ≤ 255) : PC Tryd.prog 8 [.str s, .int .u8 n] (.bool true) := by
  refine PC.of tabOk mixed (fn := Tryd.f8) (by kernel_rfl) rfl (by kernel_rfl) rfl rfl ?_
  have hk : IntKind.i64.wrap ((n : Int).tmod 40) = ((n % 40 : Nat) : Int) := by rw [tmod_pos (by omega), w64 (by omega) (by omega)]; rfl
  have hk40 : n % 40 < 40 := Nat.mod_lt _ (by decide)
  conv => whnf
  refine AC.of_pc awake_pc rfl ?_
  conv => whnf
  refine ⟨fun h => ?_, fun h => ?_⟩
  · conv => whnf
    repeat (first | refine ⟨fun _ => ?_, fun h => absurd h (by decide)⟩ | refine ⟨fun h => absurd h (by decide), fun _ => ?_⟩ | refine ⟨fun _ => ?_, fun h => absurd (show true = false from h) (by decide)⟩ | refine ⟨fun h => absurd (show false = true from h) (by decide), fun _ => ?_⟩
            (conv => whnf))
  have hs : s.length ≤ 1000 := by have := of_decide_eq_false h; omega
  rw [hk]
  generalize n % 40 = k at hk hk40
  conv => whnf
  refine ⟨fun h => ?_, fun h => ?_⟩
  · conv => whnf
  have hk0 : 0 < k := by have h : ((k : Int) == 0) = false := h; simp at h; omega
  conv => whnf
  refine AW.row 8 9 1 rfl rfl (.inr rfl) ?_
  refine AW.loop (fun i : Nat => [(.tmp 0, .v (.str s)), (.tmp 5, .v (.bool true)), (.tmp 6, .v (.int .i64 k)), (.tmp 7, .v (.str (Gw.Name.many s i))), (.tmp 8, .v (.lst (decide (i = 0)) 1 (encT (List.replicate i s)) (.row 16))), (.tmp 9, .v (.int .i64 i)), (.row 16, .row 9 1 i)])
    17 (fun i => i ≤ k) (fun i => k - i) (by decide) 0 (Nat.zero_le _) ⟨rfl, rfl, ?_, rfl, ?_, rfl, rfl, rfl, rfl, rfl, rfl, rfl, rfl, rfl, trivial⟩ ?_
  · rfl
  · rfl
  rintro i hi
  have hml := Gw.Name.many_len s i
  have hmb : i * (s.length + 1) ≤ 40 * 1001 := Nat.mul_le_mul (by omega) (by omega)
  have hel : (encT (List.replicate i s)).length = i := by rw [encT_len, List.length_replicate]
  refine ev_sound tabOk mixed _ _ _ _ ?_
  conv => whnf
  refine ⟨fun h => ?_, fun h => ?_⟩
  · have h := of_decide_eq_true h
    conv => whnf
    refine ⟨by show (Gw.Name.many s i).length + ([47] : List UInt8).length < _; simp only [List.length_cons, List.length_nil]; omega, ?_⟩
    conv => whnf
    refine ⟨by show (Gw.Name.many s i ++ ([47] : List UInt8)).length + s.length < _; simp only [List.length_append, List.length_cons, List.length_nil]; omega, ?_⟩
    conv => whnf
    refine ⟨⟨hel.symm, fits_small (by show (encT _).length + 1 ≤ _; omega) (by decide)⟩, ?_⟩
    conv => whnf
    refine ⟨i + 1, by show i + 1 ≤ k; omega, by show k - (i + 1) < k - i; omega, rfl, rfl, rfl, rfl, rfl, rfl, ?_, rfl, ?_, rfl, ?_, rfl, ?_, rfl, trivial⟩
    · show C.v (V.str _) = C.v (V.str (Gw.Name.many s (i + 1)))
      rw [Gw.Name.many_succ]
    · show C.v (V.lst (decide (i = 0) && false) 1 (encT (List.replicate i s) ++ [[V.str s]]) _) = C.v (V.lst (decide (i + 1 = 0)) 1 (encT (List.replicate (i + 1) s)) _)
      rw [Bool.and_false, decide_eq_false (Nat.succ_ne_zero i), encT, encT, List.replicate_succ', List.map_append]; rfl
    · show C.v (V.int .i64 (IntKind.i64.wrap ((i : Int) + 1))) = C.v (V.int .i64 ((i + 1 : Nat) : Int))
      rw [w64 (by omega) (by omega)]; rfl
    · show C.row _ 1 ((encT _).length + 1) = C.row _ 1 (i + 1)
      rw [hel]
  have h := of_decide_eq_false h
  obtain rfl : i = k := by omega
  generalize i = k at *
  rw [show decide (k = 0) = false from decide_eq_false (by omega)]
  have c1 := nameSplit_pc (Gw.Name.many s k) (by omega)
  have c2 := nameJoin_pc false (List.replicate k s) (fun t ht => by rw [List.eq_of_mem_replicate ht]; omega)
  have c3 := nameCheck_pc s (by omega)
  have c4 := same_pc false false (List.replicate k s) (List.replicate k s) (by rw [List.length_replicate]; omega)
  rw [show decide (List.replicate k s = List.replicate k s) = true from decide_eq_true rfl] at c4
  have hj := Gw.Name.join_many (s := s) hk0
  cases hck : Gw.Name.check s with
  | false =>
    rw [hck] at c3 hj
    rw [hj] at c2
    have c2 : PC Tryd.prog 15 [.lst false 1 (encT (List.replicate k s)) .none] (.tup [.str [], .int .i64 10]) := c2
    rcases Gw.Name.paths_many (s := s) hk0 with hp | ⟨hs0, hp⟩ | hp
    · rw [hp] at c1
      conv => whnf
      refine AC.of_pc c1 rfl ?_
      conv => whnf
      refine AC.of_pc c2 rfl ?_
      conv => whnf
      refine AC.of_pc c3 rfl ?_
      conv => whnf
      repeat (first | refine ⟨fun _ => ?_, fun h => absurd h (by decide)⟩ | refine ⟨fun h => absurd h (by decide), fun _ => ?_⟩ | refine ⟨fun _ => ?_, fun h => absurd (show true = false from h) (by decide)⟩ | refine ⟨fun h => absurd (show false = true from h) (by decide), fun _ => ?_⟩
              (conv => whnf))
    · cases hy : Gw.Name.paths (Gw.Name.many s k) with
      | none => rw [hy] at hp; exact absurd rfl hp
      | some y =>
        rw [hy] at c1 hp
        cases y with
        | nil => exact absurd rfl hp
        | cons z y =>
          conv => whnf
          refine AC.of_pc c1 rfl ?_
          conv => whnf
          refine AC.of_pc c2 rfl ?_
          conv => whnf
          refine AC.of_pc c3 rfl ?_
          conv => whnf
          repeat (first | refine ⟨fun _ => ?_, fun h => absurd h (by decide)⟩ | refine ⟨fun h => absurd h (by decide), fun _ => ?_⟩ | refine ⟨fun _ => ?_, fun h => absurd (show true = false from h) (by decide)⟩ | refine ⟨fun h => absurd (show false = true from h) (by decide), fun _ => ?_⟩
                  (conv => whnf))
          refine ⟨fun _ => ?_, fun h => absurd (of_decide_eq_false h) (by omega)⟩
          conv => whnf
          refine ⟨fun _ => ?_, fun h => absurd h (by simp [hs0])⟩
          conv => whnf
          refine ⟨fun _ => ?_, fun h => absurd (of_decide_eq_false h) (by simp [encT])⟩
          conv => whnf
          repeat (first | refine ⟨fun _ => ?_, fun h => absurd h (by decide)⟩ | refine ⟨fun h => absurd h (by decide), fun _ => ?_⟩ | refine ⟨fun _ => ?_, fun h => absurd (show true = false from h) (by decide)⟩ | refine ⟨fun h => absurd (show false = true from h) (by decide), fun _ => ?_⟩
                  (conv => whnf))
    · rw [hp, show Gw.Name.paths [47] = some [] from rfl] at c1
      obtain rfl : s = [] := by
        have := congrArg List.length hp
        rw [Gw.Name.many_len] at this
        have h2 : k * (s.length + 1) = k * s.length + k := by rw [Nat.mul_add, Nat.mul_one]
        cases s with
        | nil => rfl
        | cons x s => simp only [List.length_cons, List.length_nil] at this; exfalso; have : k * (s.length + 1 + 1) = 1 := this; have h3 := Nat.le_mul_of_pos_left (s.length + 1 + 1) hk0; omega
      rw [hp]
      conv => whnf
      refine AC.of_pc c1 rfl ?_
      conv => whnf
      refine AC.of_pc c2 rfl ?_
      conv => whnf
      refine AC.of_pc c3 rfl ?_
      conv => whnf
      repeat (first | refine ⟨fun _ => ?_, fun h => absurd h (by decide)⟩ | refine ⟨fun h => absurd h (by decide), fun _ => ?_⟩ | refine ⟨fun _ => ?_, fun h => absurd (show true = false from h) (by decide)⟩ | refine ⟨fun h => absurd (show false = true from h) (by decide), fun _ => ?_⟩
              (conv => whnf))
      refine ⟨fun _ => ?_, fun h => absurd (of_decide_eq_false h) (by omega)⟩
      conv => whnf
      repeat (first | refine ⟨fun _ => ?_, fun h => absurd h (by decide)⟩ | refine ⟨fun h => absurd h (by decide), fun _ => ?_⟩ | refine ⟨fun _ => ?_, fun h => absurd (show true = false from h) (by decide)⟩ | refine ⟨fun h => absurd (show false = true from h) (by decide), fun _ => ?_⟩
              (conv => whnf))
      exact congrArg V.bool (decide_eq_true rfl)
  | true =>
    rw [hck, Bool.true_and] at hj
    rw [hck] at c3
    by_cases h16 : k ≤ 16
    · rw [if_pos (decide_eq_true h16)] at hj
      rw [hj] at c2
      rw [Gw.Name.paths_join hj, pathsV_eq] at c1
      have e : decide (List.replicate k s = []) = false := decide_eq_false (fun e => by have := congrArg List.length e; rw [List.length_replicate] at this; simp at this; omega)
      have c1 : PC Tryd.prog 13 [.str (Gw.Name.many s k)] (.tup [.lst (decide (List.replicate k s = [])) 1 (encT (List.replicate k s)) .none, .int .i64 0]) := c1
      rw [e] at c1
      conv => whnf
      refine AC.of_pc c1 rfl ?_
      conv => whnf
      refine AC.of_pc c2 rfl ?_
      conv => whnf
      refine AC.of_pc c3 rfl ?_
      conv => whnf
      repeat (first | refine ⟨fun _ => ?_, fun h => absurd h (by decide)⟩ | refine ⟨fun h => absurd h (by decide), fun _ => ?_⟩ | refine ⟨fun _ => ?_, fun h => absurd (show true = false from h) (by decide)⟩ | refine ⟨fun h => absurd (show false = true from h) (by decide), fun _ => ?_⟩
              (conv => whnf))
      refine ⟨fun h => absurd (show (!decide ((k : Int) ≤ 16)) = true from h) (by simp; omega), fun _ => ?_⟩
      conv => whnf
      repeat (first | refine ⟨fun _ => ?_, fun h => absurd h (by decide)⟩ | refine ⟨fun h => absurd h (by decide), fun _ => ?_⟩ | refine ⟨fun _ => ?_, fun h => absurd (show true = false from h) (by decide)⟩ | refine ⟨fun h => absurd (show false = true from h) (by decide), fun _ => ?_⟩
              (conv => whnf))
      refine ⟨fun _ => ?_, fun h => absurd h (by simp)⟩
      conv => whnf
      refine AC.of_pc c4 rfl ?_
      conv => whnf
    · rw [if_neg (by simp; omega)] at hj
      rw [hj] at c2
      have c2 : PC Tryd.prog 15 [.lst false 1 (encT (List.replicate k s)) .none] (.tup [.str [], .int .i64 10]) := c2
      rcases Gw.Name.paths_many (s := s) hk0 with hp | ⟨hs0, hp⟩ | hp
      · rw [hp] at c1
        conv => whnf
        refine AC.of_pc c1 rfl ?_
        conv => whnf
        refine AC.of_pc c2 rfl ?_
        conv => whnf
        refine AC.of_pc c3 rfl ?_
        conv => whnf
        repeat (first | refine ⟨fun _ => ?_, fun h => absurd h (by decide)⟩ | refine ⟨fun h => absurd h (by decide), fun _ => ?_⟩ | refine ⟨fun _ => ?_, fun h => absurd (show true = false from h) (by decide)⟩ | refine ⟨fun h => absurd (show false = true from h) (by decide), fun _ => ?_⟩
                (conv => whnf))
        refine ⟨fun _ => ?_, fun h => absurd (show (!decide ((k : Int) ≤ 16)) = false from h) (by simp; omega)⟩
        conv => whnf
        repeat (first | refine ⟨fun _ => ?_, fun h => absurd h (by decide)⟩ | refine ⟨fun h => absurd h (by decide), fun _ => ?_⟩ | refine ⟨fun _ => ?_, fun h => absurd (show true = false from h) (by decide)⟩ | refine ⟨fun h => absurd (show false = true from h) (by decide), fun _ => ?_⟩
                (conv => whnf))
      · cases hy : Gw.Name.paths (Gw.Name.many s k) with
        | none => rw [hy] at hp; exact absurd rfl hp
        | some y =>
          rw [hy] at c1 hp
          cases y with
          | nil => exact absurd rfl hp
          | cons z y =>
            conv => whnf
            refine AC.of_pc c1 rfl ?_
            conv => whnf
            refine AC.of_pc c2 rfl ?_
            conv => whnf
            refine AC.of_pc c3 rfl ?_
            conv => whnf
            repeat (first | refine ⟨fun _ => ?_, fun h => absurd h (by decide)⟩ | refine ⟨fun h => absurd h (by decide), fun _ => ?_⟩ | refine ⟨fun _ => ?_, fun h => absurd (show true = false from h) (by decide)⟩ | refine ⟨fun h => absurd (show false = true from h) (by decide), fun _ => ?_⟩
                    (conv => whnf))
            refine ⟨fun _ => ?_, fun h => absurd (show (!decide ((k : Int) ≤ 16)) = false from h) (by simp; omega)⟩
            conv => whnf
            repeat (first | refine ⟨fun _ => ?_, fun h => absurd h (by decide)⟩ | refine ⟨fun h => absurd h (by decide), fun _ => ?_⟩ | refine ⟨fun _ => ?_, fun h => absurd (show true = false from h) (by decide)⟩ | refine ⟨fun h => absurd (show false = true from h) (by decide), fun _ => ?_⟩
                    (conv => whnf))
            refine ⟨fun _ => ?_, fun h => absurd (of_decide_eq_false h) (by omega)⟩
            conv => whnf
            refine ⟨fun _ => ?_, fun h => absurd h (by simp [hs0])⟩
            conv => whnf
            refine ⟨fun _ => ?_, fun h => absurd (of_decide_eq_false h) (by simp [encT])⟩
            conv => whnf
            repeat (first | refine ⟨fun _ => ?_, fun h => absurd h (by decide)⟩ | refine ⟨fun h => absurd h (by decide), fun _ => ?_⟩ | refine ⟨fun _ => ?_, fun h => absurd (show true = false from h) (by decide)⟩ | refine ⟨fun h => absurd (show false = true from h) (by decide), fun _ => ?_⟩
                    (conv => whnf))
      · rw [hp, show Gw.Name.paths [47] = some [] from rfl] at c1
        obtain rfl : s = [] := by
          have := congrArg List.length hp
          rw [Gw.Name.many_len] at this
          have h2 : k * (s.length + 1) = k * s.length + k := by rw [Nat.mul_add, Nat.mul_one]
          cases s with
          | nil => rfl
          | cons x s => simp only [List.length_cons, List.length_nil] at this; exfalso; have : k * (s.length + 1 + 1) = 1 := this; have h3 := Nat.le_mul_of_pos_left (s.length + 1 + 1) hk0; omega
        rw [hp]
        conv => whnf
        refine AC.of_pc c1 rfl ?_
        conv => whnf
        refine AC.of_pc c2 rfl ?_
        conv => whnf
        refine AC.of_pc c3 rfl ?_
        conv => whnf
        repeat (first | refine ⟨fun _ => ?_, fun h => absurd h (by decide)⟩ | refine ⟨fun h => absurd h (by decide), fun _ => ?_⟩ | refine ⟨fun _ => ?_, fun h => absurd (show true = false from h) (by decide)⟩ | refine ⟨fun h => absurd (show false = true from h) (by decide), fun _ => ?_⟩
                (conv => whnf))
        refine ⟨fun _ => ?_, fun h => absurd (show (!decide ((k : Int) ≤ 16)) = false from h) (by simp; omega)⟩
        conv => whnf
        repeat (first | refine ⟨fun _ => ?_, fun h => absurd h (by decide)⟩ | refine ⟨fun h => absurd h (by decide), fun _ => ?_⟩ | refine ⟨fun _ => ?_, fun h => absurd (show true = false from h) (by decide)⟩ | refine ⟨fun h => absurd (show false = true from h) (by decide), fun _ => ?_⟩
                (conv => whnf))
        refine ⟨fun _ => ?_, fun h => absurd (of_decide_eq_false h) (by omega)⟩
        conv => whnf
        repeat (first | refine ⟨fun _ => ?_, fun h => absurd h (by decide)⟩ | refine ⟨fun h => absurd h (by decide), fun _ => ?_⟩ | refine ⟨fun _ => ?_, fun h => absurd (show true = false from h) (by decide)⟩ | refine ⟨fun h => absurd (show false = true from h) (by decide), fun _ => ?_⟩
                (conv => whnf))
        exact congrArg V.bool (decide_eq_true rfl)
end Go.Proofs.YtgbahdoiogcpiaaDoor
