/- What the laws of records that follow one another compute: told without addresses. No claim of its own. -/
import Derived.Test.YtkempcjemeipnaaDoorARec8
namespace Go.Proofs.YtkempcjemeipnaaDoor
open Go.Am

theorem encSL_get {l : List (List UInt8)} {k : Nat} (h : k < l.length) : (encSL l)[((k : Nat) : Int).toNat]? = some [.str l[k]] := by
  rw [Int.toNat_natCast, encSL, List.getElem?_map, List.getElem?_eq_getElem h]; rfl
theorem packs_small : ∀ (l : List (List UInt8)) (n : Nat), n + l.length ≤ 1000000 → (∀ q ∈ l, q.length ≤ 300) → (Gw.Rec.packs l (n : Int)).length ≤ 400 * l.length
  | [], _, _, _ => Nat.zero_le _
  | p :: l, n, h1, h2 => by
    rw [List.length_cons] at h1
    have a := (packed_small (n := n) (p := p) (by omega) (h2 p (List.mem_cons_self ..))).2
    have b := packs_small l (n + 1) (by omega) (fun q hq => h2 q (List.mem_cons_of_mem _ hq))
    rw [Gw.Rec.packs, Int.toNat_natCast, List.length_append, List.length_cons]
    have : ((n : Int) + 1) = ((n + 1 : Nat) : Int) := by omega
    rw [this]; omega
theorem packs_take {l : List (List UInt8)} {i : Nat} (h : i < l.length) (n : Nat) : Gw.Rec.packs (l.take (i + 1)) (n : Int) = Gw.Rec.packs (l.take i) (n : Int) ++ Gw.Rec.packed (n + i) l[i] := by
  rw [List.take_succ_eq_append_getElem h, Gw.Rec.packs_append, List.length_take, Nat.min_eq_left (by omega)]
  congr 1
  rw [Gw.Rec.packs, Gw.Rec.packs, List.append_nil]
  congr 1
theorem mem_take_snoc {l : List (List UInt8)} {i : Nat} (h : i < l.length) (h2 : l[i].length ≤ 300) (h1 : ∀ q ∈ l.take i, q.length ≤ 300) : ∀ q ∈ l.take (i + 1), q.length ≤ 300 := by
  rw [List.take_succ_eq_append_getElem h]
  intro q hq
  rcases List.mem_append.1 hq with hq | hq
  · exact h1 q hq
  · rw [List.mem_singleton.1 hq]; exact h2
theorem pack_at {m : Nat} (h1 : 1 ≤ m) (h : m ≤ 1000000) {p : List UInt8} (hp : p.length ≤ 300) : PC Tryd.prog 10 [.int .i64 (m : Int), .str p] (.tup [.str (Gw.Rec.packed m p), .int .i64 0]) := by
  have hm : Gw.Rec.may (m : Int) p = true := Gw.Rec.may_iff.2 ⟨by omega, by omega, by omega⟩
  have c := pack_pc (m : Int) p
  unfold Gw.Rec.pack Gw.Rec.packErr at c
  rwa [if_pos hm, if_pos hm, Int.toNat_natCast] at c
theorem back_pc (na : Bool) (l : List (List UInt8)) (n : Nat) (behind : List UInt8) (hn : n ≤ 65535) : PC Tryd.prog 4 [.lst na 1 (encSL l) .none, .int .u16 n, .str behind] (.bool true) := by
  have e1 := from_wrap hn
  have hal := encSL_len l
  refine PC.of tabOk mixed (fn := Tryd.f4) (by kernel_rfl) rfl (by kernel_rfl) rfl rfl ?_
  conv => whnf
  refine AC.of_pc awake_pc rfl ?_
  conv => whnf
  refine ⟨fun h1 => ?_, fun h1 => ?_⟩
  · conv => whnf
    repeat (first | refine ⟨fun _ => ?_, fun h => absurd h (by decide)⟩ | refine ⟨fun h => absurd h (by decide), fun _ => ?_⟩ | refine ⟨fun _ => ?_, fun h => absurd (show true = false from h) (by decide)⟩ | refine ⟨fun h => absurd (show false = true from h) (by decide), fun _ => ?_⟩
            (conv => whnf))
    try rfl
  have h1 : l.length ≤ 10 := by have := of_decide_eq_false (show decide ((10 : Int) < ((encSL l).length : Int)) = false from h1); omega
  conv => whnf
  refine ⟨fun h2 => ?_, fun h2 => ?_⟩
  · conv => whnf
    try rfl
  have h2 : behind.length ≤ 1000 := by have := of_decide_eq_false h2; omega
  conv => whnf
  rw [e1]
  refine AW.loop (fun i : Nat => [(.tmp 0, .v (.lst na 1 (encSL l) .none)), (.tmp 2, .v (.str behind)), (.tmp 7, .v (.bool true)), (.tmp 8, .v (.str (Gw.Rec.packs (l.take i) ((n + 1 : Nat) : Int)))), (.tmp 9, .v (.int .i64 ((n + 1 : Nat) : Int))), (.tmp 10, .v (.int .i64 i))]) 0
    (fun i => i ≤ l.length ∧ ∀ q ∈ l.take i, q.length ≤ 300) (fun i => l.length - i) (by decide) 0 ⟨Nat.zero_le _, by simp⟩ ⟨rfl, rfl, rfl, rfl, rfl, rfl, rfl, rfl, rfl, rfl, rfl, rfl, trivial⟩ ?_
  rintro i ⟨hi, hq⟩
  refine ev_sound tabOk mixed _ _ _ _ ?_
  conv => whnf
  refine ⟨fun h => ?_, fun h => ?_⟩
  · have h : i < l.length := by have := of_decide_eq_true (show decide ((i : Int) < ((encSL l).length : Int)) = true from h); omega
    have hel := encSL_get h
    conv => whnf
    refine ⟨_, ⟨by omega, hel⟩, ?_⟩
    conv => whnf
    refine ⟨fun h3 => ?_, fun h3 => ?_⟩
    · conv => whnf
      try rfl
    have h3 : l[i].length ≤ 300 := by have := of_decide_eq_false h3; omega
    conv => whnf
    refine ⟨_, ⟨by omega, hel⟩, ?_⟩
    have e2 : IntKind.i64.wrap (((n + 1 : Nat) : Int) + (i : Int)) = ((n + 1 + i : Nat) : Int) := by rw [w64 (by omega) (by omega)]; omega
    have c := pack_at (m := n + 1 + i) (p := l[i]) (by omega) (by omega) h3
    have hsm := (packed_small (n := n + 1 + i) (p := l[i]) (by omega) h3).2
    have hps := packs_small (l.take i) (n + 1) (by rw [List.length_take]; omega) hq
    rw [List.length_take] at hps
    rw [← e2] at c
    refine AC.of_pc c rfl ?_
    conv => whnf
    repeat (first | refine ⟨fun _ => ?_, fun h => absurd h (by decide)⟩ | refine ⟨fun h => absurd h (by decide), fun _ => ?_⟩ | refine ⟨fun _ => ?_, fun h => absurd (show true = false from h) (by decide)⟩ | refine ⟨fun h => absurd (show false = true from h) (by decide), fun _ => ?_⟩
            (conv => whnf))
    refine ⟨by show (Gw.Rec.packs (l.take i) ((n + 1 : Nat) : Int)).length + (Gw.Rec.packed (n + 1 + i) l[i]).length < _; omega, ?_⟩
    conv => whnf
    refine ⟨i + 1, ⟨h, mem_take_snoc h h3 hq⟩, by show _ - (i + 1) < _ - i; omega, rfl, rfl, rfl, rfl, rfl, rfl, ?_, rfl, rfl, rfl, ?_, rfl, trivial⟩
    · show C.v (V.str (Gw.Rec.packs (l.take i) ((n + 1 : Nat) : Int) ++ Gw.Rec.packed (n + 1 + i) l[i])) = C.v (V.str (Gw.Rec.packs (l.take (i + 1)) ((n + 1 : Nat) : Int)))
      rw [packs_take h]
    · show C.v (V.int .i64 (IntKind.i64.wrap ((i : Int) + 1))) = _
      rw [w64 (by omega) (by omega)]; rfl
  · have h : i = l.length := by have := of_decide_eq_false (show decide ((i : Int) < ((encSL l).length : Int)) = false from h); omega
    subst h
    rw [List.take_length] at hq
    rw [List.take_length]
    have hmx : ∀ q ∈ l, q.length ≤ 40000 := fun q h => Nat.le_trans (hq q h) (by decide)
    have hps := packs_small l (n + 1) (by omega) hq
    obtain ⟨k, hk, ta⟩ := Gw.Rec.all_packs (l := l) (n := ((n + 1 : Nat) : Int)) (by omega) (by omega) hmx
    obtain ⟨k', y, m, hk', tb⟩ := Gw.Rec.all_behind (l := l) (n := ((n + 1 : Nat) : Int)) behind (by omega) (by omega) hmx
    obtain rfl : k = k' := by omega
    have ca := recAll_pc (Gw.Rec.packs l ((n + 1 : Nat) : Int)) ((n + 1 : Nat) : Int) (by omega)
    have cb := recAll_pc (Gw.Rec.packs l ((n + 1 : Nat) : Int) ++ behind) ((n + 1 : Nat) : Int) (by rw [List.length_append]; omega)
    have ct := recTake_pc behind ((n + 1 : Nat) : Int) (by omega)
    rw [ta] at ca
    rw [tb] at cb
    have c7 := strSame_pc (decide (l = [])) na l l (by omega)
    have c8 := fun nb => strSame_pc nb na l l (by omega)
    rw [decide_eq_true rfl] at c7
    have hk1 : (IntKind.i64.wrap (16 * (k : Int)) == ((Gw.Rec.packs l ((n + 1 : Nat) : Int)).length : Int)) = true := by
      rw [w64 (by omega) (by omega), ← hk]; simp
    have hk2 : decide (((encSL l).length : Int) ≤ ((encSL (l ++ y)).length : Int)) = true := decide_eq_true (by rw [hal, encSL_len, List.length_append]; omega)
    have hk3 : min ((encSL l).length : Int) ((encSL (l ++ y)).length : Int) = (l.length : Int) := by rw [hal, encSL_len, List.length_append]; omega
    have hk4 : (encSL (l ++ y)).take l.length = encSL l := by rw [encSL, List.map_append]; exact List.take_left' hal
    have c8 : ∀ nb, PC Tryd.prog 16 [.lst nb 1 ((encSL (l ++ y)).take ((l.length : Int)).toNat) .none, .lst na 1 (encSL l) .none] (.bool true) := fun nb => by
      have := c8 nb
      rw [decide_eq_true rfl] at this
      rwa [Int.toNat_natCast, hk4]
    have hk5 : decide ((k : Int) ≤ ((k + m : Nat) : Int)) = true := decide_eq_true (by omega)
    rcases ht : Gw.Rec.take behind ((n + 1 : Nat) : Int) with _ | ⟨q, k2⟩
    · rw [ht] at ct
      have cp := pack_at (m := n + 1) (p := []) (by omega) (by omega) (by simp)
      conv => whnf
      refine AC.of_pc ca rfl ?_
      conv => whnf
      refine ⟨by show (Gw.Rec.packs l ((n + 1 : Nat) : Int)).length + behind.length < _; omega, ?_⟩
      conv => whnf
      refine AC.of_pc cb rfl ?_
      conv => whnf
      refine AC.of_pc ct rfl ?_
      conv => whnf
      refine AC.of_pc cp rfl ?_
      conv => whnf
      repeat (first | refine ⟨fun _ => ?_, fun h => absurd h (by decide)⟩ | refine ⟨fun h => absurd h (by decide), fun _ => ?_⟩ | refine ⟨fun _ => ?_, fun h => absurd (show true = false from h) (by decide)⟩ | refine ⟨fun h => absurd (show false = true from h) (by decide), fun _ => ?_⟩
              (conv => whnf))
      refine AC.of_pc c7 rfl ?_
      conv => whnf
      repeat (first | refine ⟨fun _ => ?_, fun h => absurd h (by decide)⟩ | refine ⟨fun h => absurd h (by decide), fun _ => ?_⟩ | refine ⟨fun _ => ?_, fun h => absurd (show true = false from h) (by decide)⟩ | refine ⟨fun h => absurd (show false = true from h) (by decide), fun _ => ?_⟩
              (conv => whnf))
      refine ⟨fun _ => ?_, fun h => absurd (hk1.symm.trans h) (by decide)⟩
      conv => whnf
      refine ⟨fun _ => ?_, fun h => absurd (hk2.symm.trans h) (by decide)⟩
      conv => whnf
      rw [hk3]
      refine ⟨⟨by show (0 : Int) ≤ (l.length : Int); omega, by show ((l.length : Int)).toNat ≤ (encSL (l ++ y)).length; rw [Int.toNat_natCast, encSL_len, List.length_append]; omega⟩, ?_⟩
      refine AC.of_pc (c8 _) rfl ?_
      conv => whnf
      repeat (first | refine ⟨fun _ => ?_, fun h => absurd h (by decide)⟩ | refine ⟨fun h => absurd h (by decide), fun _ => ?_⟩ | refine ⟨fun _ => ?_, fun h => absurd (show true = false from h) (by decide)⟩ | refine ⟨fun h => absurd (show false = true from h) (by decide), fun _ => ?_⟩
              (conv => whnf))
      refine ⟨fun _ => ?_, fun h => absurd (hk5.symm.trans h) (by decide)⟩
      conv => whnf
      repeat (first | refine ⟨fun _ => ?_, fun h => absurd h (by decide)⟩ | refine ⟨fun h => absurd h (by decide), fun _ => ?_⟩ | refine ⟨fun _ => ?_, fun h => absurd (show true = false from h) (by decide)⟩ | refine ⟨fun h => absurd (show false = true from h) (by decide), fun _ => ?_⟩
              (conv => whnf))
      try (first | rfl | rw [decide_eq_true rfl])
    · rw [ht] at ct
      obtain ⟨g1, g2, r, g3⟩ := Gw.Rec.take_iff.1 ht
      have cp := pack_pc ((n + 1 : Nat) : Int) q
      unfold Gw.Rec.pack Gw.Rec.packErr at cp
      rw [if_pos g1, if_pos g1, Int.toNat_natCast] at cp
      rw [Int.toNat_natCast] at g2 g3
      have hpl := Gw.Rec.packed_len (n + 1) q
      rw [← g2] at hpl
      have hbl := congrArg List.length g3
      rw [List.length_append] at hbl
      have hj1 : ((((Gw.Rec.packed (n + 1) q).length : Nat) : Int) == IntKind.i64.wrap (16 * (k2 : Int))) = true := by
        rw [w64 (by omega) (by omega), hpl]; simp
      have hj2 : (((behind.length : Nat) : Int)).tdiv 16 = ((behind.length / 16 : Nat) : Int) := Int.ofNat_tdiv _ 16
      have hj3 : decide ((k2 : Int) ≤ IntKind.i64.wrap ((((behind.length : Nat) : Int)).tdiv 16)) = true := decide_eq_true (by rw [hj2, w64 (by omega) (by omega)]; omega)
      have hj4 : IntKind.i64.wrap (16 * (k2 : Int)) = ((16 * k2 : Nat) : Int) := by rw [w64 (by omega) (by omega)]; omega
      have hj5 : behind.take (16 * k2) = Gw.Rec.packed (n + 1) q := by rw [g3, List.take_left' hpl]
      conv => whnf
      refine AC.of_pc ca rfl ?_
      conv => whnf
      refine ⟨by show (Gw.Rec.packs l ((n + 1 : Nat) : Int)).length + behind.length < _; omega, ?_⟩
      conv => whnf
      refine AC.of_pc cb rfl ?_
      conv => whnf
      refine AC.of_pc ct rfl ?_
      conv => whnf
      refine AC.of_pc cp rfl ?_
      conv => whnf
      repeat (first | refine ⟨fun _ => ?_, fun h => absurd h (by decide)⟩ | refine ⟨fun h => absurd h (by decide), fun _ => ?_⟩ | refine ⟨fun _ => ?_, fun h => absurd (show true = false from h) (by decide)⟩ | refine ⟨fun h => absurd (show false = true from h) (by decide), fun _ => ?_⟩
              (conv => whnf))
      refine ⟨fun _ => ?_, fun h => absurd (hj1.symm.trans h) (by decide)⟩
      conv => whnf
      refine ⟨fun _ => ?_, fun h => absurd (hj3.symm.trans h) (by decide)⟩
      conv => whnf
      rw [hj4]
      refine ⟨⟨by omega, by rw [Int.toNat_natCast]; omega⟩, ?_⟩
      rw [Int.toNat_natCast, hj5]
      conv => whnf
      refine ⟨fun _ => ?_, fun h => absurd h (by simp)⟩
      conv => whnf
      repeat (first | refine ⟨fun _ => ?_, fun h => absurd h (by decide)⟩ | refine ⟨fun h => absurd h (by decide), fun _ => ?_⟩ | refine ⟨fun _ => ?_, fun h => absurd (show true = false from h) (by decide)⟩ | refine ⟨fun h => absurd (show false = true from h) (by decide), fun _ => ?_⟩
              (conv => whnf))
      refine AC.of_pc c7 rfl ?_
      conv => whnf
      repeat (first | refine ⟨fun _ => ?_, fun h => absurd h (by decide)⟩ | refine ⟨fun h => absurd h (by decide), fun _ => ?_⟩ | refine ⟨fun _ => ?_, fun h => absurd (show true = false from h) (by decide)⟩ | refine ⟨fun h => absurd (show false = true from h) (by decide), fun _ => ?_⟩
              (conv => whnf))
      refine ⟨fun _ => ?_, fun h => absurd (hk1.symm.trans h) (by decide)⟩
      conv => whnf
      refine ⟨fun _ => ?_, fun h => absurd (hk2.symm.trans h) (by decide)⟩
      conv => whnf
      rw [hk3]
      refine ⟨⟨by show (0 : Int) ≤ (l.length : Int); omega, by show ((l.length : Int)).toNat ≤ (encSL (l ++ y)).length; rw [Int.toNat_natCast, encSL_len, List.length_append]; omega⟩, ?_⟩
      refine AC.of_pc (c8 _) rfl ?_
      conv => whnf
      repeat (first | refine ⟨fun _ => ?_, fun h => absurd h (by decide)⟩ | refine ⟨fun h => absurd h (by decide), fun _ => ?_⟩ | refine ⟨fun _ => ?_, fun h => absurd (show true = false from h) (by decide)⟩ | refine ⟨fun h => absurd (show false = true from h) (by decide), fun _ => ?_⟩
              (conv => whnf))
      refine ⟨fun _ => ?_, fun h => absurd (hk5.symm.trans h) (by decide)⟩
      conv => whnf
      repeat (first | refine ⟨fun _ => ?_, fun h => absurd h (by decide)⟩ | refine ⟨fun h => absurd h (by decide), fun _ => ?_⟩ | refine ⟨fun _ => ?_, fun h => absurd (show true = false from h) (by decide)⟩ | refine ⟨fun h => absurd (show false = true from h) (by decide), fun _ => ?_⟩
              (conv => whnf))
      try (first | rfl | rw [decide_eq_true rfl])
end Go.Proofs.YtkempcjemeipnaaDoor
