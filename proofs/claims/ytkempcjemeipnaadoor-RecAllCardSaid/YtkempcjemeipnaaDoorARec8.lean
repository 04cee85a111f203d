/- What the laws of one record compute: told without addresses. No claim of its own. -/
import Derived.Test.YtkempcjemeipnaaDoorARec7
namespace Go.Proofs.YtkempcjemeipnaaDoor
open Go.Am

theorem packed_small {n : Nat} {p : List UInt8} (hn : n ≤ 1000000) (hp : p.length ≤ 300) : 16 ≤ (Gw.Rec.packed n p).length ∧ (Gw.Rec.packed n p).length ≤ 400 := by
  have h1 : (Gw.Rec.body n p).length ≤ 318 := by
    have := Gw.Rec.one_le (n := n) (by omega)
    have := Gw.Rec.one_le (n := p.length) (by omega)
    unfold Gw.Rec.body; simp only [List.length_append]; omega
  have h2 := Gw.Rec.seal_len (Gw.Rec.body n p)
  have h3 := Gw.Rec.one_le (n := (Gw.Sums.seal_ (Gw.Rec.body n p)).length) (by omega)
  have h4 := Gw.Rec.many_pos n p
  have h5 : (Gw.Rec.bytes n p).length ≤ 331 := by rw [Gw.Rec.bytes_eq, List.length_append]; omega
  rw [Gw.Rec.packed_len]
  unfold Gw.Rec.many at *
  omega
theorem from_wrap {n : Nat} (h : n ≤ 65535) : IntKind.i64.wrap (1 + IntKind.i64.wrap (n : Int)) = ((n + 1 : Nat) : Int) := by
  rw [w64 (x := (n : Int)) (by omega) (by omega), w64 (by omega) (by omega)]; omega
theorem may_from {n : Nat} (h : n ≤ 65535) {p : List UInt8} (hp : p.length ≤ 300) : Gw.Rec.may ((n + 1 : Nat) : Int) p = true := Gw.Rec.may_iff.2 ⟨by omega, by omega, by omega⟩
theorem pack_from {n : Nat} (h : n ≤ 65535) {p : List UInt8} (hp : p.length ≤ 300) : PC Tryd.prog 10 [.int .i64 ((n + 1 : Nat) : Int), .str p] (.tup [.str (Gw.Rec.packed (n + 1) p), .int .i64 0]) := by
  have c := pack_pc ((n + 1 : Nat) : Int) p
  unfold Gw.Rec.pack Gw.Rec.packErr at c
  rwa [if_pos (may_from h hp), if_pos (may_from h hp), Int.toNat_natCast] at c
theorem cuts_pc (p : List UInt8) (n cut : Nat) (other : Int) (hn : n ≤ 65535) (hcut : cut ≤ 65535) : PC Tryd.prog 6 [.str p, .int .u16 n, .int .u16 cut, .int .i64 other] (.bool true) := by
  have e1 := from_wrap hn
  refine PC.of tabOk mixed (fn := Tryd.f6) (by kernel_rfl) rfl (by kernel_rfl) rfl rfl ?_
  conv => whnf
  refine AC.of_pc awake_pc rfl ?_
  conv => whnf
  refine ⟨fun h1 => ?_, fun h1 => ?_⟩
  · conv => whnf
    try rfl
  have h1 : p.length ≤ 300 := by have := of_decide_eq_false h1; omega
  have hm := may_from hn h1
  have c1 := pack_from hn h1
  have hsm := packed_small (n := n + 1) (p := p) (by omega) h1
  have hlt : cut % (Gw.Rec.packed (n + 1) p).length < (Gw.Rec.packed (n + 1) p).length := Nat.mod_lt _ (by omega)
  have c2 := recTake_pc ((Gw.Rec.packed (n + 1) p).take (cut % (Gw.Rec.packed (n + 1) p).length)) ((n + 1 : Nat) : Int) (by rw [List.length_take]; omega)
  have t2 := Gw.Rec.take_short hm (c := cut % (Gw.Rec.packed (n + 1) p).length) (by rw [Int.toNat_natCast]; exact hlt)
  rw [Int.toNat_natCast] at t2
  rw [t2] at c2
  have c3 := recTake_pc (Gw.Rec.packed (n + 1) p) other (by omega)
  have t3 : ∃ x k, recTookV (Gw.Rec.take (Gw.Rec.packed (n + 1) p) other) = .tup [.str x, .int .i64 k, .bool (decide (other = ((n + 1 : Nat) : Int)))] := by
    by_cases ho : other = ((n + 1 : Nat) : Int)
    · have t := Gw.Rec.take_pack hm []
      rw [List.append_nil, Int.toNat_natCast] at t
      rw [ho, t, decide_eq_true rfl]
      exact ⟨_, _, rfl⟩
    · have t := Gw.Rec.take_other hm ho []
      rw [List.append_nil, Int.toNat_natCast] at t
      rw [t, decide_eq_false ho]
      exact ⟨_, _, rfl⟩
  obtain ⟨x, k, t3⟩ := t3
  rw [t3] at c3
  generalize Gw.Rec.packed (n + 1) p = S at *
  rw [← e1] at c1 c2
  obtain ⟨a, S, rfl⟩ : ∃ a T, S = a :: T := by
    cases S with
    | nil => simp at hsm
    | cons a T => exact ⟨a, T, rfl⟩
  have e2 : IntKind.i64.wrap (cut : Int) = (cut : Int) := w64 (by omega) (by omega)
  have e3 : ((cut : Int)).tmod ((a :: S).length : Int) = ((cut % (a :: S).length : Nat) : Int) := tmodN cut (a :: S).length
  conv => whnf
  refine AC.of_pc c1 rfl ?_
  conv => whnf
  refine ⟨fun h => absurd (show false = true from h) (by decide), fun _ => ?_⟩
  conv => whnf
  rw [e2, e3]
  refine ⟨⟨by omega, by rw [Int.toNat_natCast]; omega⟩, ?_⟩
  rw [Int.toNat_natCast]
  refine AC.of_pc c2 rfl ?_
  conv => whnf
  refine AC.of_pc c3 rfl ?_
  conv => whnf
  repeat (first | refine ⟨fun _ => ?_, fun h => absurd h (by decide)⟩ | refine ⟨fun h => absurd h (by decide), fun _ => ?_⟩ | refine ⟨fun _ => ?_, fun h => absurd (show true = false from h) (by decide)⟩ | refine ⟨fun h => absurd (show false = true from h) (by decide), fun _ => ?_⟩
          (conv => whnf))
  rw [e1]
  by_cases ho : other = ((n + 1 : Nat) : Int)
  · rw [decide_eq_true ho, ho, beq_self_eq_true]; rfl
  · rw [decide_eq_false ho, beq_eq_false_iff_ne.2 ho]; rfl
theorem sizes_pc (p : List UInt8) (n : Nat) (hn : n ≤ 65535) : PC Tryd.prog 7 [.str p, .int .u16 n] (.bool true) := by
  have e1 := from_wrap hn
  refine PC.of tabOk mixed (fn := Tryd.f7) (by kernel_rfl) rfl (by kernel_rfl) rfl rfl ?_
  conv => whnf
  refine AC.of_pc awake_pc rfl ?_
  conv => whnf
  refine ⟨fun h1 => ?_, fun h1 => ?_⟩
  · conv => whnf
    try rfl
  have h1 : p.length ≤ 300 := by have := of_decide_eq_false h1; omega
  have hm := may_from hn h1
  have c1 := pack_from hn h1
  have hsm := packed_small (n := n + 1) (p := p) (by omega) h1
  have hpl := Gw.Rec.packed_len (n + 1) p
  have hfb := fun i hi => Gw.Rec.first_byte (n + 1) p [] i hi
  have hlb := fun i hi => Gw.Rec.last_mark (n + 1) p [] i hi
  rw [List.append_nil] at hfb hlb
  have hbl : (Gw.Rec.bytes (n + 1) p).length = Gw.Vlq.size (Gw.Vlq.size (n + 1) + Gw.Vlq.size p.length + p.length + 4) + (Gw.Vlq.size (n + 1) + Gw.Vlq.size p.length + p.length + 4) := by
    have q : (Gw.Sums.seal_ (Gw.Rec.body (n + 1) p)).length = Gw.Vlq.size (n + 1) + Gw.Vlq.size p.length + p.length + 4 := by
      rw [Gw.Rec.seal_len]; unfold Gw.Rec.body
      rw [List.length_append, List.length_append, Gw.Vlq.one_length _ (by omega), Gw.Vlq.one_length _ (by omega)]
    have q2 := Gw.Rec.seal_small (n := n + 1) (p := p) (by omega) (by omega)
    rw [Gw.Rec.bytes_eq, List.length_append, Gw.Vlq.one_length _ (by omega), q]
  have z1 := Gw.Vlq.size_le9 (n + 1) (by omega)
  have z2 := Gw.Vlq.size_le9 p.length (by omega)
  have c2 := vsize_pc (n + 1) (by omega)
  have c3 := vsize_pc p.length (by omega)
  have c4 := vsize_pc (Gw.Vlq.size (n + 1) + Gw.Vlq.size p.length + p.length + 4) (by omega)
  have z3 := Gw.Vlq.size_le9 (Gw.Vlq.size (n + 1) + Gw.Vlq.size p.length + p.length + 4) (by omega)
  have e2 : IntKind.i64.wrap (IntKind.i64.wrap (IntKind.i64.wrap ((Gw.Vlq.size (n + 1) : Int) + (Gw.Vlq.size p.length : Int)) + (p.length : Int)) + 4) = ((Gw.Vlq.size (n + 1) + Gw.Vlq.size p.length + p.length + 4 : Nat) : Int) := by
    rw [w64 (x := (Gw.Vlq.size (n + 1) : Int) + (Gw.Vlq.size p.length : Int)) (by omega) (by omega), w64 (x := (Gw.Vlq.size (n + 1) : Int) + (Gw.Vlq.size p.length : Int) + (p.length : Int)) (by omega) (by omega), w64 (by omega) (by omega)]; omega
  rw [← e2] at c4
  generalize Gw.Vlq.size (Gw.Vlq.size (n + 1) + Gw.Vlq.size p.length + p.length + 4) = s3 at *
  generalize Gw.Vlq.size (n + 1) = s1 at *
  generalize Gw.Vlq.size p.length = s2 at *
  generalize hB : (Gw.Rec.bytes (n + 1) p).length = bl at *
  have hmany : Gw.Rec.many (Gw.Rec.bytes (n + 1) p) = (bl + 13) / 14 := by unfold Gw.Rec.many; rw [hB]
  rw [hmany] at hpl hfb hlb
  have hmk := Gw.Rec.mark_lt (n + 1)
  have hme : Gw.Rec.mark (n + 1) = (n + 1) % 250 + 1 := rfl
  have e6 : (((n + 1 : Nat) : Int)).tmod 250 = (((n + 1) % 250 : Nat) : Int) := tmodN (n + 1) 250
  generalize Gw.Rec.packed (n + 1) p = S at *
  rw [← e1] at c1 c2
  conv => whnf
  refine AC.of_pc c1 rfl ?_
  conv => whnf
  refine AC.of_pc c2 rfl ?_
  conv => whnf
  refine AC.of_pc c3 rfl ?_
  conv => whnf
  refine AC.of_pc c4 rfl ?_
  conv => whnf
  rw [e1, e2]
  refine AW.loop (fun k : Nat => [(.tmp 5, .v (.bool true)), (.tmp 6, .v (.int .i64 ((n + 1 : Nat) : Int))), (.tmp 7, .v (.str S)), (.tmp 8, .v (.int .i64 0)), (.tmp 10, .v (.int .i64 (IntKind.i64.wrap ((s3 : Int) + ((s1 + s2 + p.length + 4 : Nat) : Int))))), (.tmp 11, .v (.int .i64 k))]) 0
    (fun k => k ≤ (bl + 13) / 14) (fun k => (bl + 13) / 14 - k) (by decide) 0 (Nat.zero_le _) ⟨rfl, rfl, rfl, rfl, rfl, rfl, rfl, rfl, rfl, rfl, rfl, rfl, trivial⟩ ?_
  rintro k hk
  have e7 : IntKind.i64.wrap (16 * (k : Int)) = ((16 * k : Nat) : Int) := by rw [w64 (by omega) (by omega)]; omega
  have e8 : IntKind.i64.wrap (((16 * k : Nat) : Int) + 16) = ((16 * k + 16 : Nat) : Int) := by rw [w64 (by omega) (by omega)]; omega
  have e9 : IntKind.i64.wrap (((16 * k : Nat) : Int) + 15) = ((16 * k + 15 : Nat) : Int) := by rw [w64 (by omega) (by omega)]; omega
  refine ev_sound tabOk mixed _ _ _ _ ?_
  conv => whnf
  rw [e7, e8]
  refine ⟨fun h => ?_, fun h => ?_⟩
  · have h : k < (bl + 13) / 14 := by have := of_decide_eq_true h; omega
    have g0 : S[(((16 * k : Nat) : Int)).toNat]? = some (S.getD (16 * k) 0) := by
      rw [Int.toNat_natCast, List.getD_eq_getElem?_getD, List.getElem?_eq_getElem (by omega)]; rfl
    have g15 : S[(((16 * k + 15 : Nat) : Int)).toNat]? = some (S.getD (16 * k + 15) 0) := by
      rw [Int.toNat_natCast, List.getD_eq_getElem?_getD, List.getElem?_eq_getElem (by omega)]; rfl
    have m0 := hfb k h
    have m15 := hlb k h
    generalize S.getD (16 * k) 0 = x0 at *
    generalize S.getD (16 * k + 15) 0 = x15 at *
    conv => whnf
    refine ⟨x0, ?_⟩
    conv => whnf
    refine ⟨⟨by rw [e7]; omega, by rw [e7]; exact g0⟩, ?_⟩
    have tq : (IntKind.i64.wrap (x0.toNat : Int) != IntKind.i64.wrap (1 + (((n + 1 : Nat) : Int)).tmod 250)) = false := by
      rw [e6, m0, hme, w64 (by omega) (by omega), w64 (by omega) (by omega)]
      simp; omega
    have tq2 : ((x15.toNat : Int) != (x0.toNat : Int)) = false := by rw [m0, m15]; simp
    conv => whnf
    refine ⟨fun h => absurd (tq.symm.trans h) (by decide), fun _ => ?_⟩
    conv => whnf
    refine ⟨x15, ?_⟩
    conv => whnf
    refine ⟨⟨by rw [e7, e9]; omega, by rw [e7, e9]; exact g15⟩, ?_⟩
    conv => whnf
    refine ⟨x0, ?_⟩
    conv => whnf
    refine ⟨⟨by rw [e7]; omega, by rw [e7]; exact g0⟩, ?_⟩
    conv => whnf
    refine ⟨by kernel_rfl, ?_⟩
    conv => whnf
    refine ⟨fun h => absurd (tq2.symm.trans h) (by decide), fun _ => ?_⟩
    conv => whnf
    refine ⟨k + 1, h, by show _ - (k + 1) < _ - k; omega, rfl, rfl, rfl, rfl, rfl, rfl, rfl, rfl, rfl, rfl, ?_, rfl, trivial⟩
    show C.v (V.int .i64 (IntKind.i64.wrap ((k : Int) + 1))) = _
    rw [w64 (by omega) (by omega)]; rfl
  · have h : k = (bl + 13) / 14 := by have := of_decide_eq_false h; omega
    have e10 : IntKind.i64.wrap ((s3 : Int) + ((s1 + s2 + p.length + 4 : Nat) : Int)) = (bl : Int) := by rw [w64 (by omega) (by omega)]; omega
    have e11 : IntKind.i64.wrap ((bl : Int) + 13) = ((bl + 13 : Nat) : Int) := by rw [w64 (by omega) (by omega)]; omega
    have e12 : (((bl + 13 : Nat) : Int)).tdiv 14 = (((bl + 13) / 14 : Nat) : Int) := Int.ofNat_tdiv _ 14
    conv => whnf
    repeat (first | refine ⟨fun _ => ?_, fun h => absurd h (by decide)⟩ | refine ⟨fun h => absurd h (by decide), fun _ => ?_⟩ | refine ⟨fun _ => ?_, fun h => absurd (show true = false from h) (by decide)⟩ | refine ⟨fun h => absurd (show false = true from h) (by decide), fun _ => ?_⟩
            (conv => whnf))
    rw [e10, e11, e12]
    rw [w64 (x := (((bl + 13) / 14 : Nat) : Int)) (by omega) (by omega), w64 (by omega) (by omega), hpl]
    simp
end Go.Proofs.YtkempcjemeipnaaDoor
