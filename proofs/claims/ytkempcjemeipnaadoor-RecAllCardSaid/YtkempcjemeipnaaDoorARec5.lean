/- What the document's answer for records computes: told without addresses. No claim of its own. -/
import Derived.Test.YtkempcjemeipnaaDoorARec4
import Derived.Test.YtkempcjemeipnaaDoorRecLaw
import Derived.Test.YtkempcjemeipnaaDoorSumsRefN
namespace Go.Proofs.YtkempcjemeipnaaDoor
open Go.Am

theorem rseal_pc (s : List UInt8) (hs : s.length < 1000000000) : PC Tryd.prog 35 [.str s] (.str (Gw.Sums.seal_ s)) :=
  .of_calls (enters_of (fn := Tryd.f35) (by kernel_rfl) rfl (by kernel_rfl)) rfl (fun w _ => refSeal_any ⟨s.toArray⟩ hs w) (fun _ _ => .str (by
    simp [sumBytes, Gw.Sums.seal_]))
theorem rbytes_pc (n : Nat) (p : List UInt8) (hn : n ≤ 1000000) (hp : p.length ≤ 40000) : PC Tryd.prog 25 [.int .i64 n, .str p] (.str (Gw.Rec.bytes n p)) := by
  have h1 := Gw.Rec.one_le (n := n) (by omega)
  have h2 := Gw.Rec.one_le (n := p.length) (by omega)
  have c1 := rone_pc n (by omega)
  have c2 := rtext_pc (Gw.Vlq.one n) p (by omega)
  have hl : (Gw.Vlq.text (Gw.Vlq.one n) p).length ≤ 40100 := by unfold Gw.Vlq.text; simp only [List.length_append]; omega
  have c3 := rseal_pc (Gw.Vlq.text (Gw.Vlq.one n) p) (by omega)
  have c4 := rtext_pc [] (Gw.Sums.seal_ (Gw.Vlq.text (Gw.Vlq.one n) p)) (by rw [Gw.Rec.seal_len]; simp only [List.length_nil]; omega)
  refine PC.of tabOk mixed (fn := Tryd.f25) (by kernel_rfl) rfl (by kernel_rfl) rfl rfl ?_
  conv => whnf
  refine AC.of_pc c1 rfl ?_
  conv => whnf
  refine AC.of_pc c2 rfl ?_
  conv => whnf
  refine AC.of_pc c3 rfl ?_
  conv => whnf
  refine AC.of_pc c4 rfl ?_
  conv => whnf
  rfl
theorem rpack_pc (lsn : Int) (p : List UInt8) : PC Tryd.prog 11 [.int .i64 lsn, .str p] (.tup [.str (Gw.Rec.pack lsn p), .int .i64 (Gw.Rec.packErr lsn p)]) := by
  unfold Gw.Rec.pack Gw.Rec.packErr
  refine PC.of tabOk mixed (fn := Tryd.f11) (by kernel_rfl) rfl (by kernel_rfl) rfl rfl ?_
  conv => whnf
  refine ⟨fun h1 => ?_, fun h1 => ?_⟩
  · have h1 := of_decide_eq_true h1
    have e : Gw.Rec.may lsn p = false := by unfold Gw.Rec.may; rw [decide_eq_false (by omega)]; rfl
    rw [e, if_neg (by decide), if_neg (by decide)]
    conv => whnf
    repeat (first | refine ⟨fun _ => ?_, fun h => absurd h (by decide)⟩ | refine ⟨fun h => absurd h (by decide), fun _ => ?_⟩ | refine ⟨fun _ => ?_, fun h => absurd (show true = false from h) (by decide)⟩ | refine ⟨fun h => absurd (show false = true from h) (by decide), fun _ => ?_⟩
            (conv => whnf))
  have h1 := of_decide_eq_false h1
  conv => whnf
  refine ⟨fun h2 => ?_, fun h2 => ?_⟩
  · have h2 := of_decide_eq_true h2
    have e : Gw.Rec.may lsn p = false := by unfold Gw.Rec.may; rw [decide_eq_true (by omega), decide_eq_false (by omega)]; rfl
    rw [e, if_neg (by decide), if_neg (by decide)]
    conv => whnf
    repeat (first | refine ⟨fun _ => ?_, fun h => absurd h (by decide)⟩ | refine ⟨fun h => absurd h (by decide), fun _ => ?_⟩ | refine ⟨fun _ => ?_, fun h => absurd (show true = false from h) (by decide)⟩ | refine ⟨fun h => absurd (show false = true from h) (by decide), fun _ => ?_⟩
            (conv => whnf))
  have h2 := of_decide_eq_false h2
  conv => whnf
  refine ⟨fun h3 => ?_, fun h3 => ?_⟩
  · have h3 := of_decide_eq_true h3
    have e : Gw.Rec.may lsn p = false := by unfold Gw.Rec.may; rw [decide_eq_true (by omega), decide_eq_true (by omega), decide_eq_false (by omega)]; rfl
    rw [e, if_neg (by decide), if_neg (by decide)]
    conv => whnf
  have h3 := of_decide_eq_false h3
  have e : Gw.Rec.may lsn p = true := by unfold Gw.Rec.may; rw [decide_eq_true (by omega), decide_eq_true (by omega), decide_eq_true (by omega)]; rfl
  rw [e, if_pos rfl, if_pos rfl]
  obtain ⟨n, rfl⟩ : ∃ n : Nat, lsn = n := ⟨lsn.toNat, by omega⟩
  rw [Int.toNat_natCast]
  have c1 := rbytes_pc n p (by omega) (by omega)
  have hbl : (Gw.Rec.bytes n p).length ≤ 40200 := by
    have h1 := Gw.Rec.seal_small (n := n) (p := p) (by omega) (by omega)
    have h2 := Gw.Rec.one_le (n := (Gw.Sums.seal_ (Gw.Rec.body n p)).length) (by omega)
    rw [Gw.Rec.bytes_eq, List.length_append]; omega
  have hpos := Gw.Rec.bytes_pos n p
  unfold Gw.Rec.packed
  generalize Gw.Rec.bytes n p = B at *
  have hml := Gw.Rec.many_le B
  conv => whnf
  refine AC.of_pc c1 rfl ?_
  conv => whnf
  refine AW.loop (fun k : Nat => [(.tmp 0, .v (.int .i64 n)), (.tmp 6, .v (.str (B ++ List.replicate k 0)))]) 0
    (fun k => B.length + k ≤ 14 * Gw.Rec.many B) (fun k => 14 * Gw.Rec.many B - k) (by decide) 0 (by omega) ⟨rfl, rfl, by rw [List.replicate_zero, List.append_nil]; rfl, rfl, trivial⟩ ?_
  rintro k hk
  refine ev_sound tabOk mixed _ _ _ _ ?_
  have hbk : (B ++ List.replicate k (0 : UInt8)).length = B.length + k := by simp
  have e14 : ((((B ++ List.replicate k (0 : UInt8)).length : Nat) : Int)).tmod 14 = (((B ++ List.replicate k (0 : UInt8)).length % 14 : Nat) : Int) := tmodN _ 14
  conv => whnf
  refine ⟨fun h => ?_, fun h => ?_⟩
  · have h : (B.length + k) % 14 ≠ 0 := by
      have h : ((((B ++ List.replicate k (0 : UInt8)).length : Int).tmod 14) != 0) = true := h
      rw [e14, hbk] at h
      intro e; rw [e] at h; exact absurd h (by decide)
    conv => whnf
    refine ⟨by show (B ++ List.replicate k (0 : UInt8)).length + 1 < _; rw [hbk]; omega, ?_⟩
    conv => whnf
    refine ⟨k + 1, by omega, by show _ - (k + 1) < _ - k; omega, rfl, rfl, ?_, rfl, trivial⟩
    show C.v (V.str ((B ++ List.replicate k 0) ++ [0])) = C.v (V.str (B ++ List.replicate (k + 1) 0))
    rw [List.append_assoc, List.replicate_succ']
  have h : (B.length + k) % 14 = 0 := by
    have h : ((((B ++ List.replicate k (0 : UInt8)).length : Int).tmod 14) != 0) = false := h
    rw [e14, hbk] at h
    simp at h
    omega
  have hk2 : B.length + k = 14 * Gw.Rec.many B := by omega
  have hpad : B ++ List.replicate k 0 = Gw.Rec.pad B := by unfold Gw.Rec.pad; congr 2; omega
  rw [hpad]
  clear hbk e14 h
  have hpl := Gw.Rec.pad_len B
  have e250 : ((n : Int)).tmod 250 = ((n % 250 : Nat) : Int) := tmodN n 250
  have hmk := Gw.Rec.mark_lt n
  conv => whnf
  refine ⟨[UInt8.ofNat (Gw.Rec.mark n)], ?_⟩
  conv => whnf
  refine ⟨⟨.inl rfl, ?_⟩, ?_⟩
  · show [[V.int .u8 (IntKind.u8.wrap (IntKind.i64.wrap (1 + ((n : Int)).tmod 250)))]] = [[V.int .u8 ((UInt8.ofNat (Gw.Rec.mark n)).toNat : Int)]]
    rw [e250, Gw.Rec.mark_nat, w64 (by omega) (by omega), IntKind.wrap_u8]
    unfold Gw.Rec.mark
    congr 3
    omega
  conv => whnf
  generalize hM : UInt8.ofNat (Gw.Rec.mark n) = M
  refine AW.loop (fun k : Nat => [(.tmp 6, .v (.str (Gw.Rec.pad B))), (.tmp 7, .v (.str [M])), (.tmp 8, .v (.str (Gw.Rec.secs (Gw.Rec.mark n) B k))), (.tmp 9, .v (.int .i64 (14 * k : Nat)))]) 0
    (fun k => k ≤ Gw.Rec.many B) (fun k => Gw.Rec.many B - k) (by decide) 0 (Nat.zero_le _) ⟨rfl, rfl, rfl, rfl, rfl, rfl, rfl, rfl, trivial⟩ ?_
  clear hk hk2 hpad h
  clear k
  rintro k hk
  refine ev_sound tabOk mixed _ _ _ _ ?_
  conv => whnf
  refine ⟨fun h => ?_, fun h => ?_⟩
  · have h : k < Gw.Rec.many B := by
      have h := of_decide_eq_true (show decide (((14 * k : Nat) : Int) < ((Gw.Rec.pad B).length : Int)) = true from h)
      omega
    have e1 : IntKind.i64.wrap (((14 * k : Nat) : Int) + 14) = ((14 * k + 14 : Nat) : Int) := by rw [w64 (by omega) (by omega)]; rfl
    have hsl := Gw.Rec.secs_len (Gw.Rec.mark n) B k
    conv => whnf
    refine ⟨by show (Gw.Rec.secs (Gw.Rec.mark n) B k).length + 1 < _; rw [hsl]; omega, ?_⟩
    conv => whnf
    have hc : ((Gw.Rec.pad B).take (14 * k + 14)).drop (14 * k) = Gw.Rec.piece B k ++ List.replicate (14 - (Gw.Rec.piece B k).length) 0 := by
      rw [← Gw.Rec.cell_eq B k h, List.drop_take]; congr 1; omega
    have hcl : (Gw.Rec.piece B k ++ List.replicate (14 - (Gw.Rec.piece B k).length) (0 : UInt8)).length = 14 := by
      have := Gw.Rec.piece_len B k
      rw [List.length_append, List.length_replicate]; omega
    rw [e1]
    refine ⟨⟨by omega, by omega, by rw [Int.toNat_natCast]; omega⟩, ?_⟩
    rw [Int.toNat_natCast, Int.toNat_natCast, hc]
    conv => whnf
    refine ⟨by show ((Gw.Rec.secs (Gw.Rec.mark n) B k) ++ [M]).length + (Gw.Rec.piece B k ++ List.replicate (14 - (Gw.Rec.piece B k).length) (0 : UInt8)).length < _; rw [hcl, List.length_append, hsl]; simp only [List.length_singleton]; omega, ?_⟩
    conv => whnf
    refine ⟨by show ((Gw.Rec.secs (Gw.Rec.mark n) B k ++ [M]) ++ (Gw.Rec.piece B k ++ List.replicate (14 - (Gw.Rec.piece B k).length) (0 : UInt8))).length + 1 < _; rw [List.length_append, hcl, List.length_append, hsl]; simp only [List.length_singleton]; omega, ?_⟩
    conv => whnf
    refine ⟨k + 1, h, by show _ - (k + 1) < _ - k; omega, rfl, rfl, rfl, rfl, ?_, rfl, ?_, rfl, trivial⟩
    · show C.v (V.str (((Gw.Rec.secs (Gw.Rec.mark n) B k ++ [M]) ++ (Gw.Rec.piece B k ++ List.replicate (14 - (Gw.Rec.piece B k).length) (0 : UInt8))) ++ [M])) = C.v (V.str (Gw.Rec.secs (Gw.Rec.mark n) B (k + 1)))
      rw [Gw.Rec.secs_succ]
      unfold Gw.Rec.sector
      rw [hM]
      simp only [List.append_assoc, List.cons_append, List.nil_append]
    · show C.v (V.int .i64 (IntKind.i64.wrap (((14 * k : Nat) : Int) + 14))) = C.v (V.int .i64 ((14 * (k + 1) : Nat) : Int))
      rw [e1]; rfl
  · have h : k = Gw.Rec.many B := by
      have h := of_decide_eq_false (show decide (((14 * k : Nat) : Int) < ((Gw.Rec.pad B).length : Int)) = false from h)
      omega
    subst h
    conv => whnf
end Go.Proofs.YtkempcjemeipnaaDoor
