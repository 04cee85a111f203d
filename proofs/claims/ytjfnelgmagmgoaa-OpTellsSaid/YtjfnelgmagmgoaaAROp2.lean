/- What the document's answer for op's Take, Write and Read computes: told without addresses. No claim of its own. -/
import Derived.Test.YtjfnelgmagmgoaaAROp1
import Derived.Test.YtjfnelgmagmgoaaROpFn
namespace Go.Proofs.Ytjfnelgmagmgoaa
open Go.Am

theorem rtookV (s : List UInt8) : ∃ e : Int, tookV s = .tup [.int .i64 ((Gw.Op.rnum s).1 : Int), .str (Gw.Op.rnum s).2, .int .i64 e] := by
  unfold tookV Gw.Op.rnum
  cases Gw.Vlq.take s with
  | none => exact ⟨40, rfl⟩
  | some p => exact ⟨0, rfl⟩
theorem rtookTextV (s : List UInt8) : ∃ (r : List UInt8) (e : Int), tookTextV s = .tup [.str (Gw.Op.rtxt s), .str r, .int .i64 e] := by
  unfold tookTextV Gw.Op.rtxt
  cases takeText s with
  | none => exact ⟨_, 40, rfl⟩
  | some p => exact ⟨_, 0, rfl⟩

theorem i64_nat {n : Nat} (h : n < 9223372036854775808) : I64 (n : Int) := by unfold I64; omega
theorem parse_fine (b : List UInt8) (hb : b.length ≤ 1048576) : Fine (Gw.Op.parse b) := by
  have t4 := Gw.Op.rtxt_len (Gw.Op.rst b 4)
  have t5 := Gw.Op.rtxt_len (Gw.Op.rst b 5)
  have l4 := Gw.Op.rst_len b 4
  have l5 := Gw.Op.rst_len b 5
  unfold Gw.Op.parse
  split
  · exact ⟨i64_nat (Gw.Op.rnm_lt b 3), i64_nat (Gw.Op.rnm_lt b 4), by show (Gw.Op.rtxt _).length ≤ _; omega, by show ([] : List UInt8).length ≤ _; decide⟩
  · exact ⟨i64_nat (Gw.Op.rnm_lt b 3), by show I64 0; unfold I64; decide, by show ([] : List UInt8).length ≤ _; decide, by show (Gw.Op.rtxt _).length ≤ _; omega⟩

theorem ropTake_pc (b : List UInt8) (hb : b.length ≤ 1048576) : PC Try.prog 14 [.str b] (opTakeV (Gw.Op.take b)) := by
  refine PC.of tabOk mixed (fn := Try.f14) (by kernel_rfl) rfl (by kernel_rfl) rfl rfl ?_
  conv => whnf
  refine AW.loop (fun i : Nat => [(.tmp 0, .v (.str b)), (.tmp 2, .v (.ptr 0 0)), (.tmp 3, .v (.str [])), (.tmp 4, .v (.int .i64 0)), (.tmp 5, .v (.ptr 3 0)), (.tmp 6, .v (.str (Gw.Op.rst b i))), (.tmp 7, .v (.int .i64 i)),
    (.blk 0, .box 25 [.int .i64 0, .int .i64 0, .int .i64 0, .int .i64 0, .int .i64 0, .str [], .str []]),
    (.blk 3, .box 66 [.int .i64 (if 0 < i then Gw.Op.rnm b 0 else 0 : Nat), .int .i64 (if 1 < i then Gw.Op.rnm b 1 else 0 : Nat), .int .i64 (if 2 < i then Gw.Op.rnm b 2 else 0 : Nat), .int .i64 (if 3 < i then Gw.Op.rnm b 3 else 0 : Nat), .int .i64 0])]) 4
    (fun i => i ≤ 4) (fun i => 4 - i) (by decide) 0 (by decide) ⟨rfl, rfl, rfl, rfl, rfl, rfl, rfl, rfl, rfl, rfl, rfl, rfl, rfl, rfl, rfl, rfl, rfl, rfl, trivial⟩ ?_
  rintro i hi
  refine ev_sound tabOk mixed _ _ _ _ ?_
  match i, hi with
  | 0, _ =>
    obtain ⟨e, he⟩ := rtookV (Gw.Op.rst b 0)
    have htk := rtake_pc (Gw.Op.rst b 0)
    rw [he] at htk
    conv => whnf
    refine ⟨fun _ => ?_, fun h => absurd h (by decide)⟩
    conv => whnf
    refine AC.of_pc htk rfl ?_
    conv => whnf
    refine ⟨by decide, ?_⟩
    conv => whnf
    exact ⟨1, by decide, by decide, rfl, rfl, rfl, rfl, rfl, rfl, rfl, rfl, rfl, rfl, rfl, rfl, rfl, rfl, rfl, rfl, rfl, rfl, trivial⟩
  | 1, _ =>
    obtain ⟨e, he⟩ := rtookV (Gw.Op.rst b 1)
    have htk := rtake_pc (Gw.Op.rst b 1)
    rw [he] at htk
    conv => whnf
    refine ⟨fun _ => ?_, fun h => absurd h (by decide)⟩
    conv => whnf
    refine AC.of_pc htk rfl ?_
    conv => whnf
    refine ⟨by decide, ?_⟩
    conv => whnf
    exact ⟨2, by decide, by decide, rfl, rfl, rfl, rfl, rfl, rfl, rfl, rfl, rfl, rfl, rfl, rfl, rfl, rfl, rfl, rfl, rfl, rfl, trivial⟩
  | 2, _ =>
    obtain ⟨e, he⟩ := rtookV (Gw.Op.rst b 2)
    have htk := rtake_pc (Gw.Op.rst b 2)
    rw [he] at htk
    conv => whnf
    refine ⟨fun _ => ?_, fun h => absurd h (by decide)⟩
    conv => whnf
    refine AC.of_pc htk rfl ?_
    conv => whnf
    refine ⟨by decide, ?_⟩
    conv => whnf
    exact ⟨3, by decide, by decide, rfl, rfl, rfl, rfl, rfl, rfl, rfl, rfl, rfl, rfl, rfl, rfl, rfl, rfl, rfl, rfl, rfl, rfl, trivial⟩
  | 3, _ =>
    obtain ⟨e, he⟩ := rtookV (Gw.Op.rst b 3)
    have htk := rtake_pc (Gw.Op.rst b 3)
    rw [he] at htk
    conv => whnf
    refine ⟨fun _ => ?_, fun h => absurd h (by decide)⟩
    conv => whnf
    refine AC.of_pc htk rfl ?_
    conv => whnf
    refine ⟨by decide, ?_⟩
    conv => whnf
    exact ⟨4, by decide, by decide, rfl, rfl, rfl, rfl, rfl, rfl, rfl, rfl, rfl, rfl, rfl, rfl, rfl, rfl, rfl, rfl, rfl, rfl, trivial⟩
  | 4, _ =>
    conv => whnf
    refine ⟨fun h => absurd h (by decide), fun _ => ?_⟩
    conv => whnf
    repeat (refine ⟨by decide, ?_⟩
            conv => whnf)
    refine ⟨fun hk => ?_, fun hk => ?_⟩
    · have hk : Gw.Op.rnm b 2 = 1 := by
        have h : ((Gw.Op.rnm b 2 : Int) == 1) = true := hk
        have h : (Gw.Op.rnm b 2 : Int) = 1 := by simpa using h
        omega
      have hP : Gw.Op.parse b = ⟨⟨Gw.Op.rnm b 0, Gw.Op.rnm b 1⟩, Gw.Op.rnm b 2, Gw.Op.rnm b 3, Gw.Op.rnm b 4, Gw.Op.rtxt (Gw.Op.rst b 5), []⟩ := by unfold Gw.Op.parse; rw [if_pos hk]
      have href := Gw.Op.take_ref b
      have hfi := parse_fine b hb
      rw [hP] at href hfi
      obtain ⟨e, he⟩ := rtookV (Gw.Op.rst b 4)
      have htk := rtake_pc (Gw.Op.rst b 4)
      rw [he] at htk
      obtain ⟨r, e', he'⟩ := rtookTextV (Gw.Op.rst b 5)
      have htx := rtakeText_pc (Gw.Op.rst b 5)
      rw [he'] at htx
      conv => whnf
      refine AC.of_pc htk rfl ?_
      conv => whnf
      refine AC.of_pc htx rfl ?_
      conv => whnf
      have hput := rput_pc [] ⟨⟨Gw.Op.rnm b 0, Gw.Op.rnm b 1⟩, Gw.Op.rnm b 2, Gw.Op.rnm b 3, Gw.Op.rnm b 4, Gw.Op.rtxt (Gw.Op.rst b 5), []⟩ hfi (by decide)
      cases hck : Gw.Op.check ⟨⟨Gw.Op.rnm b 0, Gw.Op.rnm b 1⟩, Gw.Op.rnm b 2, Gw.Op.rnm b 3, Gw.Op.rnm b 4, Gw.Op.rtxt (Gw.Op.rst b 5), []⟩ with
      | false =>
        have e1 : Gw.Op.put [] ⟨⟨Gw.Op.rnm b 0, Gw.Op.rnm b 1⟩, Gw.Op.rnm b 2, Gw.Op.rnm b 3, Gw.Op.rnm b 4, Gw.Op.rtxt (Gw.Op.rst b 5), []⟩ = [] := by unfold Gw.Op.put; rw [hck]; rfl
        have e2 : Gw.Op.putErr ⟨⟨Gw.Op.rnm b 0, Gw.Op.rnm b 1⟩, Gw.Op.rnm b 2, Gw.Op.rnm b 3, Gw.Op.rnm b 4, Gw.Op.rtxt (Gw.Op.rst b 5), []⟩ = 50 := by unfold Gw.Op.putErr; rw [hck]; rfl
        rw [e1, e2] at hput
        rw [hck, if_neg (by simp)] at href
        rw [href]
        refine AC.of_pc hput rfl ?_
        conv => whnf
        repeat (first | refine ⟨fun _ => ?_, fun h => absurd h (by decide)⟩ | refine ⟨fun h => absurd h (by decide), fun _ => ?_⟩
                (conv => whnf))
        rfl
      | true =>
        have e1 : Gw.Op.put [] ⟨⟨Gw.Op.rnm b 0, Gw.Op.rnm b 1⟩, Gw.Op.rnm b 2, Gw.Op.rnm b 3, Gw.Op.rnm b 4, Gw.Op.rtxt (Gw.Op.rst b 5), []⟩ = Gw.Op.bytes ⟨⟨Gw.Op.rnm b 0, Gw.Op.rnm b 1⟩, Gw.Op.rnm b 2, Gw.Op.rnm b 3, Gw.Op.rnm b 4, Gw.Op.rtxt (Gw.Op.rst b 5), []⟩ := by unfold Gw.Op.put; rw [hck]; rfl
        have e2 : Gw.Op.putErr ⟨⟨Gw.Op.rnm b 0, Gw.Op.rnm b 1⟩, Gw.Op.rnm b 2, Gw.Op.rnm b 3, Gw.Op.rnm b 4, Gw.Op.rtxt (Gw.Op.rst b 5), []⟩ = 0 := by unfold Gw.Op.putErr; rw [hck]; rfl
        rw [e1, e2] at hput
        rw [hck] at href
        generalize Gw.Op.bytes ⟨⟨Gw.Op.rnm b 0, Gw.Op.rnm b 1⟩, Gw.Op.rnm b 2, Gw.Op.rnm b 3, Gw.Op.rnm b 4, Gw.Op.rtxt (Gw.Op.rst b 5), []⟩ = B at *
        refine AC.of_pc hput rfl ?_
        conv => whnf
        refine ⟨fun h => absurd h (by decide), fun _ => ?_⟩
        conv => whnf
        refine ⟨fun h => ?_, fun h => ?_⟩
        · have h := of_decide_eq_true h
          rw [if_neg (by omega)] at href
          rw [href]
          conv => whnf
          repeat (first | refine ⟨fun _ => ?_, fun h => absurd h (by decide)⟩ | refine ⟨fun h => absurd h (by decide), fun _ => ?_⟩
                  (conv => whnf))
          rfl
        have h := of_decide_eq_false h
        conv => whnf
        refine ⟨⟨by omega, by omega⟩, ?_⟩
        rw [Int.toNat_natCast]
        conv => whnf
        refine ⟨fun h2 => ?_, fun h2 => ?_⟩
        · have h2 : ¬ b.take B.length = B := fun e => by
            have h2 : (!decide (B = b.take B.length)) = true := h2
            rw [e] at h2; simp at h2
          rw [if_neg (fun h => h2 h.2.2)] at href
          rw [href]
          conv => whnf
          rfl
        · have h2 : b.take B.length = B := by
            have h2 : (!decide (B = b.take B.length)) = false := h2
            have h2 : B = b.take B.length := by simpa using h2
            exact h2.symm
          rw [if_pos ⟨rfl, by omega, h2⟩] at href
          rw [href]
          conv => whnf
          refine ⟨⟨by omega, by omega⟩, ?_⟩
          rw [Int.toNat_natCast]
          conv => whnf
          refine ⟨by kernel_rfl, ?_⟩
          conv => whnf
          rfl
    · have hk : ¬ Gw.Op.rnm b 2 = 1 := by
        have h : ((Gw.Op.rnm b 2 : Int) == 1) = false := hk
        have h : ¬ (Gw.Op.rnm b 2 : Int) = 1 := by simpa using h
        omega
      have hP : Gw.Op.parse b = ⟨⟨Gw.Op.rnm b 0, Gw.Op.rnm b 1⟩, Gw.Op.rnm b 2, Gw.Op.rnm b 3, 0, [], Gw.Op.rtxt (Gw.Op.rst b 4)⟩ := by unfold Gw.Op.parse; rw [if_neg hk]
      have href := Gw.Op.take_ref b
      have hfi := parse_fine b hb
      rw [hP] at href hfi
      obtain ⟨r, e', he'⟩ := rtookTextV (Gw.Op.rst b 4)
      have htx := rtakeText_pc (Gw.Op.rst b 4)
      rw [he'] at htx
      conv => whnf
      refine AC.of_pc htx rfl ?_
      conv => whnf
      have hput := rput_pc [] ⟨⟨Gw.Op.rnm b 0, Gw.Op.rnm b 1⟩, Gw.Op.rnm b 2, Gw.Op.rnm b 3, 0, [], Gw.Op.rtxt (Gw.Op.rst b 4)⟩ hfi (by decide)
      cases hck : Gw.Op.check ⟨⟨Gw.Op.rnm b 0, Gw.Op.rnm b 1⟩, Gw.Op.rnm b 2, Gw.Op.rnm b 3, 0, [], Gw.Op.rtxt (Gw.Op.rst b 4)⟩ with
      | false =>
        have e1 : Gw.Op.put [] ⟨⟨Gw.Op.rnm b 0, Gw.Op.rnm b 1⟩, Gw.Op.rnm b 2, Gw.Op.rnm b 3, 0, [], Gw.Op.rtxt (Gw.Op.rst b 4)⟩ = [] := by unfold Gw.Op.put; rw [hck]; rfl
        have e2 : Gw.Op.putErr ⟨⟨Gw.Op.rnm b 0, Gw.Op.rnm b 1⟩, Gw.Op.rnm b 2, Gw.Op.rnm b 3, 0, [], Gw.Op.rtxt (Gw.Op.rst b 4)⟩ = 50 := by unfold Gw.Op.putErr; rw [hck]; rfl
        rw [e1, e2] at hput
        rw [hck, if_neg (by simp)] at href
        rw [href]
        refine AC.of_pc hput rfl ?_
        conv => whnf
        repeat (first | refine ⟨fun _ => ?_, fun h => absurd h (by decide)⟩ | refine ⟨fun h => absurd h (by decide), fun _ => ?_⟩
                (conv => whnf))
        rfl
      | true =>
        have e1 : Gw.Op.put [] ⟨⟨Gw.Op.rnm b 0, Gw.Op.rnm b 1⟩, Gw.Op.rnm b 2, Gw.Op.rnm b 3, 0, [], Gw.Op.rtxt (Gw.Op.rst b 4)⟩ = Gw.Op.bytes ⟨⟨Gw.Op.rnm b 0, Gw.Op.rnm b 1⟩, Gw.Op.rnm b 2, Gw.Op.rnm b 3, 0, [], Gw.Op.rtxt (Gw.Op.rst b 4)⟩ := by unfold Gw.Op.put; rw [hck]; rfl
        have e2 : Gw.Op.putErr ⟨⟨Gw.Op.rnm b 0, Gw.Op.rnm b 1⟩, Gw.Op.rnm b 2, Gw.Op.rnm b 3, 0, [], Gw.Op.rtxt (Gw.Op.rst b 4)⟩ = 0 := by unfold Gw.Op.putErr; rw [hck]; rfl
        rw [e1, e2] at hput
        rw [hck] at href
        generalize Gw.Op.bytes ⟨⟨Gw.Op.rnm b 0, Gw.Op.rnm b 1⟩, Gw.Op.rnm b 2, Gw.Op.rnm b 3, 0, [], Gw.Op.rtxt (Gw.Op.rst b 4)⟩ = B at *
        refine AC.of_pc hput rfl ?_
        conv => whnf
        refine ⟨fun h => absurd h (by decide), fun _ => ?_⟩
        conv => whnf
        refine ⟨fun h => ?_, fun h => ?_⟩
        · have h := of_decide_eq_true h
          rw [if_neg (by omega)] at href
          rw [href]
          conv => whnf
          repeat (first | refine ⟨fun _ => ?_, fun h => absurd h (by decide)⟩ | refine ⟨fun h => absurd h (by decide), fun _ => ?_⟩
                  (conv => whnf))
          rfl
        have h := of_decide_eq_false h
        conv => whnf
        refine ⟨⟨by omega, by omega⟩, ?_⟩
        rw [Int.toNat_natCast]
        conv => whnf
        refine ⟨fun h2 => ?_, fun h2 => ?_⟩
        · have h2 : ¬ b.take B.length = B := fun e => by
            have h2 : (!decide (B = b.take B.length)) = true := h2
            rw [e] at h2; simp at h2
          rw [if_neg (fun h => h2 h.2.2)] at href
          rw [href]
          conv => whnf
          rfl
        · have h2 : b.take B.length = B := by
            have h2 : (!decide (B = b.take B.length)) = false := h2
            have h2 : B = b.take B.length := by simpa using h2
            exact h2.symm
          rw [if_pos ⟨rfl, by omega, h2⟩] at href
          rw [href]
          conv => whnf
          refine ⟨⟨by omega, by omega⟩, ?_⟩
          rw [Int.toNat_natCast]
          conv => whnf
          refine ⟨by kernel_rfl, ?_⟩
          conv => whnf
          rfl
end Go.Proofs.Ytjfnelgmagmgoaa
