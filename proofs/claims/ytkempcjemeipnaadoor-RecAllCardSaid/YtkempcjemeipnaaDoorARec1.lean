/- What rec.Pack computes: told without addresses. No claim of its own. -/
import Derived.Test.YtkempcjemeipnaaDoorASum
import Derived.Test.YtkempcjemeipnaaDoorAVlq
import Derived.Test.YtkempcjemeipnaaDoorRecFn
namespace Go.Proofs.YtkempcjemeipnaaDoor
open Go.Am

/-- The loops over functions of a piece of code: what each assigns, and its body. -/
noncomputable def rangesOf (c : Code) : List (Code × Code) :=
  Code.rec (motive := fun _ => List (Code × Code)) [] (fun _ _ _ => []) (fun _ _ x y => x ++ y) (fun _ _ _ x y => x ++ y) (fun _ _ x => x) (fun _ x => x) (fun _ _ x y _ _ => [(x, y)]) (fun _ => []) (fun _ x => x) (fun _ => []) (fun _ => []) [] (fun _ => []) c
noncomputable def rangeAt (fn : Func) (i : Nat) : Code × Code := match fn.body with
  | some c => match nth (rangesOf c) i with | some x => x | none => (.skip, .skip)
  | none => (.skip, .skip)

theorem mark_pc (n : Nat) : PC Tryd.prog 24 [.int .i64 n] (.int .u8 (Gw.Rec.mark n)) := by
  have e : ((n : Int)).tmod 250 = ((n % 250 : Nat) : Int) := tmodN n 250
  refine PC.of tabOk mixed (fn := Tryd.f24) (by kernel_rfl) rfl (by kernel_rfl) rfl rfl ?_
  conv => whnf
  rw [e, w64 (by omega) (by omega), IntKind.wrap_u8]
  unfold Gw.Rec.mark
  congr 1
  omega

theorem rone_len (n : Nat) (h : n < 9223372036854775808) : (Gw.Vlq.one n).length ≤ 9 := by
  have h1 := oneS_size n h
  have h2 := Gw.Vlq.size_le9 n h
  have h3 : (oneS n).size = (Gw.Vlq.one n).length := rfl
  omega
theorem oneAll_bytes : ∀ (s : List UInt8), oneAll (bytesV s) = true
  | [] => rfl
  | _ :: s => oneAll_bytes s
theorem pureAll_bytes : ∀ (s : List UInt8), pureAll (bytesV s) = true
  | [] => rfl
  | _ :: s => pureAll_bytes s
theorem forgetAll_bytes : ∀ (s : List UInt8), forgetAll (bytesV s) = bytesV s
  | [] => rfl
  | c :: s => by
    show V.int .u8 c.toNat :: forgetAll (bytesV s) = V.int .u8 c.toNat :: bytesV s
    rw [forgetAll_bytes s]
theorem bytesL_flat : ∀ (s : List UInt8), (bytesL s).flatten = bytesV s
  | [] => rfl
  | c :: s => by
    show V.int .u8 c.toNat :: (bytesL s).flatten = V.int .u8 c.toNat :: bytesV s
    rw [bytesL_flat s]
/-- The cells of a sector, its piece laid between the marks. -/
def copied (m : V) (src : List V) (L : Nat) : List V :=
  [m, .int .u8 0, .int .u8 0, .int .u8 0, .int .u8 0, .int .u8 0, .int .u8 0, .int .u8 0, .int .u8 0, .int .u8 0, .int .u8 0, .int .u8 0, .int .u8 0, .int .u8 0, .int .u8 0, m].take (0 + (1 : Int).toNat * 1) ++ src.take (min L (16 - (1 : Int).toNat) * 1) ++
  [m, .int .u8 0, .int .u8 0, .int .u8 0, .int .u8 0, .int .u8 0, .int .u8 0, .int .u8 0, .int .u8 0, .int .u8 0, .int .u8 0, .int .u8 0, .int .u8 0, .int .u8 0, .int .u8 0, m].drop (0 + (1 : Int).toNat * 1 + min L (16 - (1 : Int).toNat) * 1)
theorem copied_eq {m : Nat} (hm : m < 256) {P : List UInt8} (hP : P.length ≤ 14) {src : List V} {L : Nat} (h1 : L = P.length) (h2 : src = bytesV P) : copied (.int .u8 (m : Int)) src L = bytesV (Gw.Rec.sector m P) := by
  subst h1 h2
  have e1 : (1 : Int).toNat = 1 := rfl
  have e2 : min P.length (16 - 1) * 1 = P.length := by omega
  have e3 : ([.int .u8 (m : Int), .int .u8 0, .int .u8 0, .int .u8 0, .int .u8 0, .int .u8 0, .int .u8 0, .int .u8 0, .int .u8 0, .int .u8 0, .int .u8 0, .int .u8 0, .int .u8 0, .int .u8 0, .int .u8 0, .int .u8 (m : Int)] : List V) = .int .u8 (m : Int) :: (List.replicate 14 (V.int .u8 0) ++ [.int .u8 (m : Int)]) := rfl
  have e4 : ((UInt8.ofNat m).toNat : Int) = m := by simp; omega
  unfold copied Gw.Rec.sector
  rw [e1, e2, e3, show 0 + 1 * 1 + P.length = P.length + 1 by omega, List.drop_succ_cons, List.drop_append_of_le_length (by simpa using hP), List.drop_replicate, List.take_of_length_le (l := bytesV P) (by rw [bytesV_len]; exact Nat.le_refl _)]
  show [V.int .u8 (m : Int)] ++ bytesV P ++ _ = V.int .u8 ((UInt8.ofNat m).toNat : Int) :: bytesV ((P ++ List.replicate (14 - P.length) 0) ++ [UInt8.ofNat m])
  rw [e4, bytesV_append, bytesV_append]
  have e5 : bytesV (List.replicate (14 - P.length) 0) = List.replicate (14 - P.length) (V.int .u8 0) := by unfold bytesV; rw [List.map_replicate]; rfl
  have e6 : bytesV [UInt8.ofNat m] = [V.int .u8 (m : Int)] := by
    show [V.int .u8 ((UInt8.ofNat m).toNat : Int)] = _
    rw [e4]
  rw [e5, e6]
  simp
theorem many_one (n : Nat) : Gw.Vlq.many [n] = Gw.Vlq.one n := by simp [Gw.Vlq.many]
theorem pack_pc (lsn : Int) (p : List UInt8) : PC Tryd.prog 10 [.int .i64 lsn, .str p] (.tup [.str (Gw.Rec.pack lsn p), .int .i64 (Gw.Rec.packErr lsn p)]) := by
  unfold Gw.Rec.pack Gw.Rec.packErr
  refine PC.of tabOk mixed (fn := Tryd.f10) (by kernel_rfl) rfl (by kernel_rfl) rfl rfl ?_
  conv => whnf
  refine ⟨fun h1 => ?_, fun h1 => ?_⟩
  · have h1 := of_decide_eq_true h1
    have e : Gw.Rec.may lsn p = false := by unfold Gw.Rec.may; rw [decide_eq_false (by omega)]; rfl
    rw [e, if_neg (by decide), if_neg (by decide)]
    conv => whnf
    repeat (first | refine ⟨fun _ => ?_, fun h => absurd h (by decide)⟩ | refine ⟨fun h => absurd h (by decide), fun _ => ?_⟩
            (conv => whnf))
  have h1 := of_decide_eq_false h1
  conv => whnf
  refine ⟨fun h2 => ?_, fun h2 => ?_⟩
  · have h2 := of_decide_eq_true h2
    have e : Gw.Rec.may lsn p = false := by unfold Gw.Rec.may; rw [decide_eq_true (by omega), decide_eq_false (by omega)]; rfl
    rw [e, if_neg (by decide), if_neg (by decide)]
    conv => whnf
    repeat (first | refine ⟨fun _ => ?_, fun h => absurd h (by decide)⟩ | refine ⟨fun h => absurd h (by decide), fun _ => ?_⟩
            (conv => whnf))
  have h2 := of_decide_eq_false h2
  conv => whnf
  refine ⟨fun h3 => ?_, fun h3 => ?_⟩
  · have h3 := of_decide_eq_true h3
    have e : Gw.Rec.may lsn p = false := by unfold Gw.Rec.may; rw [decide_eq_true (by omega), decide_eq_true (by omega), decide_eq_false (by omega)]; rfl
    rw [e, if_neg (by decide), if_neg (by decide)]
    conv => whnf
  have h3 := of_decide_eq_false h3
  have e : Gw.Rec.may lsn p = true := by unfold Gw.Rec.may; rw [decide_eq_true (by omega), decide_eq_true (by omega), decide_eq_true (by omega)]; rfl
  rw [e, if_pos rfl, if_pos rfl]
  obtain ⟨n, rfl⟩ : ∃ n : Nat, lsn = n := ⟨lsn.toNat, by omega⟩
  rw [Int.toNat_natCast]
  have ho := rone_len n (by omega)
  have c1 := vput_pc [] false [(n : Int)] (fun z hz => by rw [List.mem_singleton] at hz; omega) (by simp)
  rw [List.map_cons, List.map_nil, Int.toNat_natCast, many_one, List.nil_append] at c1
  have c2 := vtext_pc (Gw.Vlq.one n) p (by omega)
  have l2 : (Gw.Vlq.text (Gw.Vlq.one n) p).length ≤ 40100 := by
    have := rone_len p.length (by omega)
    unfold Gw.Vlq.text; simp only [List.length_append]; omega
  have c3 := seal_pc (Gw.Vlq.text (Gw.Vlq.one n) p) (by omega)
  have l3 : (Gw.Sums.seal_ (Gw.Vlq.text (Gw.Vlq.one n) p)).length ≤ 40104 := by
    unfold Gw.Sums.seal_ Gw.Sums.bytes; simp only [List.length_append, List.length_cons, List.length_nil]; omega
  have c4 := vtext_pc [] (Gw.Sums.seal_ (Gw.Vlq.text (Gw.Vlq.one n) p)) (by simp; omega)
  have l4 : (Gw.Rec.bytes n p).length ≤ 40200 := by
    have := rone_len (Gw.Sums.seal_ (Gw.Vlq.text (Gw.Vlq.one n) p)).length (by omega)
    unfold Gw.Rec.bytes Gw.Vlq.text at *; simp only [List.length_append, List.length_nil] at *; omega
  rw [show Gw.Vlq.text [] (Gw.Sums.seal_ (Gw.Vlq.text (Gw.Vlq.one n) p)) = Gw.Rec.bytes n p from rfl] at c4
  unfold Gw.Rec.packed
  generalize Gw.Rec.bytes n p = B at *
  conv => whnf
  refine AC.of_pc c1 rfl ?_
  conv => whnf
  refine AC.of_pc c2 rfl ?_
  conv => whnf
  refine AC.of_pc c3 rfl ?_
  conv => whnf
  refine AC.of_pc c4 rfl ?_
  conv => whnf
  refine AC.of tabOk mixed (fn := Tryd.f23) (by kernel_rfl) rfl (by kernel_rfl) rfl rfl ?_
  conv => whnf
  refine AW.rowC 25 5 1 rfl ?_
  refine AW.range [(2, .ptr 0 0), (9, .ptr 25 0)] ⟨rfl, rfl, rfl, rfl, trivial⟩ rfl rfl ?_
  refine AC.of tabOk mixed (fn := Tryd.f33) (by kernel_rfl) rfl (by kernel_rfl) rfl rfl ?_
  conv => whnf
  refine AW.loop (fun k : Nat => [(.tmp 0, .v (.yield 32)), (.tmp 1, .v (.ptr 27 0)), (.tmp 3, .v (.int .i64 (14 * k : Nat))), (.blk 0, .box 3 [.int .i64 n]), (.blk 23, .mem 5 (bytesV B)),
    (.blk 25, .box 35 [.lst (decide (k = 0)) 1 (bytesL (Gw.Rec.secs (Gw.Rec.mark n) B k)) (.brow 31)]), (.row 31, .row 5 1 (16 * k)), (.blk 27, .box 35 [.own 23 0 1 B.length true]),
    (.blk 32, .loop .ready none 52 [(2, .ptr 0 0), (9, .ptr 25 0)] [37] (rangeAt Tryd.f10 0).1 (rangeAt Tryd.f10 0).2)]) 33
    (fun k => k ≤ Gw.Rec.many B) (fun k => Gw.Rec.many B - k) (by decide) 0 (Nat.zero_le _) ?_ ?_
  · exact ⟨rfl, rfl, rfl, rfl, rfl, rfl, rfl, rfl, rfl, rfl, rfl, rfl, rfl, rfl, rfl, rfl, rfl, rfl, trivial⟩
  rintro k hk
  refine ev_sound tabOk mixed _ _ _ _ ?_
  have hmk := mark_pc n
  by_cases hlt : k < Gw.Rec.many B
  · have hlt2 : 14 * k < B.length := by unfold Gw.Rec.many at hlt; omega
    have hts : decide (((14 * k : Nat) : Int) < (B.length : Int)) = true := decide_eq_true (by omega)
    have e1 : IntKind.i64.wrap (((14 * k : Nat) : Int) + 14) = ((14 * k + 14 : Nat) : Int) := by rw [w64 (by omega) (by omega)]; rfl
    have e2 : min ((14 * k + 14 : Nat) : Int) (B.length : Int) = ((min (14 * k + 14) B.length : Nat) : Int) := by omega
    conv => whnf
    refine ⟨fun _ => ?_, fun h => absurd (hts.symm.trans h) (by decide)⟩
    conv => whnf
    rw [e1, e2]
    refine ⟨⟨by omega, by show _ ≤ ((min (14 * k + 14) B.length : Nat) : Int); omega, by show ((min (14 * k + 14) B.length : Nat) : Int).toNat ≤ _; omega, rfl⟩, ?_⟩
    conv => whnf
    refine AY.of tabOk mixed rfl rfl rfl (fun l => ?_)
    conv => whnf
    refine ⟨_, rfl, hmk, ?_⟩
    conv => whnf
    refine ⟨_, rfl, hmk, ?_⟩
    conv => whnf
    repeat (refine ⟨by first | kernel_rfl | decide, ?_⟩
            conv => whnf)
    have q1 : 0 + (((14 * k : Nat) : Int)).toNat * 1 = 14 * k := by rw [Int.toNat_natCast]; omega
    have q2 : (((min (14 * k + 14) B.length : Nat) : Int).toNat - (((14 * k : Nat) : Int)).toNat) * 1 = (Gw.Rec.piece B k).length := by rw [Int.toNat_natCast, Int.toNat_natCast, Gw.Rec.piece_len]; omega
    have q3 : List.take (Gw.Rec.piece B k).length (List.drop (14 * k) (bytesV B)) = bytesV (Gw.Rec.piece B k) := by
      rw [Gw.Rec.piece_len, Gw.Rec.piece, bytesV_take, bytesV_drop, List.take_eq_take_iff, List.length_drop, bytesV_len]
      omega
    have q4 := Gw.Rec.piece_len B k
    have q5 := bytesV_len B
    refine ⟨⟨?_, ?_⟩, ?_⟩
    · show 0 + (((14 * k : Nat) : Int)).toNat * 1 + (((min (14 * k + 14) B.length : Nat) : Int).toNat - (((14 * k : Nat) : Int)).toNat) * 1 ≤ _
      rw [q1, q2, q5]; omega
    · show oneAll (List.take ((((min (14 * k + 14) B.length : Nat) : Int).toNat - (((14 * k : Nat) : Int)).toNat) * 1) (List.drop (0 + (((14 * k : Nat) : Int)).toNat * 1) (bytesV B))) = true
      rw [q1, q2, q3]
      exact oneAll_bytes _
    conv => whnf
    refine ⟨(Nat.le_refl 16 : _), ?_⟩
    conv => whnf
    have hmark : Gw.Rec.mark n < 256 := by unfold Gw.Rec.mark; omega
    have q6 : copied (.int .u8 (Gw.Rec.mark n : Int)) (List.take ((((min (14 * k + 14) B.length : Nat) : Int).toNat - (((14 * k : Nat) : Int)).toNat) * 1) (List.drop (0 + (((14 * k : Nat) : Int)).toNat * 1) (bytesV B))) (((min (14 * k + 14) B.length : Nat) : Int).toNat - (((14 * k : Nat) : Int)).toNat) = bytesV (Gw.Rec.sector (Gw.Rec.mark n) (Gw.Rec.piece B k)) :=
      copied_eq hmark (by rw [q4]; omega) (by rw [← q2, Nat.mul_one]) (by rw [q1, q2, q3])
    have hsl : (Gw.Rec.sector (Gw.Rec.mark n) (Gw.Rec.piece B k)).length = 16 := Gw.Rec.sector_len _ (by rw [q4]; omega)
    have hbl := bytesL_len (Gw.Rec.secs (Gw.Rec.mark n) B k)
    rw [Gw.Rec.secs_len] at hbl
    have hkb : k ≤ 40200 := by omega
    refine ⟨bytesL (Gw.Rec.sector (Gw.Rec.mark n) (Gw.Rec.piece B k)), ?_⟩
    conv => whnf
    refine ⟨⟨by rw [bytesL_len, hsl], fun el hel => by unfold bytesL at hel; obtain ⟨c, _, rfl⟩ := List.mem_map.1 hel; rfl, ?_, ?_, ?_⟩, ?_⟩
    · show 0 + 16 * 1 ≤ (copied (.int .u8 (Gw.Rec.mark n : Int)) (List.take ((((min (14 * k + 14) B.length : Nat) : Int).toNat - (((14 * k : Nat) : Int)).toNat) * 1) (List.drop (0 + (((14 * k : Nat) : Int)).toNat * 1) (bytesV B))) (((min (14 * k + 14) B.length : Nat) : Int).toNat - (((14 * k : Nat) : Int)).toNat)).length
      rw [q6, bytesV_len, hsl]; decide
    · show forgetAll (((copied (.int .u8 (Gw.Rec.mark n : Int)) (List.take ((((min (14 * k + 14) B.length : Nat) : Int).toNat - (((14 * k : Nat) : Int)).toNat) * 1) (List.drop (0 + (((14 * k : Nat) : Int)).toNat * 1) (bytesV B))) (((min (14 * k + 14) B.length : Nat) : Int).toNat - (((14 * k : Nat) : Int)).toNat)).drop 0).take (16 * 1)) = _
      rw [q6, List.drop_zero, List.take_of_length_le (by rw [bytesV_len, hsl]; decide), forgetAll_bytes, bytesL_flat]
    · show pureAll (((copied (.int .u8 (Gw.Rec.mark n : Int)) (List.take ((((min (14 * k + 14) B.length : Nat) : Int).toNat - (((14 * k : Nat) : Int)).toNat) * 1) (List.drop (0 + (((14 * k : Nat) : Int)).toNat * 1) (bytesV B))) (((min (14 * k + 14) B.length : Nat) : Int).toNat - (((14 * k : Nat) : Int)).toNat)).drop 0).take (16 * 1)) = true
      rw [q6, List.drop_zero, List.take_of_length_le (by rw [bytesV_len, hsl]; decide), pureAll_bytes]
    conv => whnf
    refine ⟨⟨hbl.symm, fits_small (by rw [hbl, bytesL_len, hsl]; omega) (by decide)⟩, ?_⟩
    conv => whnf
    refine ⟨by kernel_rfl, ?_⟩
    conv => whnf
    refine ⟨k + 1, by omega, by show _ - (k + 1) < _ - k; omega, rfl, rfl, rfl, rfl, ?_, rfl, rfl, rfl, rfl, rfl, ?_, rfl, ?_, rfl, rfl, rfl, rfl, rfl, trivial⟩
    · show C.v (V.int .i64 (IntKind.i64.wrap (((14 * k : Nat) : Int) + 14))) = C.v (V.int .i64 ((14 * (k + 1) : Nat) : Int))
      rw [e1]; rfl
    · show C.box _ [V.lst (decide (k = 0) && false) 1 (bytesL (Gw.Rec.secs (Gw.Rec.mark n) B k) ++ bytesL (Gw.Rec.sector (Gw.Rec.mark n) (Gw.Rec.piece B k))) (.brow 31)] = C.box _ [V.lst (decide (k + 1 = 0)) 1 (bytesL (Gw.Rec.secs (Gw.Rec.mark n) B (k + 1))) (.brow 31)]
      rw [Bool.and_false, decide_eq_false (Nat.succ_ne_zero k), Gw.Rec.secs_succ, bytesL, bytesL, bytesL, List.map_append]
    · show C.row _ 1 ((bytesL (Gw.Rec.secs (Gw.Rec.mark n) B k)).length + (bytesL (Gw.Rec.sector (Gw.Rec.mark n) (Gw.Rec.piece B k))).length) = C.row _ 1 (16 * (k + 1))
      rw [hbl, bytesL_len, hsl, Nat.mul_succ]
  · obtain rfl : k = Gw.Rec.many B := by omega
    have hge : B.length ≤ 14 * Gw.Rec.many B := by unfold Gw.Rec.many; omega
    have hts : decide (((14 * Gw.Rec.many B : Nat) : Int) < (B.length : Int)) = false := decide_eq_false (by omega)
    conv => whnf
    refine ⟨fun h => absurd (hts.symm.trans h) (by decide), fun _ => ?_⟩
    conv => whnf
    refine ⟨Gw.Rec.secs (Gw.Rec.mark n) B (Gw.Rec.many B), ?_⟩
    conv => whnf
    refine ⟨⟨.inl rfl, rfl⟩, ?_⟩
    conv => whnf
end Go.Proofs.YtkempcjemeipnaaDoor
