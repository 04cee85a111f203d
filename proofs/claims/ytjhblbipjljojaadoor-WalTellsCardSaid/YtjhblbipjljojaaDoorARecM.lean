/- What rec.Pack computes: told without addresses. No claim of its own. -/
import Derived.Test.YtjhblbipjljojaaDoorASum
import Derived.Test.YtjhblbipjljojaaDoorAVlq
import Derived.Test.YtjhblbipjljojaaDoorRecPl
import Derived.Test.YtjhblbipjljojaaDoorSumsRefN
namespace Go.Proofs.YtjhblbipjljojaaDoor
open Go.Am

/-- The loops over functions of a piece of code: what each assigns, and its body. -/
noncomputable def rangesOf (c : Code) : List (Code × Code) :=
  Code.rec (motive := fun _ => List (Code × Code)) [] (fun _ _ _ => []) (fun _ _ x y => x ++ y) (fun _ _ _ x y => x ++ y) (fun _ _ x => x) (fun _ x => x) (fun _ _ x y _ _ => [(x, y)]) (fun _ => []) (fun _ x => x) (fun _ => []) (fun _ => []) [] (fun _ => []) c
noncomputable def rangeAt (fn : Func) (i : Nat) : Code × Code := match fn.body with
  | some c => match nth (rangesOf c) i with | some x => x | none => (.skip, .skip)
  | none => (.skip, .skip)

theorem mark_pc (n : Nat) : PC Tryd.prog 77 [.int .i64 n] (.int .u8 (Gw.Rec.mark n)) := by
  have e : ((n : Int)).tmod 250 = ((n % 250 : Nat) : Int) := tmodN n 250
  refine PC.of tabOk mixed (fn := Tryd.f77) (by kernel_rfl) rfl (by kernel_rfl) rfl rfl ?_
  conv => whnf
  rw [e, w64 (by omega) (by omega), IntKind.wrap_u8]
  unfold Gw.Rec.mark
  congr 1
  omega

theorem rone_len (n : Nat) (h : n < 9223372036854775808) : (Gw.Vlq.one n).length ≤ 9 := by
  have h1 := oneS_size n h
  have h2 := Gw.Vlq.size_le9 n h
  have h3 : (oneS n).size = (Gw.Vlq.one n).length := rfl
  omega
theorem oneAll_bytes : ∀ (s : List UInt8), oneAll (bytesV s) = true
  | [] => rfl
  | _ :: s => oneAll_bytes s
theorem pureAll_bytes : ∀ (s : List UInt8), pureAll (bytesV s) = true
  | [] => rfl
  | _ :: s => pureAll_bytes s
theorem forgetAll_bytes : ∀ (s : List UInt8), forgetAll (bytesV s) = bytesV s
  | [] => rfl
  | c :: s => by
    show V.int .u8 c.toNat :: forgetAll (bytesV s) = V.int .u8 c.toNat :: bytesV s
    rw [forgetAll_bytes s]
theorem bytesL_flat : ∀ (s : List UInt8), (bytesL s).flatten = bytesV s
  | [] => rfl
  | c :: s => by
    show V.int .u8 c.toNat :: (bytesL s).flatten = V.int .u8 c.toNat :: bytesV s
    rw [bytesL_flat s]
/-- The cells of a sector, its piece laid between the marks. -/
def copied (m : V) (src : List V) (L : Nat) : List V :=
  [m, .int .u8 0, .int .u8 0, .int .u8 0, .int .u8 0, .int .u8 0, .int .u8 0, .int .u8 0, .int .u8 0, .int .u8 0, .int .u8 0, .int .u8 0, .int .u8 0, .int .u8 0, .int .u8 0, m].take (0 + (1 : Int).toNat * 1) ++ src.take (min L (16 - (1 : Int).toNat) * 1) ++
  [m, .int .u8 0, .int .u8 0, .int .u8 0, .int .u8 0, .int .u8 0, .int .u8 0, .int .u8 0, .int .u8 0, .int .u8 0, .int .u8 0, .int .u8 0, .int .u8 0, .int .u8 0, .int .u8 0, m].drop (0 + (1 : Int).toNat * 1 + min L (16 - (1 : Int).toNat) * 1)
theorem copied_eq {m : Nat} (hm : m < 256) {P : List UInt8} (hP : P.length ≤ 14) {src : List V} {L : Nat} (h1 : L = P.length) (h2 : src = bytesV P) : copied (.int .u8 (m : Int)) src L = bytesV (Gw.Rec.sector m P) := by
  subst h1 h2
  have e1 : (1 : Int).toNat = 1 := rfl
  have e2 : min P.length (16 - 1) * 1 = P.length := by omega
  have e3 : ([.int .u8 (m : Int), .int .u8 0, .int .u8 0, .int .u8 0, .int .u8 0, .int .u8 0, .int .u8 0, .int .u8 0, .int .u8 0, .int .u8 0, .int .u8 0, .int .u8 0, .int .u8 0, .int .u8 0, .int .u8 0, .int .u8 (m : Int)] : List V) = .int .u8 (m : Int) :: (List.replicate 14 (V.int .u8 0) ++ [.int .u8 (m : Int)]) := rfl
  have e4 : ((UInt8.ofNat m).toNat : Int) = m := by simp; omega
  unfold copied Gw.Rec.sector
  rw [e1, e2, e3, show 0 + 1 * 1 + P.length = P.length + 1 by omega, List.drop_succ_cons, List.drop_append_of_le_length (by simpa using hP), List.drop_replicate, List.take_of_length_le (l := bytesV P) (by rw [bytesV_len]; exact Nat.le_refl _)]
  show [V.int .u8 (m : Int)] ++ bytesV P ++ _ = V.int .u8 ((UInt8.ofNat m).toNat : Int) :: bytesV ((P ++ List.replicate (14 - P.length) 0) ++ [UInt8.ofNat m])
  rw [e4, bytesV_append, bytesV_append]
  have e5 : bytesV (List.replicate (14 - P.length) 0) = List.replicate (14 - P.length) (V.int .u8 0) := by unfold bytesV; rw [List.map_replicate]; rfl
  have e6 : bytesV [UInt8.ofNat m] = [V.int .u8 (m : Int)] := by
    show [V.int .u8 ((UInt8.ofNat m).toNat : Int)] = _
    rw [e4]
  rw [e5, e6]
  simp
theorem many_one (n : Nat) : Gw.Vlq.many [n] = Gw.Vlq.one n := by simp [Gw.Vlq.many]
theorem pack_pc (lsn : Int) (p : List UInt8) : PC Tryd.prog 46 [.int .i64 lsn, .str p] (.tup [.str (Gw.Rec.pack lsn p), .int .i64 (Gw.Rec.packErr lsn p)]) := by
  unfold Gw.Rec.pack Gw.Rec.packErr
  refine PC.of tabOk mixed (fn := Tryd.f46) (by kernel_rfl) rfl (by kernel_rfl) rfl rfl ?_
  conv => whnf
  refine ⟨fun h1 => ?_, fun h1 => ?_⟩
  · have h1 := of_decide_eq_true h1
    have e : Gw.Rec.may lsn p = false := by unfold Gw.Rec.may; rw [decide_eq_false (by omega)]; rfl
    rw [e, if_neg (by decide), if_neg (by decide)]
    conv => whnf
    repeat (first | refine ⟨fun _ => ?_, fun h => absurd h (by decide)⟩ | refine ⟨fun h => absurd h (by decide), fun _ => ?_⟩
            (conv => whnf))
  have h1 := of_decide_eq_false h1
  conv => whnf
  refine ⟨fun h2 => ?_, fun h2 => ?_⟩
  · have h2 := of_decide_eq_true h2
    have e : Gw.Rec.may lsn p = false := by unfold Gw.Rec.may; rw [decide_eq_true (by omega), decide_eq_false (by omega)]; rfl
    rw [e, if_neg (by decide), if_neg (by decide)]
    conv => whnf
    repeat (first | refine ⟨fun _ => ?_, fun h => absurd h (by decide)⟩ | refine ⟨fun h => absurd h (by decide), fun _ => ?_⟩
            (conv => whnf))
  have h2 := of_decide_eq_false h2
  conv => whnf
  refine ⟨fun h3 => ?_, fun h3 => ?_⟩
  · have h3 := of_decide_eq_true h3
    have e : Gw.Rec.may lsn p = false := by unfold Gw.Rec.may; rw [decide_eq_true (by omega), decide_eq_true (by omega), decide_eq_false (by omega)]; rfl
    rw [e, if_neg (by decide), if_neg (by decide)]
    conv => whnf
  have h3 := of_decide_eq_false h3
  have e : Gw.Rec.may lsn p = true := by unfold Gw.Rec.may; rw [decide_eq_true (by omega), decide_eq_true (by omega), decide_eq_true (by omega)]; rfl
  rw [e, if_pos rfl, if_pos rfl]
  obtain ⟨n, rfl⟩ : ∃ n : Nat, lsn = n := ⟨lsn.toNat, by omega⟩
  rw [Int.toNat_natCast]
  have ho := rone_len n (by omega)
  have c1 := vput_pc [] false [(n : Int)] (fun z hz => by rw [List.mem_singleton] at hz; omega) (by simp)
  rw [List.map_cons, List.map_nil, Int.toNat_natCast, many_one, List.nil_append] at c1
  have c2 := vtext_pc (Gw.Vlq.one n) p (by omega)
  have l2 : (Gw.Vlq.text (Gw.Vlq.one n) p).length ≤ 40100 := by
    have := rone_len p.length (by omega)
    unfold Gw.Vlq.text; simp only [List.length_append]; omega
  have c3 := seal_pc (Gw.Vlq.text (Gw.Vlq.one n) p) (by omega)
  have l3 : (Gw.Sums.seal_ (Gw.Vlq.text (Gw.Vlq.one n) p)).length ≤ 40104 := by
    unfold Gw.Sums.seal_ Gw.Sums.bytes; simp only [List.length_append, List.length_cons, List.length_nil]; omega
  have c4 := vtext_pc [] (Gw.Sums.seal_ (Gw.Vlq.text (Gw.Vlq.one n) p)) (by simp; omega)
  have l4 : (Gw.Rec.bytes n p).length ≤ 40200 := by
    have := rone_len (Gw.Sums.seal_ (Gw.Vlq.text (Gw.Vlq.one n) p)).length (by omega)
    unfold Gw.Rec.bytes Gw.Vlq.text at *; simp only [List.length_append, List.length_nil] at *; omega
  rw [show Gw.Vlq.text [] (Gw.Sums.seal_ (Gw.Vlq.text (Gw.Vlq.one n) p)) = Gw.Rec.bytes n p from rfl] at c4
  unfold Gw.Rec.packed
  generalize Gw.Rec.bytes n p = B at *
  conv => whnf
  refine AC.of_pc c1 rfl ?_
  conv => whnf
  refine AC.of_pc c2 rfl ?_
  conv => whnf
  refine AC.of_pc c3 rfl ?_
  conv => whnf
  refine AC.of_pc c4 rfl ?_
  conv => whnf
  refine AC.of tabOk mixed (fn := Tryd.f76) (by kernel_rfl) rfl (by kernel_rfl) rfl rfl ?_
  conv => whnf
  refine AW.rowC 25 5 1 rfl ?_
  refine AW.range [(2, .ptr 0 0), (9, .ptr 25 0)] ⟨rfl, rfl, rfl, rfl, trivial⟩ rfl rfl ?_
  refine AC.of tabOk mixed (fn := Tryd.f94) (by kernel_rfl) rfl (by kernel_rfl) rfl rfl ?_
  conv => whnf
  refine AW.loop (fun k : Nat => [(.tmp 0, .v (.yield 32)), (.tmp 1, .v (.ptr 27 0)), (.tmp 3, .v (.int .i64 (14 * k : Nat))), (.blk 0, .box 3 [.int .i64 n]), (.blk 23, .mem 5 (bytesV B)),
    (.blk 25, .box 82 [.lst (decide (k = 0)) 1 (bytesL (Gw.Rec.secs (Gw.Rec.mark n) B k)) (.brow 31)]), (.row 31, .row 5 1 (16 * k)), (.blk 27, .box 82 [.own 23 0 1 B.length true]),
    (.blk 32, .loop .ready none 52 [(2, .ptr 0 0), (9, .ptr 25 0)] [37] (rangeAt Tryd.f46 0).1 (rangeAt Tryd.f46 0).2)]) 33
    (fun k => k ≤ Gw.Rec.many B) (fun k => Gw.Rec.many B - k) (by decide) 0 (Nat.zero_le _) ?_ ?_
  · exact ⟨rfl, rfl, rfl, rfl, rfl, rfl, rfl, rfl, rfl, rfl, rfl, rfl, rfl, rfl, rfl, rfl, rfl, rfl, trivial⟩
  rintro k hk
  refine ev_sound tabOk mixed _ _ _ _ ?_
  have hmk := mark_pc n
  by_cases hlt : k < Gw.Rec.many B
  · have hlt2 : 14 * k < B.length := by unfold Gw.Rec.many at hlt; omega
    have hts : decide (((14 * k : Nat) : Int) < (B.length : Int)) = true := decide_eq_true (by omega)
    have e1 : IntKind.i64.wrap (((14 * k : Nat) : Int) + 14) = ((14 * k + 14 : Nat) : Int) := by rw [w64 (by omega) (by omega)]; rfl
    have e2 : min ((14 * k + 14 : Nat) : Int) (B.length : Int) = ((min (14 * k + 14) B.length : Nat) : Int) := by omega
    conv => whnf
    refine ⟨fun _ => ?_, fun h => absurd (hts.symm.trans h) (by decide)⟩
    conv => whnf
    rw [e1, e2]
    refine ⟨⟨by omega, by show _ ≤ ((min (14 * k + 14) B.length : Nat) : Int); omega, by show ((min (14 * k + 14) B.length : Nat) : Int).toNat ≤ _; omega, rfl⟩, ?_⟩
    conv => whnf
    refine AY.of tabOk mixed rfl rfl rfl (fun l => ?_)
    conv => whnf
    refine ⟨_, rfl, hmk, ?_⟩
    conv => whnf
    refine ⟨_, rfl, hmk, ?_⟩
    conv => whnf
    repeat (refine ⟨by first | kernel_rfl | decide, ?_⟩
            conv => whnf)
    have q1 : 0 + (((14 * k : Nat) : Int)).toNat * 1 = 14 * k := by rw [Int.toNat_natCast]; omega
    have q2 : (((min (14 * k + 14) B.length : Nat) : Int).toNat - (((14 * k : Nat) : Int)).toNat) * 1 = (Gw.Rec.piece B k).length := by rw [Int.toNat_natCast, Int.toNat_natCast, Gw.Rec.piece_len]; omega
    have q3 : List.take (Gw.Rec.piece B k).length (List.drop (14 * k) (bytesV B)) = bytesV (Gw.Rec.piece B k) := by
      rw [Gw.Rec.piece_len, Gw.Rec.piece, bytesV_take, bytesV_drop, List.take_eq_take_iff, List.length_drop, bytesV_len]
      omega
    have q4 := Gw.Rec.piece_len B k
    have q5 := bytesV_len B
    refine ⟨⟨?_, ?_⟩, ?_⟩
    · show 0 + (((14 * k : Nat) : Int)).toNat * 1 + (((min (14 * k + 14) B.length : Nat) : Int).toNat - (((14 * k : Nat) : Int)).toNat) * 1 ≤ _
      rw [q1, q2, q5]; omega
    · show oneAll (List.take ((((min (14 * k + 14) B.length : Nat) : Int).toNat - (((14 * k : Nat) : Int)).toNat) * 1) (List.drop (0 + (((14 * k : Nat) : Int)).toNat * 1) (bytesV B))) = true
      rw [q1, q2, q3]
      exact oneAll_bytes _
    conv => whnf
    refine ⟨(Nat.le_refl 16 : _), ?_⟩
    conv => whnf
    have hmark : Gw.Rec.mark n < 256 := by unfold Gw.Rec.mark; omega
    have q6 : copied (.int .u8 (Gw.Rec.mark n : Int)) (List.take ((((min (14 * k + 14) B.length : Nat) : Int).toNat - (((14 * k : Nat) : Int)).toNat) * 1) (List.drop (0 + (((14 * k : Nat) : Int)).toNat * 1) (bytesV B))) (((min (14 * k + 14) B.length : Nat) : Int).toNat - (((14 * k : Nat) : Int)).toNat) = bytesV (Gw.Rec.sector (Gw.Rec.mark n) (Gw.Rec.piece B k)) :=
      copied_eq hmark (by rw [q4]; omega) (by rw [← q2, Nat.mul_one]) (by rw [q1, q2, q3])
    have hsl : (Gw.Rec.sector (Gw.Rec.mark n) (Gw.Rec.piece B k)).length = 16 := Gw.Rec.sector_len _ (by rw [q4]; omega)
    have hbl := bytesL_len (Gw.Rec.secs (Gw.Rec.mark n) B k)
    rw [Gw.Rec.secs_len] at hbl
    have hkb : k ≤ 40200 := by omega
    refine ⟨bytesL (Gw.Rec.sector (Gw.Rec.mark n) (Gw.Rec.piece B k)), ?_⟩
    conv => whnf
    refine ⟨⟨by rw [bytesL_len, hsl], fun el hel => by unfold bytesL at hel; obtain ⟨c, _, rfl⟩ := List.mem_map.1 hel; rfl, ?_, ?_, ?_⟩, ?_⟩
    · show 0 + 16 * 1 ≤ (copied (.int .u8 (Gw.Rec.mark n : Int)) (List.take ((((min (14 * k + 14) B.length : Nat) : Int).toNat - (((14 * k : Nat) : Int)).toNat) * 1) (List.drop (0 + (((14 * k : Nat) : Int)).toNat * 1) (bytesV B))) (((min (14 * k + 14) B.length : Nat) : Int).toNat - (((14 * k : Nat) : Int)).toNat)).length
      rw [q6, bytesV_len, hsl]; decide
    · show forgetAll (((copied (.int .u8 (Gw.Rec.mark n : Int)) (List.take ((((min (14 * k + 14) B.length : Nat) : Int).toNat - (((14 * k : Nat) : Int)).toNat) * 1) (List.drop (0 + (((14 * k : Nat) : Int)).toNat * 1) (bytesV B))) (((min (14 * k + 14) B.length : Nat) : Int).toNat - (((14 * k : Nat) : Int)).toNat)).drop 0).take (16 * 1)) = _
      rw [q6, List.drop_zero, List.take_of_length_le (by rw [bytesV_len, hsl]; decide), forgetAll_bytes, bytesL_flat]
    · show pureAll (((copied (.int .u8 (Gw.Rec.mark n : Int)) (List.take ((((min (14 * k + 14) B.length : Nat) : Int).toNat - (((14 * k : Nat) : Int)).toNat) * 1) (List.drop (0 + (((14 * k : Nat) : Int)).toNat * 1) (bytesV B))) (((min (14 * k + 14) B.length : Nat) : Int).toNat - (((14 * k : Nat) : Int)).toNat)).drop 0).take (16 * 1)) = true
      rw [q6, List.drop_zero, List.take_of_length_le (by rw [bytesV_len, hsl]; decide), pureAll_bytes]
    conv => whnf
    refine ⟨⟨hbl.symm, fits_small (by rw [hbl, bytesL_len, hsl]; omega) (by decide)⟩, ?_⟩
    conv => whnf
    refine ⟨by kernel_rfl, ?_⟩
    conv => whnf
    refine ⟨k + 1, by omega, by show _ - (k + 1) < _ - k; omega, rfl, rfl, rfl, rfl, ?_, rfl, rfl, rfl, rfl, rfl, ?_, rfl, ?_, rfl, rfl, rfl, rfl, rfl, trivial⟩
    · show C.v (V.int .i64 (IntKind.i64.wrap (((14 * k : Nat) : Int) + 14))) = C.v (V.int .i64 ((14 * (k + 1) : Nat) : Int))
      rw [e1]; rfl
    · show C.box _ [V.lst (decide (k = 0) && false) 1 (bytesL (Gw.Rec.secs (Gw.Rec.mark n) B k) ++ bytesL (Gw.Rec.sector (Gw.Rec.mark n) (Gw.Rec.piece B k))) (.brow 31)] = C.box _ [V.lst (decide (k + 1 = 0)) 1 (bytesL (Gw.Rec.secs (Gw.Rec.mark n) B (k + 1))) (.brow 31)]
      rw [Bool.and_false, decide_eq_false (Nat.succ_ne_zero k), Gw.Rec.secs_succ, bytesL, bytesL, bytesL, List.map_append]
    · show C.row _ 1 ((bytesL (Gw.Rec.secs (Gw.Rec.mark n) B k)).length + (bytesL (Gw.Rec.sector (Gw.Rec.mark n) (Gw.Rec.piece B k))).length) = C.row _ 1 (16 * (k + 1))
      rw [hbl, bytesL_len, hsl, Nat.mul_succ]
  · obtain rfl : k = Gw.Rec.many B := by omega
    have hge : B.length ≤ 14 * Gw.Rec.many B := by unfold Gw.Rec.many; omega
    have hts : decide (((14 * Gw.Rec.many B : Nat) : Int) < (B.length : Int)) = false := decide_eq_false (by omega)
    conv => whnf
    refine ⟨fun h => absurd (hts.symm.trans h) (by decide), fun _ => ?_⟩
    conv => whnf
    refine ⟨Gw.Rec.secs (Gw.Rec.mark n) B (Gw.Rec.many B), ?_⟩
    conv => whnf
    refine ⟨⟨.inl rfl, rfl⟩, ?_⟩
    conv => whnf
end Go.Proofs.YtjhblbipjljojaaDoor


namespace Go.Proofs.YtjhblbipjljojaaDoor
open Go.Am

theorem whole_pc (s : List UInt8) (m : Nat) (hs : s.length ≤ 1048576) : PC Tryd.prog 85 [.str s, .int .u8 m] (.str (Gw.Rec.whole s m)) := by
  refine PC.of tabOk mixed (fn := Tryd.f85) (by kernel_rfl) rfl (by kernel_rfl) rfl rfl ?_
  conv => whnf
  refine AC.of tabOk mixed (fn := Tryd.f98) (by kernel_rfl) rfl (by kernel_rfl) rfl rfl ?_
  conv => whnf
  refine AW.rowC 2 5 1 rfl ?_
  refine AW.range [(2, .ptr 0 0), (5, .ptr 2 0), (6, .ptr 3 0)] ⟨rfl, rfl, rfl, rfl, rfl, rfl, trivial⟩ rfl rfl ?_
  refine AC.of tabOk mixed (fn := Tryd.f103) (by kernel_rfl) rfl (by kernel_rfl) rfl rfl ?_
  conv => whnf
  refine AW.loop (X := Nat × List UInt8 × Nat) (fun x => [(.tmp 0, .v (.yield 13)), (.tmp 1, .v (.ptr 7 0)), (.tmp 2, .v (.ptr 8 0)), (.tmp 4, .v (.int .i64 (16 * x.1 : Nat))), (.blk 0, .box 9 [.str s]),
    (.blk 2, .box 82 [.lst (decide (x.1 = 0)) 1 (bytesL x.2.1) (.brow 12)]), (.row 12, .row 5 1 (14 * x.1)), (.blk 3, .box 3 [.int .i64 (x.2.2 : Nat)]), (.blk 7, .box 9 [.str s]), (.blk 8, .box 5 [.int .u8 m]),
    (.blk 13, .loop .ready none 55 [(2, .ptr 0 0), (5, .ptr 2 0), (6, .ptr 3 0)] [14] (rangeAt Tryd.f85 0).1 (rangeAt Tryd.f85 0).2)]) 14
    (fun x => x.1 ≤ s.length ∧ x.2.1.length = 14 * x.1 ∧ x.2.2 ≤ 2097152 ∧ ∃ f, s.length < f + x.1 ∧ Gw.Rec.whole s m = Gw.Rec.wholeE (Gw.Rec.wholeF s m f x.1 x.2.1 x.2.2)) (fun x => s.length - x.1) (by decide) (0, [], 0) ⟨Nat.zero_le _, rfl, by decide, s.length + 1, by omega, rfl⟩ ?_ ?_
  · exact ⟨rfl, rfl, rfl, rfl, rfl, rfl, rfl, rfl, rfl, rfl, rfl, rfl, rfl, rfl, rfl, rfl, rfl, rfl, rfl, rfl, rfl, rfl, trivial⟩
  rintro ⟨k, b, need⟩ ⟨hk, hb, hnd, f, hf, hw⟩
  simp only at hk hb hnd hf hw
  refine ev_sound tabOk mixed _ _ _ _ ?_
  have e0 : IntKind.i64.wrap (((16 * k : Nat) : Int) + 16) = ((16 * k + 16 : Nat) : Int) := by rw [w64 (by omega) (by omega)]; rfl
  conv => whnf
  rw [e0]
  have eapp : C.box 82 [V.lst (decide (k = 0) && false) 1 (bytesL b ++ bytesL (((Gw.Rec.sect s k).take 15).drop 1)) (.brow 12)] = C.box 82 [V.lst (decide (k + 1 = 0)) 1 (bytesL (b ++ ((Gw.Rec.sect s k).take 15).drop 1)) (.brow 12)] := by
    rw [Bool.and_false, decide_eq_false (Nat.succ_ne_zero k), bytesL, bytesL, bytesL, List.map_append]
  have e16 : ((16 * k + 16 : Nat) : Int) = ((16 * (k + 1) : Nat) : Int) := by omega
  have eapp : C.box 82 [V.lst (decide (k = 0) && false) 1 (bytesL b ++ bytesL (((Gw.Rec.sect s k).take 15).drop 1)) (.brow 12)] = C.box 82 [V.lst (decide (k + 1 = 0)) 1 (bytesL (b ++ ((Gw.Rec.sect s k).take 15).drop 1)) (.brow 12)] := by
    rw [Bool.and_false, decide_eq_false (Nat.succ_ne_zero k), bytesL, bytesL, bytesL, List.map_append]
  have e16 : ((16 * k + 16 : Nat) : Int) = ((16 * (k + 1) : Nat) : Int) := by omega
  have eapp : C.box 82 [V.lst (decide (k = 0) && false) 1 (bytesL b ++ bytesL (((Gw.Rec.sect s k).take 15).drop 1)) (.brow 12)] = C.box 82 [V.lst (decide (k + 1 = 0)) 1 (bytesL (b ++ ((Gw.Rec.sect s k).take 15).drop 1)) (.brow 12)] := by
    rw [Bool.and_false, decide_eq_false (Nat.succ_ne_zero k), bytesL, bytesL, bytesL, List.map_append]
  have e16 : ((16 * k + 16 : Nat) : Int) = ((16 * (k + 1) : Nat) : Int) := by omega
  have eapp : C.box 82 [V.lst (decide (k = 0) && false) 1 (bytesL b ++ bytesL (((Gw.Rec.sect s k).take 15).drop 1)) (.brow 12)] = C.box 82 [V.lst (decide (k + 1 = 0)) 1 (bytesL (b ++ ((Gw.Rec.sect s k).take 15).drop 1)) (.brow 12)] := by
    rw [Bool.and_false, decide_eq_false (Nat.succ_ne_zero k), bytesL, bytesL, bytesL, List.map_append]
  have e16 : ((16 * k + 16 : Nat) : Int) = ((16 * (k + 1) : Nat) : Int) := by omega
  have eapp : C.box 82 [V.lst (decide (k = 0) && false) 1 (bytesL b ++ bytesL (((Gw.Rec.sect s k).take 15).drop 1)) (.brow 12)] = C.box 82 [V.lst (decide (k + 1 = 0)) 1 (bytesL (b ++ ((Gw.Rec.sect s k).take 15).drop 1)) (.brow 12)] := by
    rw [Bool.and_false, decide_eq_false (Nat.succ_ne_zero k), bytesL, bytesL, bytesL, List.map_append]
  have e16 : ((16 * k + 16 : Nat) : Int) = ((16 * (k + 1) : Nat) : Int) := by omega
  have eapp : C.box 82 [V.lst (decide (k = 0) && false) 1 (bytesL b ++ bytesL (((Gw.Rec.sect s k).take 15).drop 1)) (.brow 12)] = C.box 82 [V.lst (decide (k + 1 = 0)) 1 (bytesL (b ++ ((Gw.Rec.sect s k).take 15).drop 1)) (.brow 12)] := by
    rw [Bool.and_false, decide_eq_false (Nat.succ_ne_zero k), bytesL, bytesL, bytesL, List.map_append]
  have e16 : ((16 * k + 16 : Nat) : Int) = ((16 * (k + 1) : Nat) : Int) := by omega
  have eapp : C.box 82 [V.lst (decide (k = 0) && false) 1 (bytesL b ++ bytesL (((Gw.Rec.sect s k).take 15).drop 1)) (.brow 12)] = C.box 82 [V.lst (decide (k + 1 = 0)) 1 (bytesL (b ++ ((Gw.Rec.sect s k).take 15).drop 1)) (.brow 12)] := by
    rw [Bool.and_false, decide_eq_false (Nat.succ_ne_zero k), bytesL, bytesL, bytesL, List.map_append]
  have e16 : ((16 * k + 16 : Nat) : Int) = ((16 * (k + 1) : Nat) : Int) := by omega
  have eapp : C.box 82 [V.lst (decide (k = 0) && false) 1 (bytesL b ++ bytesL (((Gw.Rec.sect s k).take 15).drop 1)) (.brow 12)] = C.box 82 [V.lst (decide (k + 1 = 0)) 1 (bytesL (b ++ ((Gw.Rec.sect s k).take 15).drop 1)) (.brow 12)] := by
    rw [Bool.and_false, decide_eq_false (Nat.succ_ne_zero k), bytesL, bytesL, bytesL, List.map_append]
  have e16 : ((16 * k + 16 : Nat) : Int) = ((16 * (k + 1) : Nat) : Int) := by omega
  have eapp : C.box 82 [V.lst (decide (k = 0) && false) 1 (bytesL b ++ bytesL (((Gw.Rec.sect s k).take 15).drop 1)) (.brow 12)] = C.box 82 [V.lst (decide (k + 1 = 0)) 1 (bytesL (b ++ ((Gw.Rec.sect s k).take 15).drop 1)) (.brow 12)] := by
    rw [Bool.and_false, decide_eq_false (Nat.succ_ne_zero k), bytesL, bytesL, bytesL, List.map_append]
  have e16 : ((16 * k + 16 : Nat) : Int) = ((16 * (k + 1) : Nat) : Int) := by omega
  have eapp : C.box 82 [V.lst (decide (k = 0) && false) 1 (bytesL b ++ bytesL (((Gw.Rec.sect s k).take 15).drop 1)) (.brow 12)] = C.box 82 [V.lst (decide (k + 1 = 0)) 1 (bytesL (b ++ ((Gw.Rec.sect s k).take 15).drop 1)) (.brow 12)] := by
    rw [Bool.and_false, decide_eq_false (Nat.succ_ne_zero k), bytesL, bytesL, bytesL, List.map_append]
  have e16 : ((16 * k + 16 : Nat) : Int) = ((16 * (k + 1) : Nat) : Int) := by omega
  have eapp : C.box 82 [V.lst (decide (k = 0) && false) 1 (bytesL b ++ bytesL (((Gw.Rec.sect s k).take 15).drop 1)) (.brow 12)] = C.box 82 [V.lst (decide (k + 1 = 0)) 1 (bytesL (b ++ ((Gw.Rec.sect s k).take 15).drop 1)) (.brow 12)] := by
    rw [Bool.and_false, decide_eq_false (Nat.succ_ne_zero k), bytesL, bytesL, bytesL, List.map_append]
  have e16 : ((16 * k + 16 : Nat) : Int) = ((16 * (k + 1) : Nat) : Int) := by omega
  have e16 : ((16 * k + 16 : Nat) : Int) = ((16 * (k + 1) : Nat) : Int) := by omega
  have e16 : ((16 * k + 16 : Nat) : Int) = ((16 * (k + 1) : Nat) : Int) := by omega
  by_cases hfit : 16 * k + 16 ≤ s.length
  · have hts : decide (((16 * k + 16 : Nat) : Int) ≤ (s.length : Int)) = true := decide_eq_true (by omega)
    obtain ⟨f, rfl⟩ : ∃ g, f = g + 1 := ⟨f - 1, by omega⟩
    rw [Gw.Rec.wholeF, if_pos hfit] at hw
    have hsl := Gw.Rec.sect_len hfit
    have hil := Gw.Rec.inn_len hsl
    have e1 := e0
    refine ⟨fun _ => ?_, fun h => absurd (hts.symm.trans h) (by decide)⟩
    conv => whnf
    rw [e0]
    refine ⟨⟨by omega, by omega, by omega⟩, ?_⟩
    rw [Int.toNat_natCast, Int.toNat_natCast]
    rw [show (s.take (16 * k + 16)).drop (16 * k) = Gw.Rec.sect s k from rfl]
    unfold Gw.Rec.inn at hw hil
    generalize Gw.Rec.sect s k = c at *
    have g0 : c[(0 : Int).toNat]? = some (c.getD 0 0) := by rw [List.getD_eq_getElem?_getD, show (0 : Int).toNat = 0 from rfl, List.getElem?_eq_getElem (by omega)]; rfl
    have g15 : c[(15 : Int).toNat]? = some (c.getD 15 0) := by rw [List.getD_eq_getElem?_getD, show (15 : Int).toNat = 15 from rfl, List.getElem?_eq_getElem (by omega)]; rfl
    generalize c.getD 0 0 = c0 at *
    generalize c.getD 15 0 = c15 at *
    conv => whnf
    refine ⟨c0, ?_⟩
    conv => whnf
    refine ⟨⟨by decide, g0⟩, ?_⟩
    conv => whnf
    refine ⟨fun q0 => ?_, fun q0 => ?_⟩
    · have q0 : c0.toNat ≠ m := by
        have q : (((c0.toNat : Nat) : Int) != ((m : Nat) : Int)) = true := q0
        intro e; rw [e] at q; simp at q
      rw [if_pos (.inl q0)] at hw
      conv => whnf
      repeat (first | refine ⟨fun _ => ?_, fun h => absurd h (by decide)⟩ | refine ⟨fun h => absurd h (by decide), fun _ => ?_⟩ | refine ⟨by kernel_rfl, ?_⟩
              (conv => whnf))
      rw [hw]
      unfold Gw.Rec.wholeE
      by_cases hz : need = 0
      · rw [if_pos (.inl hz)]
        have ht : (((need : Nat) : Int) == 0) = true := by rw [hz]; rfl
        refine ⟨fun _ => ?_, fun h => absurd (ht.symm.trans h) (by decide)⟩
        conv => whnf
      · have ht : (((need : Nat) : Int) == 0) = false := by simp; omega
        refine ⟨fun h => absurd (ht.symm.trans h) (by decide), fun _ => ?_⟩
        conv => whnf
        refine ⟨fun q => ?_, fun q => ?_⟩
        · have q := of_decide_eq_true (show decide ((((bytesL b).length : Nat) : Int) < ((need : Nat) : Int)) = true from q)
          rw [bytesL_len] at q
          rw [if_pos (.inr (by simp only; omega))]
          conv => whnf
        · have q := of_decide_eq_false (show decide ((((bytesL b).length : Nat) : Int) < ((need : Nat) : Int)) = false from q)
          rw [bytesL_len] at q
          rw [if_neg (fun h => h.elim hz (by simp only; omega))]
          conv => whnf
          refine ⟨b, ?_⟩
          conv => whnf
          refine ⟨⟨.inl rfl, rfl⟩, ?_⟩
          conv => whnf
    have q0 : c0.toNat = m := by
      have q : (((c0.toNat : Nat) : Int) != ((m : Nat) : Int)) = false := q0
      have q : ((c0.toNat : Nat) : Int) = ((m : Nat) : Int) := by simpa using q
      omega
    conv => whnf
    refine ⟨c15, ?_⟩
    conv => whnf
    refine ⟨⟨by decide, g15⟩, ?_⟩
    conv => whnf
    refine ⟨fun q1 => ?_, fun q1 => ?_⟩
    · have q1 : c15.toNat ≠ m := by
        have q : (((c15.toNat : Nat) : Int) != ((m : Nat) : Int)) = true := q1
        intro e; rw [e] at q; simp at q
      rw [if_pos (.inr q1)] at hw
      conv => whnf
      repeat (first | refine ⟨fun _ => ?_, fun h => absurd h (by decide)⟩ | refine ⟨fun h => absurd h (by decide), fun _ => ?_⟩ | refine ⟨by kernel_rfl, ?_⟩
              (conv => whnf))
      rw [hw]
      unfold Gw.Rec.wholeE
      by_cases hz : need = 0
      · rw [if_pos (.inl hz)]
        have ht : (((need : Nat) : Int) == 0) = true := by rw [hz]; rfl
        refine ⟨fun _ => ?_, fun h => absurd (ht.symm.trans h) (by decide)⟩
        conv => whnf
      · have ht : (((need : Nat) : Int) == 0) = false := by simp; omega
        refine ⟨fun h => absurd (ht.symm.trans h) (by decide), fun _ => ?_⟩
        conv => whnf
        refine ⟨fun q => ?_, fun q => ?_⟩
        · have q := of_decide_eq_true (show decide ((((bytesL b).length : Nat) : Int) < ((need : Nat) : Int)) = true from q)
          rw [bytesL_len] at q
          rw [if_pos (.inr (by simp only; omega))]
          conv => whnf
        · have q := of_decide_eq_false (show decide ((((bytesL b).length : Nat) : Int) < ((need : Nat) : Int)) = false from q)
          rw [bytesL_len] at q
          rw [if_neg (fun h => h.elim hz (by simp only; omega))]
          conv => whnf
          refine ⟨b, ?_⟩
          conv => whnf
          refine ⟨⟨.inl rfl, rfl⟩, ?_⟩
          conv => whnf
    have q1 : c15.toNat = m := by
      have q : (((c15.toNat : Nat) : Int) != ((m : Nat) : Int)) = false := q1
      have q : ((c15.toNat : Nat) : Int) = ((m : Nat) : Int) := by simpa using q
      omega
    rw [if_neg (fun h => h.elim (fun h => h q0) (fun h => h q1))] at hw
    conv => whnf
    refine ⟨⟨by decide, by decide, by show 15 ≤ c.length; omega⟩, ?_⟩
    rw [show (15 : Int).toNat = 15 from rfl, show (1 : Int).toNat = 1 from rfl]
    have htk := vtake_pc ((c.take 15).drop 1) (by omega)
    have hbl := bytesL_len b
    rw [hb] at hbl
    conv => whnf
    refine ⟨by kernel_rfl, by kernel_rfl, ?_⟩
    refine AY.of tabOk mixed rfl rfl rfl (fun l => ?_)
    conv => whnf
    refine ⟨⟨hbl.symm, fits_small (by show (bytesL b).length + (((c.take 15).drop 1).map fun c => [V.int .u8 c.toNat]).length ≤ _; rw [hbl, List.length_map, hil]; omega) (by decide)⟩, ?_⟩
    conv => whnf
    have hsp : ((c.take 15).drop 1).length = 14 := hil
    have hB : (b ++ (c.take 15).drop 1).length = 14 * k + 14 := by rw [List.length_append, hb, hsp]
    refine ⟨fun hn0 => ?_, fun hn0 => ?_⟩
    · obtain rfl : need = 0 := by
        have q : (((need : Nat) : Int) == 0) = true := hn0
        simpa using q
      conv => whnf
      rcases htk0 : Gw.Vlq.take ((c.take 15).drop 1) with _ | ⟨n, u⟩
      · rw [show tookV ((c.take 15).drop 1) = .tup [.int .i64 0, .str [], .int .i64 40] from by unfold tookV; rw [htk0]] at htk
        refine AC.of_pc htk rfl ?_
        conv => whnf
        repeat (first | refine ⟨fun _ => ?_, fun h => absurd h (by decide)⟩ | refine ⟨fun h => absurd h (by decide), fun _ => ?_⟩ | refine ⟨by kernel_rfl, ?_⟩
                (conv => whnf))
        have hst : Gw.Rec.wStep s (b ++ (c.take 15).drop 1) ((c.take 15).drop 1) 0 = (true, 0) := by unfold Gw.Rec.wStep; rw [htk0]; rfl
        rw [hst, if_pos rfl] at hw
        have hz : (0 : Nat) = 0 := rfl
        rw [hw]
        unfold Gw.Rec.wholeE
        rw [if_pos (.inl rfl)]
        refine ⟨fun _ => ?_, fun h => absurd (show true = false from h) (by decide)⟩
        conv => whnf
      · have hu := Gw.Vlq.take_le _ htk0
        rw [hsp] at hu
        rw [show tookV ((c.take 15).drop 1) = .tup [.int .i64 (n : Int), .str (((c.take 15).drop 1).drop u), .int .i64 0] from by unfold tookV; rw [htk0]] at htk
        have e5 : IntKind.i64.wrap ((((c.take 15).drop 1).length : Int) - ((((c.take 15).drop 1).drop u).length : Int)) = (u : Int) := by rw [List.length_drop (i := u), hsp, w64 (by omega) (by omega)]; omega
        refine AC.of_pc htk rfl ?_
        conv => whnf
        repeat (first | refine ⟨fun _ => ?_, fun h => absurd h (by decide)⟩ | refine ⟨fun h => absurd h (by decide), fun _ => ?_⟩ | refine ⟨by kernel_rfl, ?_⟩
                (conv => whnf))
        refine ⟨fun h5 => ?_, fun h5 => ?_⟩
        · have h5 := of_decide_eq_true h5
          have hst : Gw.Rec.wStep s (b ++ (c.take 15).drop 1) ((c.take 15).drop 1) 0 = (true, 0) := by
            unfold Gw.Rec.wStep; rw [htk0, if_pos rfl]; simp only; rw [if_pos (by omega)]
          rw [hst, if_pos rfl] at hw
          have hz : (0 : Nat) = 0 := rfl
          conv => whnf
          repeat (first | refine ⟨fun _ => ?_, fun h => absurd h (by decide)⟩ | refine ⟨fun h => absurd h (by decide), fun _ => ?_⟩ | refine ⟨by kernel_rfl, ?_⟩
                  (conv => whnf))
          rw [hw]
          unfold Gw.Rec.wholeE
          rw [if_pos (.inl rfl)]
          refine ⟨fun _ => ?_, fun h => absurd (show true = false from h) (by decide)⟩
          conv => whnf
        · have h5 := of_decide_eq_false h5
          have e6 : IntKind.i64.wrap (IntKind.i64.wrap ((((c.take 15).drop 1).length : Int) - ((((c.take 15).drop 1).drop u).length : Int)) + (n : Int)) = ((u + n : Nat) : Int) := by rw [e5, w64 (by omega) (by omega)]; rfl
          have hst : Gw.Rec.wStep s (b ++ (c.take 15).drop 1) ((c.take 15).drop 1) 0 = (decide (u + n ≤ 14 * k + 14), u + n) := by
            unfold Gw.Rec.wStep; rw [htk0, if_pos rfl]; simp only; rw [if_neg (by omega), hB]
          rw [hst] at hw
          conv => whnf
          try rw [e6]
          have hlb : (bytesL b ++ ((c.take 15).drop 1).map fun c => [V.int .u8 c.toNat]).length = 14 * k + 14 := by rw [List.length_append, hbl, List.length_map, hsp]
          have hem : (((c.take 15).drop 1).map fun c : UInt8 => [V.int .u8 (c.toNat : Int)]).isEmpty = false := by
            rw [Bool.eq_false_iff]
            intro h
            have h := congrArg List.length (List.isEmpty_iff.1 h)
            rw [List.length_map, hsp] at h
            exact absurd h (by decide)
          have eapp : C.box 82 [V.lst (decide (k = 0) && (((c.take 15).drop 1).map fun c : UInt8 => [V.int .u8 (c.toNat : Int)]).isEmpty) 1 (bytesL b ++ (((c.take 15).drop 1).map fun c : UInt8 => [V.int .u8 (c.toNat : Int)])) (.brow 12)] = C.box 82 [V.lst (decide (k + 1 = 0)) 1 (bytesL (b ++ (c.take 15).drop 1)) (.brow 12)] := by
            rw [hem, Bool.and_false, decide_eq_false (Nat.succ_ne_zero k), bytesL, bytesL, List.map_append]
          have erow : C.row 5 1 ((bytesL b).length + (((c.take 15).drop 1).map fun c => [V.int .u8 c.toNat]).length) = C.row 5 1 (14 * (k + 1)) := by rw [hbl, List.length_map, hsp, Nat.mul_succ]
          refine ⟨fun h6 => ?_, fun h6 => ?_⟩
          · have h6 : (u + n) ≤ 14 * k + 14 := by
              have q : decide ((((u + n) : Nat) : Int) ≤ (((bytesL b ++ ((c.take 15).drop 1).map fun c => [V.int .u8 c.toNat]).length : Nat) : Int)) = true := h6
              rw [hlb] at q
              have q := of_decide_eq_true q
              omega
            rw [decide_eq_true h6, if_pos rfl] at hw
            conv => whnf
            repeat (first | refine ⟨fun _ => ?_, fun h => absurd h (by decide)⟩ | refine ⟨fun h => absurd h (by decide), fun _ => ?_⟩ | refine ⟨by kernel_rfl, ?_⟩
                    (conv => whnf))
            have hz : u + n ≠ 0 := by omega
            rw [hw]
            unfold Gw.Rec.wholeE
            have ht : ((((u + n) : Nat) : Int) == 0) = false := by simp; omega
            refine ⟨fun h => absurd (ht.symm.trans h) (by decide), fun _ => ?_⟩
            conv => whnf
            refine ⟨fun q => ?_, fun q => ?_⟩
            · have q := of_decide_eq_true (show decide ((((bytesL b ++ ((c.take 15).drop 1).map fun c => [V.int .u8 c.toNat]).length : Nat) : Int) < (((u + n) : Nat) : Int)) = true from q)
              rw [hlb] at q
              rw [if_pos (.inr (by simp only; rw [hB]; omega))]
              conv => whnf
            · have q := of_decide_eq_false (show decide ((((bytesL b ++ ((c.take 15).drop 1).map fun c => [V.int .u8 c.toNat]).length : Nat) : Int) < (((u + n) : Nat) : Int)) = false from q)
              rw [hlb] at q
              rw [if_neg (fun h => h.elim hz (by simp only; rw [hB]; omega))]
              conv => whnf
              refine ⟨(b ++ (c.take 15).drop 1), ?_⟩
              conv => whnf
              refine ⟨⟨.inl rfl, (List.map_append (f := fun c : UInt8 => [V.int .u8 c.toNat])).symm⟩, ?_⟩
              conv => whnf
          · have h6 : ¬ (u + n) ≤ 14 * k + 14 := by
              have q : decide ((((u + n) : Nat) : Int) ≤ (((bytesL b ++ ((c.take 15).drop 1).map fun c => [V.int .u8 c.toNat]).length : Nat) : Int)) = false := h6
              rw [hlb] at q
              have q := of_decide_eq_false q
              omega
            rw [decide_eq_false h6, if_neg Bool.false_ne_true] at hw
            conv => whnf
            repeat (first | refine ⟨fun _ => ?_, fun h => absurd h (by decide)⟩ | refine ⟨fun h => absurd h (by decide), fun _ => ?_⟩ | refine ⟨by kernel_rfl, ?_⟩
                    (conv => whnf))
            exact ⟨(k + 1, b ++ (c.take 15).drop 1, (u + n)), ⟨by simp only; omega, by simp only [List.length_append]; omega, by simp only; omega, f, by simp only; omega, hw⟩, by show _ - (k + 1) < _ - k; omega, rfl, rfl, rfl, rfl, rfl, rfl, by rw [← e16]; exact congrArg _ (congrArg _ e1), rfl, rfl, rfl, eapp, rfl, erow, rfl, rfl, rfl, rfl, rfl, rfl, rfl, rfl, rfl, trivial⟩
    · have hnz : need ≠ 0 := by
        have q : (((need : Nat) : Int) == 0) = false := hn0
        intro e; rw [e] at q; exact absurd q (by decide)
      have e6 : True := trivial
      have hst : Gw.Rec.wStep s (b ++ (c.take 15).drop 1) ((c.take 15).drop 1) need = (decide (need ≤ 14 * k + 14), need) := by
        unfold Gw.Rec.wStep; rw [if_neg hnz, hB]
      rw [hst] at hw
      conv => whnf
      have hlb : (bytesL b ++ ((c.take 15).drop 1).map fun c => [V.int .u8 c.toNat]).length = 14 * k + 14 := by rw [List.length_append, hbl, List.length_map, hsp]
      have hem : (((c.take 15).drop 1).map fun c : UInt8 => [V.int .u8 (c.toNat : Int)]).isEmpty = false := by
        rw [Bool.eq_false_iff]
        intro h
        have h := congrArg List.length (List.isEmpty_iff.1 h)
        rw [List.length_map, hsp] at h
        exact absurd h (by decide)
      have eapp : C.box 82 [V.lst (decide (k = 0) && (((c.take 15).drop 1).map fun c : UInt8 => [V.int .u8 (c.toNat : Int)]).isEmpty) 1 (bytesL b ++ (((c.take 15).drop 1).map fun c : UInt8 => [V.int .u8 (c.toNat : Int)])) (.brow 12)] = C.box 82 [V.lst (decide (k + 1 = 0)) 1 (bytesL (b ++ (c.take 15).drop 1)) (.brow 12)] := by
        rw [hem, Bool.and_false, decide_eq_false (Nat.succ_ne_zero k), bytesL, bytesL, List.map_append]
      have erow : C.row 5 1 ((bytesL b).length + (((c.take 15).drop 1).map fun c => [V.int .u8 c.toNat]).length) = C.row 5 1 (14 * (k + 1)) := by rw [hbl, List.length_map, hsp, Nat.mul_succ]
      refine ⟨fun h6 => ?_, fun h6 => ?_⟩
      · have h6 : need ≤ 14 * k + 14 := by
          have q : decide (((need : Nat) : Int) ≤ (((bytesL b ++ ((c.take 15).drop 1).map fun c => [V.int .u8 c.toNat]).length : Nat) : Int)) = true := h6
          rw [hlb] at q
          have q := of_decide_eq_true q
          omega
        rw [decide_eq_true h6, if_pos rfl] at hw
        conv => whnf
        repeat (first | refine ⟨fun _ => ?_, fun h => absurd h (by decide)⟩ | refine ⟨fun h => absurd h (by decide), fun _ => ?_⟩ | refine ⟨by kernel_rfl, ?_⟩
                (conv => whnf))
        rw [hw]
        unfold Gw.Rec.wholeE
        by_cases hz : need = 0
        · rw [if_pos (.inl hz)]
          have ht : (((need : Nat) : Int) == 0) = true := by rw [hz]; rfl
          refine ⟨fun _ => ?_, fun h => absurd (ht.symm.trans h) (by decide)⟩
          conv => whnf
        · have ht : (((need : Nat) : Int) == 0) = false := by simp; omega
          refine ⟨fun h => absurd (ht.symm.trans h) (by decide), fun _ => ?_⟩
          conv => whnf
          refine ⟨fun q => ?_, fun q => ?_⟩
          · have q := of_decide_eq_true (show decide ((((bytesL b ++ ((c.take 15).drop 1).map fun c => [V.int .u8 c.toNat]).length : Nat) : Int) < ((need : Nat) : Int)) = true from q)
            rw [hlb] at q
            rw [if_pos (.inr (by simp only; rw [hB]; omega))]
            conv => whnf
          · have q := of_decide_eq_false (show decide ((((bytesL b ++ ((c.take 15).drop 1).map fun c => [V.int .u8 c.toNat]).length : Nat) : Int) < ((need : Nat) : Int)) = false from q)
            rw [hlb] at q
            rw [if_neg (fun h => h.elim hz (by simp only; rw [hB]; omega))]
            conv => whnf
            refine ⟨(b ++ (c.take 15).drop 1), ?_⟩
            conv => whnf
            refine ⟨⟨.inl rfl, (List.map_append (f := fun c : UInt8 => [V.int .u8 c.toNat])).symm⟩, ?_⟩
            conv => whnf
      · have h6 : ¬ need ≤ 14 * k + 14 := by
          have q : decide (((need : Nat) : Int) ≤ (((bytesL b ++ ((c.take 15).drop 1).map fun c => [V.int .u8 c.toNat]).length : Nat) : Int)) = false := h6
          rw [hlb] at q
          have q := of_decide_eq_false q
          omega
        rw [decide_eq_false h6, if_neg Bool.false_ne_true] at hw
        conv => whnf
        repeat (first | refine ⟨fun _ => ?_, fun h => absurd h (by decide)⟩ | refine ⟨fun h => absurd h (by decide), fun _ => ?_⟩ | refine ⟨by kernel_rfl, ?_⟩
                (conv => whnf))
        exact ⟨(k + 1, b ++ (c.take 15).drop 1, need), ⟨by simp only; omega, by simp only [List.length_append]; omega, by simp only; omega, f, by simp only; omega, hw⟩, by show _ - (k + 1) < _ - k; omega, rfl, rfl, rfl, rfl, rfl, rfl, by rw [← e16]; exact congrArg _ (congrArg _ e1), rfl, rfl, rfl, eapp, rfl, erow, rfl, rfl, rfl, rfl, rfl, rfl, rfl, rfl, rfl, trivial⟩
  · have hts : decide (((16 * k + 16 : Nat) : Int) ≤ (s.length : Int)) = false := decide_eq_false (by omega)
    obtain ⟨f, rfl⟩ : ∃ g, f = g + 1 := ⟨f - 1, by omega⟩
    rw [Gw.Rec.wholeF, if_neg hfit] at hw
    refine ⟨fun h => absurd (hts.symm.trans h) (by decide), fun _ => ?_⟩
    conv => whnf
    repeat (first | refine ⟨fun _ => ?_, fun h => absurd h (by decide)⟩ | refine ⟨fun h => absurd h (by decide), fun _ => ?_⟩ | refine ⟨by kernel_rfl, ?_⟩
            (conv => whnf))
    rw [hw]
    unfold Gw.Rec.wholeE
    by_cases hz : need = 0
    · rw [if_pos (.inl hz)]
      have ht : (((need : Nat) : Int) == 0) = true := by rw [hz]; rfl
      refine ⟨fun _ => ?_, fun h => absurd (ht.symm.trans h) (by decide)⟩
      conv => whnf
    · have ht : (((need : Nat) : Int) == 0) = false := by simp; omega
      refine ⟨fun h => absurd (ht.symm.trans h) (by decide), fun _ => ?_⟩
      conv => whnf
      refine ⟨fun q => ?_, fun q => ?_⟩
      · have q := of_decide_eq_true (show decide ((((bytesL b).length : Nat) : Int) < ((need : Nat) : Int)) = true from q)
        rw [bytesL_len] at q
        rw [if_pos (.inr (by simp only; omega))]
        conv => whnf
      · have q := of_decide_eq_false (show decide ((((bytesL b).length : Nat) : Int) < ((need : Nat) : Int)) = false from q)
        rw [bytesL_len] at q
        rw [if_neg (fun h => h.elim hz (by simp only; omega))]
        conv => whnf
        refine ⟨b, ?_⟩
        conv => whnf
        refine ⟨⟨.inl rfl, rfl⟩, ?_⟩
        conv => whnf
end Go.Proofs.YtjhblbipjljojaaDoor


namespace Go.Proofs.YtjhblbipjljojaaDoor
open Go.Am

theorem recPre0_pc (s p : List UInt8) : PC Tryd.prog 99 [.str s, .str p] (.bool (Gw.Rec.isPre p s)) := by
  unfold Gw.Rec.isPre
  refine PC.of tabOk mixed (fn := Tryd.f99) (by kernel_rfl) rfl (by kernel_rfl) rfl rfl ?_
  conv => whnf
  refine ⟨fun h => ?_, fun h => ?_⟩
  · have h := of_decide_eq_true h
    conv => whnf
    refine ⟨by omega, ?_⟩
    conv => whnf
    rw [Int.toNat_natCast, decide_eq_true (by omega : p.length ≤ s.length), Bool.true_and]
  · have h := of_decide_eq_false h
    conv => whnf
    rw [decide_eq_false (by omega : ¬ p.length ≤ s.length)]; rfl
theorem recPre_pc (s p : List UInt8) : PC Tryd.prog 87 [.str s, .str p] (.bool (Gw.Rec.isPre p s)) := by
  refine PC.of tabOk mixed (fn := Tryd.f87) (by kernel_rfl) rfl (by kernel_rfl) rfl rfl ?_
  conv => whnf
  refine AC.of_pc (recPre0_pc s p) rfl ?_
  conv => whnf
theorem tookT_eq (s : List UInt8) : tookTextV s = match Gw.Rec.takeT s with
    | none => .tup [.str [], .str [], .int .i64 40]
    | some (x, y) => .tup [.str x, .str y, .int .i64 0] := by
  unfold tookTextV Gw.Rec.takeT takeText
  cases Gw.Vlq.take s with
  | none => rfl
  | some p =>
    obtain ⟨n, u⟩ := p
    by_cases h : n + u ≤ s.length
    · simp only [if_pos h]
    · simp only [if_neg h]
theorem openV_eq (s : List UInt8) : openV s = match Gw.Rec.openS s with
    | none => .tup [.str [], .bool false]
    | some x => .tup [.str x, .bool true] := by
  unfold openV Gw.Rec.openS
  split <;> rfl
def recTookV (o : Option (List UInt8 × Nat)) : V := match o with
  | none => .tup [.str [], .int .i64 0, .bool false]
  | some (p, k) => .tup [.str p, .int .i64 (k : Int), .bool true]
theorem recTake_pc (s : List UInt8) (lsn : Int) (hs : s.length ≤ 1048576) : PC Tryd.prog 65 [.str s, .int .i64 lsn] (recTookV (Gw.Rec.take s lsn)) := by
  unfold Gw.Rec.take
  refine PC.of tabOk mixed (fn := Tryd.f65) (by kernel_rfl) rfl (by kernel_rfl) rfl rfl ?_
  conv => whnf
  refine ⟨fun h1 => ?_, fun h1 => ?_⟩
  · have h1 := of_decide_eq_true h1
    rw [if_pos (.inl h1)]
    conv => whnf
    repeat (first | refine ⟨fun _ => ?_, fun h => absurd h (by decide)⟩ | refine ⟨fun h => absurd h (by decide), fun _ => ?_⟩ | refine ⟨fun _ => ?_, fun h => absurd (show true = false from h) (by decide)⟩ | refine ⟨fun h => absurd (show false = true from h) (by decide), fun _ => ?_⟩
            (conv => whnf))
    rfl
  have h1 := of_decide_eq_false h1
  conv => whnf
  refine ⟨fun h2 => ?_, fun h2 => ?_⟩
  · have h2 := of_decide_eq_true h2
    rw [if_pos (.inr h2)]
    conv => whnf
    rfl
  have h2 := of_decide_eq_false h2
  rw [if_neg (fun h => h.elim h1 h2)]
  obtain ⟨R, hR⟩ : ∃ R, R = recTookV (Gw.Rec.takeW s lsn (Gw.Rec.whole s (Gw.Rec.mark lsn.toNat))) := ⟨_, rfl⟩
  rw [← hR]
  obtain ⟨n, rfl⟩ : ∃ n : Nat, lsn = n := ⟨lsn.toNat, by omega⟩
  rw [Int.toNat_natCast] at hR
  have hwl := Gw.Rec.whole_len s (Gw.Rec.mark n)
  have c1 := mark_pc n
  have c2 := whole_pc s (Gw.Rec.mark n) hs
  generalize Gw.Rec.whole s (Gw.Rec.mark n) = W at *
  have c3 := vtakeText_pc W (by omega)
  rw [tookT_eq] at c3
  conv => whnf
  refine AC.of_pc c1 rfl ?_
  conv => whnf
  refine AC.of_pc c2 rfl ?_
  conv => whnf
  rcases hT : Gw.Rec.takeT W with _ | ⟨y, y2⟩
  · rw [hT] at c3
    refine AC.of_pc c3 rfl ?_
    conv => whnf
    repeat (first | refine ⟨fun _ => ?_, fun h => absurd h (by decide)⟩ | refine ⟨fun h => absurd h (by decide), fun _ => ?_⟩ | refine ⟨fun _ => ?_, fun h => absurd (show true = false from h) (by decide)⟩ | refine ⟨fun h => absurd (show false = true from h) (by decide), fun _ => ?_⟩
            (conv => whnf))
    rw [hR, Gw.Rec.takeW, hT]; rfl
  rw [hT] at c3
  have hyl := Gw.Rec.takeT_len hT
  have c4 := open_pc y (by omega)
  rw [openV_eq] at c4
  refine AC.of_pc c3 rfl ?_
  conv => whnf
  repeat (first | refine ⟨fun _ => ?_, fun h => absurd h (by decide)⟩ | refine ⟨fun h => absurd h (by decide), fun _ => ?_⟩ | refine ⟨fun _ => ?_, fun h => absurd (show true = false from h) (by decide)⟩ | refine ⟨fun h => absurd (show false = true from h) (by decide), fun _ => ?_⟩
          (conv => whnf))
  rcases hO : Gw.Rec.openS y with _ | b
  · rw [hO] at c4
    refine AC.of_pc c4 rfl ?_
    conv => whnf
    repeat (first | refine ⟨fun _ => ?_, fun h => absurd h (by decide)⟩ | refine ⟨fun h => absurd h (by decide), fun _ => ?_⟩ | refine ⟨fun _ => ?_, fun h => absurd (show true = false from h) (by decide)⟩ | refine ⟨fun h => absurd (show false = true from h) (by decide), fun _ => ?_⟩
            (conv => whnf))
    rw [hR]; simp only [Gw.Rec.takeW, hT, hO]; rfl
  rw [hO] at c4
  have hbl := Gw.Rec.openS_len hO
  refine AC.of_pc c4 rfl ?_
  conv => whnf
  repeat (first | refine ⟨fun _ => ?_, fun h => absurd h (by decide)⟩ | refine ⟨fun h => absurd h (by decide), fun _ => ?_⟩ | refine ⟨fun _ => ?_, fun h => absurd (show true = false from h) (by decide)⟩ | refine ⟨fun h => absurd (show false = true from h) (by decide), fun _ => ?_⟩
          (conv => whnf))
  have c5 := vtake_pc b (by omega)
  rcases hV : Gw.Vlq.take b with _ | ⟨q, u⟩
  · rw [show tookV b = .tup [.int .i64 0, .str [], .int .i64 40] from by unfold tookV; rw [hV]] at c5
    refine AC.of_pc c5 rfl ?_
    conv => whnf
    repeat (first | refine ⟨fun _ => ?_, fun h => absurd h (by decide)⟩ | refine ⟨fun h => absurd h (by decide), fun _ => ?_⟩ | refine ⟨fun _ => ?_, fun h => absurd (show true = false from h) (by decide)⟩ | refine ⟨fun h => absurd (show false = true from h) (by decide), fun _ => ?_⟩
            (conv => whnf))
    rw [hR]; simp only [Gw.Rec.takeW, hT, hO, Gw.Rec.takeN, hV]; rfl
  rw [show tookV b = .tup [.int .i64 (q : Int), .str (b.drop u), .int .i64 0] from by unfold tookV; rw [hV]] at c5
  refine AC.of_pc c5 rfl ?_
  conv => whnf
  repeat (first | refine ⟨fun _ => ?_, fun h => absurd h (by decide)⟩ | refine ⟨fun h => absurd h (by decide), fun _ => ?_⟩ | refine ⟨fun _ => ?_, fun h => absurd (show true = false from h) (by decide)⟩ | refine ⟨fun h => absurd (show false = true from h) (by decide), fun _ => ?_⟩
          (conv => whnf))
  have c6 := vtakeText_pc (b.drop u) (by rw [List.length_drop]; omega)
  rw [tookT_eq] at c6
  rcases hT2 : Gw.Rec.takeT (b.drop u) with _ | ⟨p, p2⟩
  · rw [hT2] at c6
    refine AC.of_pc c6 rfl ?_
    conv => whnf
    repeat (first | refine ⟨fun _ => ?_, fun h => absurd h (by decide)⟩ | refine ⟨fun h => absurd h (by decide), fun _ => ?_⟩ | refine ⟨fun _ => ?_, fun h => absurd (show true = false from h) (by decide)⟩ | refine ⟨fun h => absurd (show false = true from h) (by decide), fun _ => ?_⟩
            (conv => whnf))
    rw [hR]; simp only [Gw.Rec.takeW, hT, hO, Gw.Rec.takeN, hV, hT2]; rfl
  rw [hT2] at c6
  refine AC.of_pc c6 rfl ?_
  conv => whnf
  repeat (first | refine ⟨fun _ => ?_, fun h => absurd h (by decide)⟩ | refine ⟨fun h => absurd h (by decide), fun _ => ?_⟩ | refine ⟨fun _ => ?_, fun h => absurd (show true = false from h) (by decide)⟩ | refine ⟨fun h => absurd (show false = true from h) (by decide), fun _ => ?_⟩
          (conv => whnf))
  have c7 := pack_pc n p
  unfold Gw.Rec.pack Gw.Rec.packErr at c7
  rw [Int.toNat_natCast] at c7
  by_cases hm : Gw.Rec.may n p = true
  · rw [if_pos hm, if_pos hm] at c7
    have c8 := recPre_pc s (Gw.Rec.packed n p)
    refine AC.of_pc c7 rfl ?_
    conv => whnf
    repeat (first | refine ⟨fun _ => ?_, fun h => absurd h (by decide)⟩ | refine ⟨fun h => absurd h (by decide), fun _ => ?_⟩ | refine ⟨fun _ => ?_, fun h => absurd (show true = false from h) (by decide)⟩ | refine ⟨fun h => absurd (show false = true from h) (by decide), fun _ => ?_⟩
            (conv => whnf))
    refine AC.of_pc c8 rfl ?_
    conv => whnf
    refine ⟨fun hp => ?_, fun hp => ?_⟩
    · have hp : Gw.Rec.isPre (Gw.Rec.packed n p) s = false := by simpa using hp
      conv => whnf
      rw [hR]; simp only [Gw.Rec.takeW, hT, hO, Gw.Rec.takeN, hV, hT2, Gw.Rec.takeB]; rw [if_pos hm, Int.toNat_natCast, hp]; rfl
    · have hp : Gw.Rec.isPre (Gw.Rec.packed n p) s = true := by simpa using hp
      conv => whnf
      rw [hR]; simp only [Gw.Rec.takeW, hT, hO, Gw.Rec.takeN, hV, hT2, Gw.Rec.takeB]; rw [if_pos hm, Int.toNat_natCast, hp, if_pos rfl]
      have hl : (Gw.Rec.packed n p).length ≤ s.length := by
        unfold Gw.Rec.isPre at hp
        rw [Bool.and_eq_true, decide_eq_true_eq] at hp
        exact hp.1
      have e : (((Gw.Rec.packed n p).length : Int)).tdiv 16 = (((Gw.Rec.packed n p).length / 16 : Nat) : Int) := Int.ofNat_tdiv _ 16
      rw [e, w64 (by omega) (by omega)]; rfl
  · rw [if_neg hm, if_neg hm] at c7
    refine AC.of_pc c7 rfl ?_
    conv => whnf
    repeat (first | refine ⟨fun _ => ?_, fun h => absurd h (by decide)⟩ | refine ⟨fun h => absurd h (by decide), fun _ => ?_⟩ | refine ⟨fun _ => ?_, fun h => absurd (show true = false from h) (by decide)⟩ | refine ⟨fun h => absurd (show false = true from h) (by decide), fun _ => ?_⟩
            (conv => whnf))
    rw [hR]; simp only [Gw.Rec.takeW, hT, hO, Gw.Rec.takeN, hV, hT2, Gw.Rec.takeB]; rw [if_neg hm]; rfl
end Go.Proofs.YtjhblbipjljojaaDoor


namespace Go.Proofs.YtjhblbipjljojaaDoor
open Go.Am

def encSL (l : List (List UInt8)) : List (List V) := l.map fun t => [.str t]
theorem encSL_len (l : List (List UInt8)) : (encSL l).length = l.length := by simp [encSL]
def allV (r : List (List UInt8) × Nat) : V := .tup [.lst (decide (r.1 = [])) 1 (encSL r.1) .none, .int .i64 (r.2 : Int)]
theorem may_le {lsn : Int} {p : List UInt8} (h : Gw.Rec.may lsn p = true) : 1 ≤ lsn ∧ lsn ≤ 1000000 := by
  unfold Gw.Rec.may at h
  simp only [Bool.and_eq_true, decide_eq_true_eq] at h
  exact ⟨h.1, h.2.1⟩
theorem recAll_pc (s : List UInt8) (lsn : Int) (hs : s.length ≤ 1048576) : PC Tryd.prog 32 [.str s, .int .i64 lsn] (allV (Gw.Rec.all s lsn)) := by
  refine PC.ofS tabOk mixed (fn := Tryd.f32) (by kernel_rfl) rfl (by kernel_rfl) rfl rfl ?_
  conv => whnf
  refine AW.row 6 9 1 rfl rfl (.inr rfl) ?_
  refine AW.loop (X := List (List UInt8) × Nat × Int) (fun x => [(.tmp 0, .v (.str s)), (.tmp 1, .v (.int .i64 x.2.2)), (.tmp 6, .v (.lst (decide (x.1 = [])) 1 (encSL x.1) (.row 4))), (.tmp 7, .v (.int .i64 (x.2.1 : Nat))), (.row 4, .row 9 1 x.1.length)]) 5
    (fun x => 16 * x.2.1 ≤ s.length ∧ x.1.length ≤ x.2.1 ∧ ∃ f, s.length < f + x.2.1 ∧ Gw.Rec.all s lsn = Gw.Rec.allF f s x.2.2 x.1 x.2.1) (fun x => s.length - x.2.1) (by decide) ([], 0, lsn) ⟨Nat.zero_le _, Nat.le_refl _, s.length + 1, by simp, rfl⟩
    ⟨rfl, rfl, rfl, rfl, rfl, rfl, rfl, rfl, rfl, rfl, trivial⟩ ?_
  rintro ⟨acc, n, ls⟩ ⟨h1, h2, f, hf, hr⟩
  simp only at h1 h2 hf hr
  have hal := encSL_len acc
  have e1 : IntKind.i64.wrap ((n : Int) * 16) = ((16 * n : Nat) : Int) := by rw [w64 (by omega) (by omega)]; omega
  obtain ⟨f, rfl⟩ : ∃ g, f = g + 1 := ⟨f - 1, by omega⟩
  rw [Gw.Rec.allF] at hr
  have c := recTake_pc (s.drop (16 * n)) ls (by rw [List.length_drop]; omega)
  refine ev_sound tabOk mixed _ _ _ _ ?_
  conv => whnf
  rw [e1]
  refine ⟨⟨by omega, by rw [Int.toNat_natCast]; exact h1⟩, ?_⟩
  rw [Int.toNat_natCast]
  rcases ht : Gw.Rec.take (s.drop (16 * n)) ls with _ | ⟨p, k⟩
  · rw [ht] at c hr
    simp only at hr
    refine AC.of_pc c rfl ?_
    conv => whnf
    repeat (first | refine ⟨fun _ => ?_, fun h => absurd h (by decide)⟩ | refine ⟨fun h => absurd h (by decide), fun _ => ?_⟩ | refine ⟨fun _ => ?_, fun h => absurd (show true = false from h) (by decide)⟩ | refine ⟨fun h => absurd (show false = true from h) (by decide), fun _ => ?_⟩
            (conv => whnf))
    rw [hr]
    exact SubV.refl _
  · have hb := Gw.Rec.take_bound ht
    have hm := may_le (Gw.Rec.take_more ht).1
    rw [List.length_drop] at hb
    rw [ht] at c hr
    simp only at hr
    refine AC.of_pc c rfl ?_
    conv => whnf
    repeat (first | refine ⟨fun _ => ?_, fun h => absurd h (by decide)⟩ | refine ⟨fun h => absurd h (by decide), fun _ => ?_⟩ | refine ⟨fun _ => ?_, fun h => absurd (show true = false from h) (by decide)⟩ | refine ⟨fun h => absurd (show false = true from h) (by decide), fun _ => ?_⟩
            (conv => whnf))
    refine ⟨⟨hal.symm, fits_small (by show (encSL acc).length + 1 ≤ _; omega) (by decide)⟩, ?_⟩
    conv => whnf
    refine ⟨(acc ++ [p], n + k, ls + 1), ⟨by simp only; omega, by simp only [List.length_append, List.length_singleton]; omega, f, by simp only; omega, hr⟩, by show _ - (n + k) < _ - n; omega, rfl, rfl, ?_, rfl, ?_, rfl, ?_, rfl, ?_, rfl, trivial⟩
    · show C.v (V.int .i64 (IntKind.i64.wrap (ls + 1))) = C.v (V.int .i64 (ls + 1))
      rw [w64 (by omega) (by omega)]
    · show C.v (V.lst (decide (acc = []) && false) 1 (encSL acc ++ [[V.str p]]) _) = C.v (V.lst (decide (acc ++ [p] = [])) 1 (encSL (acc ++ [p])) _)
      rw [Bool.and_false, decide_eq_false (by simp), encSL, encSL, List.map_append]
      rfl
    · show C.v (V.int .i64 (IntKind.i64.wrap ((n : Int) + (k : Int)))) = C.v (V.int .i64 ((n + k : Nat) : Int))
      rw [w64 (by omega) (by omega)]; rfl
    · show C.row _ 1 ((encSL acc).length + 1) = C.row _ 1 (acc ++ [p]).length
      rw [hal, List.length_append]
      rfl
end Go.Proofs.YtjhblbipjljojaaDoor


namespace Go.Proofs.YtjhblbipjljojaaDoor
open Go.Am

theorem rseal_pc (s : List UInt8) (hs : s.length < 1000000000) : PC Tryd.prog 102 [.str s] (.str (Gw.Sums.seal_ s)) :=
  .of_calls (enters_of (fn := Tryd.f102) (by kernel_rfl) rfl (by kernel_rfl)) rfl (fun w _ => refSeal_any ⟨s.toArray⟩ hs w) (fun _ _ => .str (by
    simp [sumBytes, Gw.Sums.seal_]))
theorem rbytes_pc (n : Nat) (p : List UInt8) (hn : n ≤ 1000000) (hp : p.length ≤ 40000) : PC Tryd.prog 95 [.int .i64 n, .str p] (.str (Gw.Rec.bytes n p)) := by
  have h1 := Gw.Rec.one_le (n := n) (by omega)
  have h2 := Gw.Rec.one_le (n := p.length) (by omega)
  have c1 := rone_pc n (by omega)
  have c2 := rtext_pc (Gw.Vlq.one n) p (by omega)
  have hl : (Gw.Vlq.text (Gw.Vlq.one n) p).length ≤ 40100 := by unfold Gw.Vlq.text; simp only [List.length_append]; omega
  have c3 := rseal_pc (Gw.Vlq.text (Gw.Vlq.one n) p) (by omega)
  have c4 := rtext_pc [] (Gw.Sums.seal_ (Gw.Vlq.text (Gw.Vlq.one n) p)) (by rw [Gw.Rec.seal_len]; simp only [List.length_nil]; omega)
  refine PC.of tabOk mixed (fn := Tryd.f95) (by kernel_rfl) rfl (by kernel_rfl) rfl rfl ?_
  conv => whnf
  refine AC.of_pc c1 rfl ?_
  conv => whnf
  refine AC.of_pc c2 rfl ?_
  conv => whnf
  refine AC.of_pc c3 rfl ?_
  conv => whnf
  refine AC.of_pc c4 rfl ?_
  conv => whnf
  rfl
theorem rpack_pc (lsn : Int) (p : List UInt8) : PC Tryd.prog 78 [.int .i64 lsn, .str p] (.tup [.str (Gw.Rec.pack lsn p), .int .i64 (Gw.Rec.packErr lsn p)]) := by
  unfold Gw.Rec.pack Gw.Rec.packErr
  refine PC.of tabOk mixed (fn := Tryd.f78) (by kernel_rfl) rfl (by kernel_rfl) rfl rfl ?_
  conv => whnf
  refine ⟨fun h1 => ?_, fun h1 => ?_⟩
  · have h1 := of_decide_eq_true h1
    have e : Gw.Rec.may lsn p = false := by unfold Gw.Rec.may; rw [decide_eq_false (by omega)]; rfl
    rw [e, if_neg (by decide), if_neg (by decide)]
    conv => whnf
    repeat (first | refine ⟨fun _ => ?_, fun h => absurd h (by decide)⟩ | refine ⟨fun h => absurd h (by decide), fun _ => ?_⟩ | refine ⟨fun _ => ?_, fun h => absurd (show true = false from h) (by decide)⟩ | refine ⟨fun h => absurd (show false = true from h) (by decide), fun _ => ?_⟩
            (conv => whnf))
  have h1 := of_decide_eq_false h1
  conv => whnf
  refine ⟨fun h2 => ?_, fun h2 => ?_⟩
  · have h2 := of_decide_eq_true h2
    have e : Gw.Rec.may lsn p = false := by unfold Gw.Rec.may; rw [decide_eq_true (by omega), decide_eq_false (by omega)]; rfl
    rw [e, if_neg (by decide), if_neg (by decide)]
    conv => whnf
    repeat (first | refine ⟨fun _ => ?_, fun h => absurd h (by decide)⟩ | refine ⟨fun h => absurd h (by decide), fun _ => ?_⟩ | refine ⟨fun _ => ?_, fun h => absurd (show true = false from h) (by decide)⟩ | refine ⟨fun h => absurd (show false = true from h) (by decide), fun _ => ?_⟩
            (conv => whnf))
  have h2 := of_decide_eq_false h2
  conv => whnf
  refine ⟨fun h3 => ?_, fun h3 => ?_⟩
  · have h3 := of_decide_eq_true h3
    have e : Gw.Rec.may lsn p = false := by unfold Gw.Rec.may; rw [decide_eq_true (by omega), decide_eq_true (by omega), decide_eq_false (by omega)]; rfl
    rw [e, if_neg (by decide), if_neg (by decide)]
    conv => whnf
  have h3 := of_decide_eq_false h3
  have e : Gw.Rec.may lsn p = true := by unfold Gw.Rec.may; rw [decide_eq_true (by omega), decide_eq_true (by omega), decide_eq_true (by omega)]; rfl
  rw [e, if_pos rfl, if_pos rfl]
  obtain ⟨n, rfl⟩ : ∃ n : Nat, lsn = n := ⟨lsn.toNat, by omega⟩
  rw [Int.toNat_natCast]
  have c1 := rbytes_pc n p (by omega) (by omega)
  have hbl : (Gw.Rec.bytes n p).length ≤ 40200 := by
    have h1 := Gw.Rec.seal_small (n := n) (p := p) (by omega) (by omega)
    have h2 := Gw.Rec.one_le (n := (Gw.Sums.seal_ (Gw.Rec.body n p)).length) (by omega)
    rw [Gw.Rec.bytes_eq, List.length_append]; omega
  have hpos := Gw.Rec.bytes_pos n p
  unfold Gw.Rec.packed
  generalize Gw.Rec.bytes n p = B at *
  have hml := Gw.Rec.many_le B
  conv => whnf
  refine AC.of_pc c1 rfl ?_
  conv => whnf
  refine AW.loop (fun k : Nat => [(.tmp 0, .v (.int .i64 n)), (.tmp 6, .v (.str (B ++ List.replicate k 0)))]) 0
    (fun k => B.length + k ≤ 14 * Gw.Rec.many B) (fun k => 14 * Gw.Rec.many B - k) (by decide) 0 (by omega) ⟨rfl, rfl, by rw [List.replicate_zero, List.append_nil]; rfl, rfl, trivial⟩ ?_
  rintro k hk
  refine ev_sound tabOk mixed _ _ _ _ ?_
  have hbk : (B ++ List.replicate k (0 : UInt8)).length = B.length + k := by simp
  have e14 : ((((B ++ List.replicate k (0 : UInt8)).length : Nat) : Int)).tmod 14 = (((B ++ List.replicate k (0 : UInt8)).length % 14 : Nat) : Int) := tmodN _ 14
  conv => whnf
  refine ⟨fun h => ?_, fun h => ?_⟩
  · have h : (B.length + k) % 14 ≠ 0 := by
      have h : ((((B ++ List.replicate k (0 : UInt8)).length : Int).tmod 14) != 0) = true := h
      rw [e14, hbk] at h
      intro e; rw [e] at h; exact absurd h (by decide)
    conv => whnf
    refine ⟨by show (B ++ List.replicate k (0 : UInt8)).length + 1 < _; rw [hbk]; omega, ?_⟩
    conv => whnf
    refine ⟨k + 1, by omega, by show _ - (k + 1) < _ - k; omega, rfl, rfl, ?_, rfl, trivial⟩
    show C.v (V.str ((B ++ List.replicate k 0) ++ [0])) = C.v (V.str (B ++ List.replicate (k + 1) 0))
    rw [List.append_assoc, List.replicate_succ']
  have h : (B.length + k) % 14 = 0 := by
    have h : ((((B ++ List.replicate k (0 : UInt8)).length : Int).tmod 14) != 0) = false := h
    rw [e14, hbk] at h
    simp at h
    omega
  have hk2 : B.length + k = 14 * Gw.Rec.many B := by omega
  have hpad : B ++ List.replicate k 0 = Gw.Rec.pad B := by unfold Gw.Rec.pad; congr 2; omega
  rw [hpad]
  clear hbk e14 h
  have hpl := Gw.Rec.pad_len B
  have e250 : ((n : Int)).tmod 250 = ((n % 250 : Nat) : Int) := tmodN n 250
  have hmk := Gw.Rec.mark_lt n
  conv => whnf
  refine ⟨[UInt8.ofNat (Gw.Rec.mark n)], ?_⟩
  conv => whnf
  refine ⟨⟨.inl rfl, ?_⟩, ?_⟩
  · show [[V.int .u8 (IntKind.u8.wrap (IntKind.i64.wrap (1 + ((n : Int)).tmod 250)))]] = [[V.int .u8 ((UInt8.ofNat (Gw.Rec.mark n)).toNat : Int)]]
    rw [e250, Gw.Rec.mark_nat, w64 (by omega) (by omega), IntKind.wrap_u8]
    unfold Gw.Rec.mark
    congr 3
    omega
  conv => whnf
  generalize hM : UInt8.ofNat (Gw.Rec.mark n) = M
  refine AW.loop (fun k : Nat => [(.tmp 6, .v (.str (Gw.Rec.pad B))), (.tmp 7, .v (.str [M])), (.tmp 8, .v (.str (Gw.Rec.secs (Gw.Rec.mark n) B k))), (.tmp 9, .v (.int .i64 (14 * k : Nat)))]) 0
    (fun k => k ≤ Gw.Rec.many B) (fun k => Gw.Rec.many B - k) (by decide) 0 (Nat.zero_le _) ⟨rfl, rfl, rfl, rfl, rfl, rfl, rfl, rfl, trivial⟩ ?_
  clear hk hk2 hpad h
  clear k
  rintro k hk
  refine ev_sound tabOk mixed _ _ _ _ ?_
  conv => whnf
  refine ⟨fun h => ?_, fun h => ?_⟩
  · have h : k < Gw.Rec.many B := by
      have h := of_decide_eq_true (show decide (((14 * k : Nat) : Int) < ((Gw.Rec.pad B).length : Int)) = true from h)
      omega
    have e1 : IntKind.i64.wrap (((14 * k : Nat) : Int) + 14) = ((14 * k + 14 : Nat) : Int) := by rw [w64 (by omega) (by omega)]; rfl
    have hsl := Gw.Rec.secs_len (Gw.Rec.mark n) B k
    conv => whnf
    refine ⟨by show (Gw.Rec.secs (Gw.Rec.mark n) B k).length + 1 < _; rw [hsl]; omega, ?_⟩
    conv => whnf
    have hc : ((Gw.Rec.pad B).take (14 * k + 14)).drop (14 * k) = Gw.Rec.piece B k ++ List.replicate (14 - (Gw.Rec.piece B k).length) 0 := by
      rw [← Gw.Rec.cell_eq B k h, List.drop_take]; congr 1; omega
    have hcl : (Gw.Rec.piece B k ++ List.replicate (14 - (Gw.Rec.piece B k).length) (0 : UInt8)).length = 14 := by
      have := Gw.Rec.piece_len B k
      rw [List.length_append, List.length_replicate]; omega
    rw [e1]
    refine ⟨⟨by omega, by omega, by rw [Int.toNat_natCast]; omega⟩, ?_⟩
    rw [Int.toNat_natCast, Int.toNat_natCast, hc]
    conv => whnf
    refine ⟨by show ((Gw.Rec.secs (Gw.Rec.mark n) B k) ++ [M]).length + (Gw.Rec.piece B k ++ List.replicate (14 - (Gw.Rec.piece B k).length) (0 : UInt8)).length < _; rw [hcl, List.length_append, hsl]; simp only [List.length_singleton]; omega, ?_⟩
    conv => whnf
    refine ⟨by show ((Gw.Rec.secs (Gw.Rec.mark n) B k ++ [M]) ++ (Gw.Rec.piece B k ++ List.replicate (14 - (Gw.Rec.piece B k).length) (0 : UInt8))).length + 1 < _; rw [List.length_append, hcl, List.length_append, hsl]; simp only [List.length_singleton]; omega, ?_⟩
    conv => whnf
    refine ⟨k + 1, h, by show _ - (k + 1) < _ - k; omega, rfl, rfl, rfl, rfl, ?_, rfl, ?_, rfl, trivial⟩
    · show C.v (V.str (((Gw.Rec.secs (Gw.Rec.mark n) B k ++ [M]) ++ (Gw.Rec.piece B k ++ List.replicate (14 - (Gw.Rec.piece B k).length) (0 : UInt8))) ++ [M])) = C.v (V.str (Gw.Rec.secs (Gw.Rec.mark n) B (k + 1)))
      rw [Gw.Rec.secs_succ]
      unfold Gw.Rec.sector
      rw [hM]
      simp only [List.append_assoc, List.cons_append, List.nil_append]
    · show C.v (V.int .i64 (IntKind.i64.wrap (((14 * k : Nat) : Int) + 14))) = C.v (V.int .i64 ((14 * (k + 1) : Nat) : Int))
      rw [e1]; rfl
  · have h : k = Gw.Rec.many B := by
      have h := of_decide_eq_false (show decide (((14 * k : Nat) : Int) < ((Gw.Rec.pad B).length : Int)) = false from h)
      omega
    subst h
    conv => whnf
end Go.Proofs.YtjhblbipjljojaaDoor


namespace Go.Proofs.YtjhblbipjljojaaDoor
open Go.Am

theorem rinner_len (s : List UInt8) : ∀ k, (Gw.Rec.rinner s k).length ≤ 14 * k
  | 0 => Nat.le_refl _
  | k + 1 => by
    have := rinner_len s k
    rw [Gw.Rec.rinner_succ, List.length_append]
    unfold Gw.Rec.rin
    rw [List.length_drop, List.length_take]; omega
theorem rinner_pc (s : List UInt8) (hs : s.length ≤ 1048576) : PC Tryd.prog 100 [.str s] (.str (Gw.Rec.rinner s (s.length / 16))) := by
  refine PC.of tabOk mixed (fn := Tryd.f100) (by kernel_rfl) rfl (by kernel_rfl) rfl rfl ?_
  conv => whnf
  refine AW.loop (fun k : Nat => [(.tmp 0, .v (.str s)), (.tmp 3, .v (.str (Gw.Rec.rinner s k))), (.tmp 4, .v (.int .i64 (16 * k : Nat)))]) 0
    (fun k => 16 * k ≤ s.length) (fun k => s.length - k) (by decide) 0 (Nat.zero_le _) ⟨rfl, rfl, rfl, rfl, rfl, rfl, trivial⟩ ?_
  rintro k hk
  have hrl := rinner_len s k
  have e0 : IntKind.i64.wrap (((16 * k : Nat) : Int) + 16) = ((16 * k + 16 : Nat) : Int) := by rw [w64 (by omega) (by omega)]; rfl
  have e1 : IntKind.i64.wrap (((16 * k : Nat) : Int) + 1) = ((16 * k + 1 : Nat) : Int) := by rw [w64 (by omega) (by omega)]; rfl
  have e2 : IntKind.i64.wrap (((16 * k : Nat) : Int) + 15) = ((16 * k + 15 : Nat) : Int) := by rw [w64 (by omega) (by omega)]; rfl
  refine ev_sound tabOk mixed _ _ _ _ ?_
  conv => whnf
  rw [e0]
  refine ⟨fun h => ?_, fun h => ?_⟩
  · have h : 16 * k + 16 ≤ s.length := by
      have h := of_decide_eq_true h
      omega
    conv => whnf
    rw [e1, e2]
    refine ⟨⟨by omega, by omega, by rw [Int.toNat_natCast]; omega⟩, ?_⟩
    rw [Int.toNat_natCast, Int.toNat_natCast]
    conv => whnf
    refine ⟨by show (Gw.Rec.rinner s k).length + (Gw.Rec.rin s k).length < _; unfold Gw.Rec.rin; rw [List.length_drop, List.length_take]; omega, ?_⟩
    conv => whnf
    refine ⟨k + 1, h, by show _ - (k + 1) < _ - k; omega, rfl, rfl, ?_, rfl, ?_, rfl, trivial⟩
    · show C.v (V.str (Gw.Rec.rinner s k ++ Gw.Rec.rin s k)) = C.v (V.str (Gw.Rec.rinner s (k + 1)))
      rw [Gw.Rec.rinner_succ]
    · show C.v (V.int .i64 (IntKind.i64.wrap (((16 * k : Nat) : Int) + 16))) = C.v (V.int .i64 ((16 * (k + 1) : Nat) : Int))
      rw [e0]; rfl
  · have h : s.length / 16 = k := by
      have h := of_decide_eq_false h
      omega
    conv => whnf
    rw [h]
def took2 (s : List UInt8) : List UInt8 := match Gw.Vlq.take s with
  | none => []
  | some (_, u) => s.drop u
def tookT1 (s : List UInt8) : List UInt8 := match Gw.Rec.takeT s with
  | none => []
  | some (x, _) => x
theorem took_form (s : List UInt8) : ∃ n e, tookV s = .tup [.int .i64 n, .str (took2 s), .int .i64 e] := by
  unfold tookV took2
  cases Gw.Vlq.take s with
  | none => exact ⟨_, _, rfl⟩
  | some p => exact ⟨_, _, rfl⟩
theorem tookT_form (s : List UInt8) : ∃ y e, tookTextV s = .tup [.str (tookT1 s), .str y, .int .i64 e] := by
  rw [tookT_eq]
  unfold tookT1
  cases Gw.Rec.takeT s with
  | none => exact ⟨_, _, rfl⟩
  | some p => exact ⟨_, _, rfl⟩
theorem rtextW_eq (x : List UInt8) : Gw.Rec.rtextW x = if (tookT1 x).length < 4 then [] else tookT1 (took2 ((tookT1 x).take ((tookT1 x).length - 4))) := by
  unfold Gw.Rec.rtextW
  cases h : Gw.Rec.takeT x with
  | none =>
    have e : tookT1 x = [] := by unfold tookT1; rw [h]
    rw [e]; rfl
  | some p =>
    obtain ⟨t, y⟩ := p
    have e : tookT1 x = t := by unfold tookT1; rw [h]
    rw [e]
    simp only
    split
    · rfl
    · unfold Gw.Rec.rtextN
      cases h2 : Gw.Vlq.take (t.take (t.length - 4)) with
      | none =>
        have e : took2 (t.take (t.length - 4)) = [] := by unfold took2; rw [h2]
        rw [e]; rfl
      | some q =>
        obtain ⟨n, u⟩ := q
        have e : took2 (t.take (t.length - 4)) = (t.take (t.length - 4)).drop u := by unfold took2; rw [h2]
        rw [e]
        simp only
        unfold tookT1
        cases h3 : Gw.Rec.takeT ((t.take (t.length - 4)).drop u) with
        | none => rfl
        | some z => rfl
theorem tookT1_len (s : List UInt8) : (tookT1 s).length ≤ s.length := by
  unfold tookT1
  cases h : Gw.Rec.takeT s with
  | none => exact Nat.zero_le _
  | some p => exact Gw.Rec.takeT_len h
theorem rtxt_pc (s : List UInt8) (hs : s.length ≤ 1048576) : PC Tryd.prog 90 [.str s] (.str (Gw.Rec.rtext s)) := by
  unfold Gw.Rec.rtext
  rw [rtextW_eq]
  have c1 := rinner_pc s hs
  have hxl := rinner_len s (s.length / 16)
  generalize Gw.Rec.rinner s (s.length / 16) = x at *
  have c2 := rtakeText_pc x
  obtain ⟨y, e, h⟩ := tookT_form x
  rw [h] at c2
  have htl := tookT1_len x
  generalize tookT1 x = t at *
  have c3 := rtake_pc (t.take (t.length - 4))
  obtain ⟨q, e2, h2⟩ := took_form (t.take (t.length - 4))
  rw [h2] at c3
  generalize took2 (t.take (t.length - 4)) = r at *
  have c4 := rtakeText_pc r
  obtain ⟨y3, e3, h3⟩ := tookT_form r
  rw [h3] at c4
  generalize tookT1 r = z at *
  refine PC.of tabOk mixed (fn := Tryd.f90) (by kernel_rfl) rfl (by kernel_rfl) rfl rfl ?_
  conv => whnf
  refine AC.of_pc c1 rfl ?_
  conv => whnf
  refine AC.of_pc c2 rfl ?_
  conv => whnf
  refine ⟨fun h4 => ?_, fun h4 => ?_⟩
  · have h4 : t.length < 4 := by have := of_decide_eq_true h4; omega
    rw [if_pos h4]
    conv => whnf
  have h4 : ¬ t.length < 4 := by have := of_decide_eq_false h4; omega
  rw [if_neg h4]
  have e4 : IntKind.i64.wrap ((t.length : Int) - 4) = ((t.length - 4 : Nat) : Int) := by rw [w64 (by omega) (by omega)]; omega
  conv => whnf
  rw [e4]
  refine ⟨⟨by omega, by rw [Int.toNat_natCast]; omega⟩, ?_⟩
  rw [Int.toNat_natCast]
  refine AC.of_pc c3 rfl ?_
  conv => whnf
  refine AC.of_pc c4 rfl ?_
  conv => whnf
theorem rtakeRec_pc (s : List UInt8) (lsn : Int) (hs : s.length ≤ 1048576) : PC Tryd.prog 68 [.str s, .int .i64 lsn] (recTookV (Gw.Rec.take s lsn)) := by
  rw [← Gw.Rec.rtake_eq]
  have c1 := rtxt_pc s hs
  generalize Gw.Rec.rtext s = p at *
  have c2 := rpack_pc lsn p
  unfold Gw.Rec.pack Gw.Rec.packErr at c2
  obtain ⟨R, hR⟩ : ∃ R, R = recTookV (Gw.Rec.takeB s lsn p) := ⟨_, rfl⟩
  rw [← hR]
  unfold Gw.Rec.takeB at hR
  refine PC.of tabOk mixed (fn := Tryd.f68) (by kernel_rfl) rfl (by kernel_rfl) rfl rfl ?_
  conv => whnf
  refine AC.of_pc c1 rfl ?_
  conv => whnf
  by_cases hm : Gw.Rec.may lsn p = true
  · rw [if_pos hm, if_pos hm] at c2
    rw [if_pos hm] at hR
    refine AC.of_pc c2 rfl ?_
    conv => whnf
    repeat (first | refine ⟨fun _ => ?_, fun h => absurd h (by decide)⟩ | refine ⟨fun h => absurd h (by decide), fun _ => ?_⟩ | refine ⟨fun _ => ?_, fun h => absurd (show true = false from h) (by decide)⟩ | refine ⟨fun h => absurd (show false = true from h) (by decide), fun _ => ?_⟩
            (conv => whnf))
    refine ⟨fun h => ?_, fun h => ?_⟩
    · have h := of_decide_eq_true h
      have e : Gw.Rec.isPre (Gw.Rec.packed lsn.toNat p) s = false := by unfold Gw.Rec.isPre; rw [decide_eq_false (by omega)]; rfl
      rw [e, if_neg (by decide)] at hR
      conv => whnf
      repeat (first | refine ⟨fun _ => ?_, fun h => absurd h (by decide)⟩ | refine ⟨fun h => absurd h (by decide), fun _ => ?_⟩ | refine ⟨fun _ => ?_, fun h => absurd (show true = false from h) (by decide)⟩ | refine ⟨fun h => absurd (show false = true from h) (by decide), fun _ => ?_⟩
              (conv => whnf))
      rw [hR]; rfl
    have h := of_decide_eq_false h
    conv => whnf
    refine ⟨⟨by omega, by rw [Int.toNat_natCast]; omega⟩, ?_⟩
    rw [Int.toNat_natCast]
    conv => whnf
    refine ⟨fun h2 => ?_, fun h2 => ?_⟩
    · have e : Gw.Rec.isPre (Gw.Rec.packed lsn.toNat p) s = false := by
        unfold Gw.Rec.isPre
        have h2 : s.take (Gw.Rec.packed lsn.toNat p).length ≠ Gw.Rec.packed lsn.toNat p := by simpa using h2
        rw [decide_eq_false h2, Bool.and_false]
      rw [e, if_neg (by decide)] at hR
      conv => whnf
      rw [hR]; rfl
    · have e : Gw.Rec.isPre (Gw.Rec.packed lsn.toNat p) s = true := by
        unfold Gw.Rec.isPre
        have h2 : s.take (Gw.Rec.packed lsn.toNat p).length = Gw.Rec.packed lsn.toNat p := by simpa using h2
        rw [decide_eq_true h2, decide_eq_true (by omega)]; rfl
      rw [e, if_pos rfl] at hR
      conv => whnf
      rw [hR]
      have e : (((Gw.Rec.packed lsn.toNat p).length : Int)).tdiv 16 = (((Gw.Rec.packed lsn.toNat p).length / 16 : Nat) : Int) := Int.ofNat_tdiv _ 16
      rw [e, w64 (by omega) (by omega)]; rfl
  · rw [if_neg hm, if_neg hm] at c2
    rw [if_neg hm] at hR
    refine AC.of_pc c2 rfl ?_
    conv => whnf
    repeat (first | refine ⟨fun _ => ?_, fun h => absurd h (by decide)⟩ | refine ⟨fun h => absurd h (by decide), fun _ => ?_⟩ | refine ⟨fun _ => ?_, fun h => absurd (show true = false from h) (by decide)⟩ | refine ⟨fun h => absurd (show false = true from h) (by decide), fun _ => ?_⟩
            (conv => whnf))
    rw [hR]; rfl
theorem rAll_pc (s : List UInt8) (lsn : Int) (hs : s.length ≤ 1048576) (hlo : -9223372036854775808 ≤ lsn) (hhi : lsn < 9223372036854775808) : PC Tryd.prog 41 [.str s, .int .i64 lsn] (allV (Gw.Rec.all s lsn)) := by
  refine PC.ofS tabOk mixed (fn := Tryd.f41) (by kernel_rfl) rfl (by kernel_rfl) rfl rfl ?_
  conv => whnf
  refine AW.row 6 9 1 rfl rfl (.inr rfl) ?_
  refine AW.loop (X := List (List UInt8) × Nat × Int) (fun x => [(.tmp 0, .v (.str s)), (.tmp 1, .v (.int .i64 lsn)), (.tmp 6, .v (.lst (decide (x.1 = [])) 1 (encSL x.1) (.row 4))), (.tmp 7, .v (.int .i64 (x.2.1 : Nat))), (.row 4, .row 9 1 x.1.length)]) 5
    (fun x => 16 * x.2.1 ≤ s.length ∧ x.1.length ≤ x.2.1 ∧ x.2.2 = lsn + x.1.length ∧ (x.1 ≠ [] → 1 ≤ lsn ∧ x.2.2 ≤ 1000001) ∧ ∃ f, s.length < f + x.2.1 ∧ Gw.Rec.all s lsn = Gw.Rec.allF f s x.2.2 x.1 x.2.1) (fun x => s.length - x.2.1) (by decide) ([], 0, lsn) ⟨Nat.zero_le _, Nat.le_refl _, by simp, fun h => absurd rfl h, s.length + 1, by simp, rfl⟩
    ⟨rfl, rfl, rfl, rfl, rfl, rfl, rfl, rfl, rfl, rfl, trivial⟩ ?_
  rintro ⟨acc, n, ls⟩ ⟨h1, h2, h5, h6, f, hf, hr⟩
  simp only at h1 h2 h5 h6 hf hr
  have hal := encSL_len acc
  have e1 : IntKind.i64.wrap (16 * (n : Int)) = ((16 * n : Nat) : Int) := by rw [w64 (by omega) (by omega)]; omega
  obtain ⟨f, rfl⟩ : ∃ g, f = g + 1 := ⟨f - 1, by omega⟩
  rw [Gw.Rec.allF] at hr
  have c := rtakeRec_pc (s.drop (16 * n)) ls (by rw [List.length_drop]; omega)
  refine ev_sound tabOk mixed _ _ _ _ ?_
  conv => whnf
  refine ⟨fun h => ?_, fun h => ?_⟩
  · have h : acc.length < s.length := by
      have h := of_decide_eq_true (show decide (((encSL acc).length : Int) < (s.length : Int)) = true from h)
      rw [hal] at h
      omega
    conv => whnf
    rw [e1]
    refine ⟨⟨by omega, by rw [Int.toNat_natCast]; exact h1⟩, ?_⟩
    rw [Int.toNat_natCast]
    have e2 : IntKind.i64.wrap (lsn + ((encSL acc).length : Int)) = ls := by
      rw [hal, h5]
      by_cases hz : acc = []
      · subst hz; rw [w64 (by simp; omega) (by simp; omega)]
      · have := h6 hz
        have := h5 ▸ this.2
        rw [w64 (by omega) (by omega)]
    rw [← e2] at c
    rcases ht : Gw.Rec.take (s.drop (16 * n)) ls with _ | ⟨p, k⟩
    · rw [e2, ht] at c
      rw [ht] at hr
      simp only at hr
      rw [← e2] at c
      refine AC.of_pc c rfl ?_
      conv => whnf
      repeat (first | refine ⟨fun _ => ?_, fun h => absurd h (by decide)⟩ | refine ⟨fun h => absurd h (by decide), fun _ => ?_⟩ | refine ⟨fun _ => ?_, fun h => absurd (show true = false from h) (by decide)⟩ | refine ⟨fun h => absurd (show false = true from h) (by decide), fun _ => ?_⟩
              (conv => whnf))
      rw [hr]
      exact SubV.refl _
    · have hb := Gw.Rec.take_bound ht
      have hm := may_le (Gw.Rec.take_more ht).1
      rw [List.length_drop] at hb
      rw [e2, ht] at c
      rw [ht] at hr
      simp only at hr
      rw [← e2] at c
      refine AC.of_pc c rfl ?_
      conv => whnf
      repeat (first | refine ⟨fun _ => ?_, fun h => absurd h (by decide)⟩ | refine ⟨fun h => absurd h (by decide), fun _ => ?_⟩ | refine ⟨fun _ => ?_, fun h => absurd (show true = false from h) (by decide)⟩ | refine ⟨fun h => absurd (show false = true from h) (by decide), fun _ => ?_⟩
              (conv => whnf))
      refine ⟨⟨hal.symm, fits_small (by show (encSL acc).length + 1 ≤ _; omega) (by decide)⟩, ?_⟩
      conv => whnf
      refine ⟨(acc ++ [p], n + k, ls + 1), ⟨by simp only; omega, by simp only [List.length_append, List.length_singleton]; omega, by simp only [List.length_append, List.length_singleton]; omega, fun _ => ⟨?_, by simp only; omega⟩, f, by simp only; omega, hr⟩, by show _ - (n + k) < _ - n; omega, rfl, rfl, rfl, rfl, ?_, rfl, ?_, rfl, ?_, rfl, trivial⟩
      · by_cases hz : acc = []
        · subst hz; simp at h5; omega
        · exact (h6 hz).1
      · show C.v (V.lst (decide (acc = []) && false) 1 (encSL acc ++ [[V.str p]]) _) = C.v (V.lst (decide (acc ++ [p] = [])) 1 (encSL (acc ++ [p])) _)
        rw [Bool.and_false, decide_eq_false (by simp), encSL, encSL, List.map_append]
        rfl
      · show C.v (V.int .i64 (IntKind.i64.wrap ((n : Int) + (k : Int)))) = C.v (V.int .i64 ((n + k : Nat) : Int))
        rw [w64 (by omega) (by omega)]; rfl
      · show C.row _ 1 ((encSL acc).length + 1) = C.row _ 1 (acc ++ [p]).length
        rw [hal, List.length_append]
        rfl
  · have h : ¬ acc.length < s.length := by
      have h := of_decide_eq_false (show decide (((encSL acc).length : Int) < (s.length : Int)) = false from h)
      rw [hal] at h
      omega
    have hz : s = [] := List.eq_nil_of_length_eq_zero (by omega)
    have e : Gw.Rec.take (s.drop (16 * n)) ls = none := by
      rcases ht : Gw.Rec.take (s.drop (16 * n)) ls with _ | ⟨p, k⟩
      · rfl
      · have hb := Gw.Rec.take_bound ht
        rw [List.length_drop, hz] at hb
        simp only [List.length_nil] at hb
        omega
    rw [e] at hr
    simp only at hr
    conv => whnf
    rw [hr]
    exact SubV.refl _
theorem strSame_pc (na nb : Bool) (a b : List (List UInt8)) (hl : a.length ≤ 1048576) : PC Tryd.prog 15 [.lst na 1 (encSL a) .none, .lst nb 1 (encSL b) .none] (.bool (decide (a = b))) := by
  have hal := encSL_len a
  have hbl := encSL_len b
  refine PC.of tabOk mixed (fn := Tryd.f15) (by kernel_rfl) rfl (by kernel_rfl) rfl rfl ?_
  conv => whnf
  refine ⟨fun h => ?_, fun h => ?_⟩
  · have h : a.length ≠ b.length := by
      have h : (((encSL a).length : Int) != ((encSL b).length : Int)) = true := h
      rw [hal, hbl] at h
      intro e; rw [e] at h; simp at h
    rw [decide_eq_false (fun e => h (by rw [e]))]
    conv => whnf
  have h : a.length = b.length := by
    have h : (((encSL a).length : Int) != ((encSL b).length : Int)) = false := h
    rw [hal, hbl] at h
    have h : ((a.length : Int) = (b.length : Int)) := by simpa using h
    omega
  conv => whnf
  refine AW.loop (fun k : Nat => [(.tmp 0, .v (.lst na 1 (encSL a) .none)), (.tmp 1, .v (.lst nb 1 (encSL b) .none)), (.tmp 5, .v (.int .i64 k))]) 0
    (fun k => k ≤ a.length ∧ a.take k = b.take k) (fun k => a.length - k) (by decide) 0 ⟨Nat.zero_le _, rfl⟩ ⟨rfl, rfl, rfl, rfl, rfl, rfl, trivial⟩ ?_
  rintro k ⟨hk, hka⟩
  refine ev_sound tabOk mixed _ _ _ _ ?_
  conv => whnf
  refine ⟨fun h2 => ?_, fun h2 => ?_⟩
  · have h2 : k < a.length := by
      have h2 := of_decide_eq_true (show decide ((k : Int) < ((encSL a).length : Int)) = true from h2)
      rw [hal] at h2
      omega
    have hx : ∀ (l : List (List UInt8)) (hx : k < l.length), (encSL l)[((k : Nat) : Int).toNat]? = some [.str l[k]] := fun l hx => by
      rw [Int.toNat_natCast, encSL, List.getElem?_map, List.getElem?_eq_getElem hx]; rfl
    conv => whnf
    refine ⟨_, ⟨by omega, hx a h2⟩, ?_⟩
    conv => whnf
    refine ⟨_, ⟨by omega, hx b (by omega)⟩, ?_⟩
    conv => whnf
    refine ⟨by kernel_rfl, ?_⟩
    conv => whnf
    refine ⟨fun h3 => ?_, fun h3 => ?_⟩
    · have h3 : a[k] ≠ b[k] := by simpa using h3
      rw [decide_eq_false (show ¬ a = b from fun e => h3 (by subst e; rfl))]
      conv => whnf
    · have h3 : a[k] = b[k] := by simpa using h3
      conv => whnf
      refine ⟨k + 1, ⟨h2, by rw [List.take_succ_eq_append_getElem h2, List.take_succ_eq_append_getElem (by omega), hka, h3]⟩, by show _ - (k + 1) < _ - k; omega, rfl, rfl, rfl, rfl, ?_, rfl, trivial⟩
      show C.v (V.int .i64 (IntKind.i64.wrap ((k : Int) + 1))) = _
      rw [w64 (by omega) (by omega)]; rfl
  · have h2 : k = a.length := by
      have h2 := of_decide_eq_false (show decide ((k : Int) < ((encSL a).length : Int)) = false from h2)
      rw [hal] at h2
      omega
    subst h2
    rw [List.take_length, h, List.take_length] at hka
    rw [decide_eq_true hka]
    conv => whnf
end Go.Proofs.YtjhblbipjljojaaDoor
