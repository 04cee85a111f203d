/- What the functions of the package strings that cut a text in parts compute: told without addresses. No claim of its own. -/
import Derived.Test.YtfmhkfijnflalaaDoorAName
import Derived.Test.YtfmhkfijnflalaaDoorNameLaw
namespace Go.Proofs.YtfmhkfijnflalaaDoor
open Go.RowKit Go.Am

theorem indexByte_any (s : ByteArray) (c : Int) (w : World) : Calls Tryd.prog 72 #[.string s, .int .u8 c] w fun e w' => e = .returned (.int .i64 (Lib.indexByte s.data.toList c.toNat.toUInt8)) ∧ w' = w := by
  go_enter Tryd.func72, Tryd.ntmps72
  go_wp2
  rw [run_callFunc_extern Tryd.func76 (by kernel_rfl) (by kernel_rfl) (by kernel_rfl) (e := Extern.BytealgIndexByte.indexByte) (by kernel_rfl)]
  rw [Lib.run_indexByteString]
  simp only [Result.andThen]
  rw [Oper.upon_value]
  go_wp2
  go_ret
  exact ⟨rfl, rfl⟩
theorem count_any (s : ByteArray) (w : World) : Calls Tryd.prog 57 #[.string s, .string ⟨#[47]⟩] w fun e w' => e = .returned (.int .i64 (s.data.toList.count 47 : Nat)) ∧ w' = w := by
  go_enter Tryd.func57, Tryd.ntmps57
  go_wp2
  rw [run_callFunc_extern Tryd.func65 (by kernel_rfl) (by kernel_rfl) (by kernel_rfl) (e := Extern.BytealgCount.count) (by kernel_rfl)]
  rw [Lib.run_countString]
  simp only [Result.andThen]
  rw [Oper.upon_value]
  go_wp2
  go_ret
  exact ⟨rfl, rfl⟩
theorem indexByte_pc (s : List UInt8) : PC Tryd.prog 72 [.str s, .int .u8 47] (.int .i64 (Lib.indexByte s 47)) :=
  .of_calls (enters_of (fn := Tryd.f72) (by kernel_rfl) rfl (by kernel_rfl)) rfl (fun w _ => (indexByte_any ⟨s.toArray⟩ 47 w).mono fun _ _ ⟨h1, h2⟩ => ⟨h1, h2 ▸ Below.refl _ _⟩) (fun _ _ => .int _ _)
theorem count_pc (s : List UInt8) : PC Tryd.prog 57 [.str s, .str [47]] (.int .i64 (s.count 47 : Nat)) :=
  .of_calls (enters_of (fn := Tryd.f57) (by kernel_rfl) rfl (by kernel_rfl)) rfl (fun w _ => (count_any ⟨s.toArray⟩ w).mono fun _ _ ⟨h1, h2⟩ => ⟨h1, h2 ▸ Below.refl _ _⟩) (fun _ _ => .int _ _)
theorem index0_pc (s : List UInt8) : PC Tryd.prog 66 [.str s, .str [47]] (.int .i64 (Lib.indexByte s 47)) := by
  refine PC.of tabOk mixed (fn := Tryd.f66) (by kernel_rfl) rfl (by kernel_rfl) rfl rfl ?_
  conv => whnf
  refine ⟨fun h => absurd h (by decide), fun _ => ?_⟩
  conv => whnf
  refine ⟨fun h => ?_, fun _ => ?_⟩
  · conv => whnf
    obtain rfl : [47] = s := of_decide_eq_true h
    rfl
  conv => whnf
  refine ⟨fun _ => ?_, fun h => absurd h (by decide)⟩
  conv => whnf
  refine ⟨47, ⟨by omega, rfl⟩, ?_⟩
  conv => whnf
  refine AC.of_pc (indexByte_pc s) rfl ?_
  conv => whnf
theorem index_pc (s : List UInt8) : PC Tryd.prog 58 [.str s, .str [47]] (.int .i64 (Lib.indexByte s 47)) := by
  refine PC.of tabOk mixed (fn := Tryd.f58) (by kernel_rfl) rfl (by kernel_rfl) rfl rfl ?_
  conv => whnf
  refine AC.of_pc (index0_pc s) rfl ?_
  conv => whnf
def encT (l : List (List UInt8)) : List (List V) := l.map fun t => [.str t]
def cellsT (l : List (List UInt8)) (n : Nat) : List V := l.map V.str ++ List.replicate n (V.str [])
theorem repl_str (n : Nat) : repl n [V.str []] = cellsT [] n := by
  unfold repl cellsT
  induction n with
  | zero => rfl
  | succ n ih => rw [List.replicate_succ, List.flatten_cons, ih]; rfl
theorem cellsT_len (l : List (List UInt8)) (n : Nat) : (cellsT l n).length = l.length + n := by simp [cellsT]
theorem cellsT_set {l : List (List UInt8)} {i k : Nat} (x : List UInt8) (h : l.length = i) (hk : 0 < k) : (cellsT l k).take (0 + i * 1) ++ [V.str x] ++ (cellsT l k).drop (0 + i * 1 + 1) = cellsT (l ++ [x]) (k - 1) := by
  obtain ⟨k, rfl⟩ : ∃ j, k = j + 1 := ⟨k - 1, by omega⟩
  subst h
  have e : (l.map V.str).length = 0 + l.length * 1 := by simp
  unfold cellsT
  rw [← e, List.take_left, List.drop_append, List.drop_of_length_le (by omega), Nat.add_sub_cancel_left]
  simp [List.replicate_succ]
theorem genSplit_pc (s : List UInt8) (hs : s.length ≤ 1048576) : PC Tryd.prog 52 [.str s, .str [47], .int .i64 0, .int .i64 (-1)] (.lst false 1 (encT (Gw.Name.split s)) .none) := by
  refine PC.of tabOk mixed (fn := Tryd.f52) (by kernel_rfl) rfl (by kernel_rfl) rfl rfl ?_
  have hc := count_pc s
  have hcl := List.count_le_length (a := 47) (l := s)
  generalize hC : s.count 47 = N at hc hcl
  conv => whnf
  refine ⟨fun h => absurd h (by decide), fun _ => ?_⟩
  conv => whnf
  refine ⟨fun h => absurd h (by decide), fun _ => ?_⟩
  conv => whnf
  refine ⟨fun _ => ?_, fun h => absurd h (by decide)⟩
  conv => whnf
  refine AC.of_pc hc rfl ?_
  conv => whnf
  have w1 : IntKind.i64.wrap ((N : Int) + 1) = (N : Int) + 1 := w64 (by omega) (by omega)
  have w2 : IntKind.i64.wrap ((s.length : Int) + 1) = (s.length : Int) + 1 := w64 (by omega) (by omega)
  have hmin : min (IntKind.i64.wrap ((N : Int) + 1)) (IntKind.i64.wrap ((s.length : Int) + 1)) = ((N + 1 : Nat) : Int) := by rw [w1, w2]; omega
  refine ⟨⟨by show 0 ≤ min (IntKind.i64.wrap ((N : Int) + 1)) (IntKind.i64.wrap ((s.length : Int) + 1)); omega, rfl, fits_small (by show (min (IntKind.i64.wrap ((N : Int) + 1)) (IntKind.i64.wrap ((s.length : Int) + 1))).toNat ≤ _; omega) (by decide)⟩, ?_⟩
  conv => whnf
  refine AW.loop (X := Nat × List (List UInt8) × List UInt8) (fun x => [(.tmp 0, .v (.str x.2.2)), (.tmp 1, .v (.str [47])), (.tmp 2, .v (.int .i64 0)), (.tmp 3, .v (.int .i64 (N : Nat))), (.tmp 9, .v (.own 18 0 1 (N + 1) true)), (.tmp 10, .v (.int .i64 x.1)),
    (.blk 18, .mem 9 (cellsT x.2.1 (N + 1 - x.1)))]) 19
    (fun x => x.1 ≤ N ∧ x.2.1.length = x.1 ∧ x.2.2.length ≤ 1048576 ∧ x.2.2.count 47 = N - x.1 ∧ Gw.Name.split s = x.2.1 ++ Gw.Name.split x.2.2) (fun x => N - x.1) (by decide) (0, [], s) ⟨Nat.zero_le _, rfl, hs, hC, rfl⟩
    ⟨rfl, rfl, rfl, rfl, rfl, rfl, ?_, rfl, ?_, rfl, rfl, rfl, ?_, rfl, trivial⟩ ?_
  · show C.v (V.int .i64 (IntKind.i64.wrap (min (IntKind.i64.wrap ((N : Int) + 1)) (IntKind.i64.wrap ((s.length : Int) + 1)) - 1))) = _
    rw [hmin, w64 (by omega) (by omega)]
    congr 2; omega
  · show C.v (V.own 18 0 1 (min (IntKind.i64.wrap ((N : Int) + 1)) (IntKind.i64.wrap ((s.length : Int) + 1))).toNat true) = _
    rw [hmin]; rfl
  · show C.mem _ (repl (min (IntKind.i64.wrap ((N : Int) + 1)) (IntKind.i64.wrap ((s.length : Int) + 1))).toNat [V.str []]) = _
    rw [hmin, Int.toNat_natCast, repl_str]; rfl
  rintro ⟨i, done, rest⟩ ⟨h1, h2, h3, h4, h5⟩
  simp only at h1 h2 h3 h4 h5
  have hi := index_pc rest
  refine ev_sound tabOk mixed _ _ _ _ ?_
  conv => whnf
  refine ⟨fun h => ?_, fun h => ?_⟩
  · have h := of_decide_eq_true h
    obtain ⟨m, hm⟩ := Gw.Name.idx_some (s := rest) (by omega)
    obtain ⟨q1, q2, q3⟩ := Gw.Name.idx_pos hm
    rw [hm] at hi
    conv => whnf
    refine AC.of_pc hi rfl ?_
    conv => whnf
    refine ⟨fun h => absurd (of_decide_eq_true h) (by omega), fun _ => ?_⟩
    have w3 : IntKind.i64.wrap ((m : Int) + 0) = (m : Int) := w64 (by omega) (by omega)
    have w4 : IntKind.i64.wrap ((m : Int) + ([47] : List UInt8).length) = ((m + 1 : Nat) : Int) := w64 (by simp; omega) (by simp; omega)
    conv => whnf
    rw [w3]
    refine ⟨by show 0 ≤ (m : Int) ∧ (m : Int).toNat ≤ rest.length; omega, ?_⟩
    conv => whnf
    refine ⟨by show 0 ≤ (i : Int) ∧ (i : Int).toNat < N + 1; omega, ?_⟩
    conv => whnf
    refine ⟨by show 0 + (i : Int).toNat * 1 + 1 ≤ (cellsT done (N + 1 - i)).length; rw [cellsT_len]; omega, ?_⟩
    conv => whnf
    rw [w4]
    refine ⟨by show 0 ≤ ((m + 1 : Nat) : Int) ∧ ((m + 1 : Nat) : Int).toNat ≤ rest.length; omega, ?_⟩
    conv => whnf
    refine ⟨(i + 1, done ++ [rest.take m], rest.drop (m + 1)), ⟨by show i + 1 ≤ N; omega, by show (done ++ [_]).length = i + 1; rw [List.length_append, h2]; rfl, by show (rest.drop _).length ≤ _; rw [List.length_drop]; omega, by show (rest.drop _).count 47 = N - (i + 1); omega, by show _ = (done ++ [_]) ++ _; rw [h5, q2, List.append_assoc]; rfl⟩, by show N - (i + 1) < N - i; omega, rfl, rfl, rfl, rfl, rfl, rfl, rfl, rfl, rfl, rfl, ?_, rfl, ?_, rfl, trivial⟩
    · show C.v (V.int .i64 (IntKind.i64.wrap ((i : Int) + 1))) = C.v (V.int .i64 ((i + 1 : Nat) : Int))
      rw [w64 (by omega) (by omega)]; rfl
    · show C.mem _ ((cellsT done (N + 1 - i)).take (0 + (i : Int).toNat * 1) ++ [V.str (rest.take (m : Int).toNat)] ++ (cellsT done (N + 1 - i)).drop (0 + (i : Int).toNat * 1 + 1)) = C.mem _ (cellsT (done ++ [rest.take m]) (N + 1 - (i + 1)))
      rw [Int.toNat_natCast, Int.toNat_natCast, cellsT_set _ h2 (by omega)]
      congr 2
  · have h := of_decide_eq_false h
    obtain rfl : i = N := by have h : ¬ (i : Int) < (N : Int) := h; omega
    have hlast := Gw.Name.idx_none (s := rest) (by omega)
    rw [h5, hlast]
    conv => whnf
    refine ⟨by show 0 ≤ (i : Int) ∧ (i : Int).toNat < i + 1; omega, ?_⟩
    conv => whnf
    refine ⟨by show 0 + (i : Int).toNat * 1 + 1 ≤ (cellsT done (i + 1 - i)).length; rw [cellsT_len]; omega, ?_⟩
    conv => whnf
    have w5 : IntKind.i64.wrap ((i : Int) + 1) = ((i + 1 : Nat) : Int) := w64 (by omega) (by omega)
    refine ⟨by show 0 ≤ IntKind.i64.wrap ((i : Int) + 1) ∧ (IntKind.i64.wrap ((i : Int) + 1)).toNat ≤ i + 1; omega, ?_⟩
    conv => whnf
    have hfl : (encT (done ++ [rest])).flatten = (done ++ [rest]).map V.str := by
      unfold encT
      generalize done ++ [rest] = l
      induction l with
      | nil => rfl
      | cons a l ih => rw [List.map_cons, List.flatten_cons, ih]; rfl
    have hcl' : (done ++ [rest]).length = i + 1 := by rw [List.length_append, h2]; rfl
    refine .mem (t := 9) (cells := cellsT (done ++ [rest]) 0) ?_ ?_ ?_ ?_ ?_ ?_
    · show C.mem _ ((cellsT done (i + 1 - i)).take (0 + (i : Int).toNat * 1) ++ [V.str rest] ++ (cellsT done (i + 1 - i)).drop (0 + (i : Int).toNat * 1 + 1)) = C.mem _ _
      rw [Int.toNat_natCast, cellsT_set _ h2 (by omega)]
      congr 2; omega
    · show (encT _).length = (IntKind.i64.wrap ((i : Int) + 1)).toNat
      rw [w5, Int.toNat_natCast, ← hcl']; simp [encT]
    · intro el hel
      obtain ⟨t, _, rfl⟩ := List.mem_map.1 hel
      rfl
    · show 0 + (IntKind.i64.wrap ((i : Int) + 1)).toNat * 1 ≤ _
      rw [w5, Int.toNat_natCast, cellsT_len]; omega
    · show ((cellsT _ 0).drop 0).take ((IntKind.i64.wrap ((i : Int) + 1)).toNat * 1) = _
      rw [w5, Int.toNat_natCast, hfl, List.drop_zero, List.take_of_length_le (by rw [cellsT_len]; omega)]
      simp [cellsT]
    · rw [hfl]
      generalize done ++ [rest] = l
      induction l with
      | nil => rfl
      | cons a l ih => exact ih
theorem split_pc (s : List UInt8) (hs : s.length ≤ 1048576) : PC Tryd.prog 48 [.str s, .str [47]] (.lst false 1 (encT (Gw.Name.split s)) .none) := by
  refine PC.of tabOk mixed (fn := Tryd.f48) (by kernel_rfl) rfl (by kernel_rfl) rfl rfl ?_
  conv => whnf
  refine AC.of_pc (genSplit_pc s hs) rfl ?_
  conv => whnf
theorem cutPrefix_pc (s : List UInt8) : PC Tryd.prog 47 [.str s, .str [47]] (.tup [.str (if Gw.Name.isPrefix [47] s = true then s.drop 1 else s), .bool (Gw.Name.isPrefix [47] s)]) := by
  have h0 := hasPrefix0_pc s [47]
  have h1 : PC Tryd.prog 51 [.str s, .str [47]] (.tup [.str (if Gw.Name.isPrefix [47] s = true then s.drop 1 else s), .bool (Gw.Name.isPrefix [47] s)]) := by
    refine PC.of tabOk mixed (fn := Tryd.f51) (by kernel_rfl) rfl (by kernel_rfl) rfl rfl ?_
    cases hp : Gw.Name.isPrefix [47] s with
    | false =>
      rw [hp] at h0
      conv => whnf
      refine AC.of_pc h0 rfl ?_
      conv => whnf
      refine ⟨fun _ => ?_, fun h => absurd h (by decide)⟩
      conv => whnf
      rfl
    | true =>
      rw [hp] at h0
      have hl : 1 ≤ s.length := by unfold Gw.Name.isPrefix at hp; simp at hp; omega
      conv => whnf
      refine AC.of_pc h0 rfl ?_
      conv => whnf
      refine ⟨fun h => absurd h (by decide), fun _ => ?_⟩
      conv => whnf
      refine ⟨by show 0 ≤ (1 : Int) ∧ 1 ≤ s.length; omega, ?_⟩
      conv => whnf
      rfl
  refine PC.of tabOk mixed (fn := Tryd.f47) (by kernel_rfl) rfl (by kernel_rfl) rfl rfl ?_
  conv => whnf
  refine AC.of_pc h1 rfl ?_
  conv => whnf
end Go.Proofs.YtfmhkfijnflalaaDoor
