/- The walks of the package sums: what each function answers, as Gw.Sums says it. -/
import Derived.Test.YtjhblbipjljojaaDoorRows
import Derived.Test.YtjhblbipjljojaaDoorSumsFn
import Derived.Test.YtjhblbipjljojaaDoorUtil
import Derived.WalkKit
import Derived.WalkSpells
import Derived.WalkLawsBesides
import Derived.Scope
import Derived.ScopeJumps
import Derived.Lib.Hide
import Derived.IntWalk
import Derived.Deep.RegionWith
namespace Go.Proofs.YtjhblbipjljojaaDoor
open Go.RowKit

theorem step_cell {w : World} (h0 : w.cell? ⟨0, 0, none⟩ = some (.int .u32 0)) (h1 : w.cell? ⟨0, 1, none⟩ = some (.int .u32 79764919)) (x : Nat) (hx : x < 4294967296) :
    ∃ T : Int, w.cell? ⟨0, x / 2147483648, none⟩ = some (.int .u32 T) ∧ bits .xor .u32 ((x : Int) * 2 % 4294967296) T = ((Gw.Sums.step x : Nat) : Int) := by
  have e : ((x : Int) * 2 % 4294967296) = ((x * 2 % 4294967296 : Nat) : Int) := by omega
  by_cases h : x < 2147483648
  · rw [show x / 2147483648 = 0 from by omega, Gw.Sums.step_lo h, e]
    refine ⟨0, h0, ?_⟩
    rw [show (0 : Int) = ((0 : Nat) : Int) from rfl, u32_xor_nat _ _ (by omega) (by omega), Nat.xor_zero]
  · rw [show x / 2147483648 = 1 from by omega, Gw.Sums.step_hi h, e]
    refine ⟨79764919, h1, ?_⟩
    rw [show (79764919 : Int) = ((79764919 : Nat) : Int) from rfl, u32_xor_nat _ _ (by omega) (by omega)]

/-- The table of steps lies in its variable. -/
def Steps (w : World) : Prop := 0 < w.heap.size ∧ w.cell? ⟨0, 0, none⟩ = some (.int .u32 0) ∧ w.cell? ⟨0, 1, none⟩ = some (.int .u32 79764919)
theorem Steps.below {w w' : World} {n : Nat} (h : Steps w) (hb : Below n w w') (hn : w.heap.size ≤ n) : Steps w' :=
  ⟨Nat.lt_of_lt_of_le h.1 hb.size, (hb.cell (p := ⟨_, 0, none⟩) (Nat.lt_of_lt_of_le h.1 hn)).trans h.2.1, (hb.cell (p := ⟨_, 1, none⟩) (Nat.lt_of_lt_of_le h.1 hn)).trans h.2.2⟩
theorem Steps.drew {w : World} (h : Steps w) : Steps w.drew := h.below ((Below.refl _ _).drew) (Nat.le_refl _)
theorem Steps.alloc {w : World} (h : Steps w) (o : Obj) : Steps (w.alloc o) := h.below ((Below.refl _ _).alloc (Nat.le_refl _) o) (Nat.le_refl _)

set_option maxRecDepth 1000000 in
set_option maxHeartbeats 400000 in
theorem add_any (n c : Nat) (hn : n < 4294967296) (hc : c < 256) (w : World) (h0 : w.cell? ⟨0, 0, none⟩ = some (.int .u32 0)) (h1 : w.cell? ⟨0, 1, none⟩ = some (.int .u32 79764919)) :
    Calls Tryd.prog 101 #[.int .u32 (n : Int), .int .u8 (c : Int)] w fun e w' => e = .returned (.int .u32 (Gw.Sums.add n c)) ∧ w = w' := by
  have hstep := step_cell h0 h1
  clear h0 h1
  have H := Lib.hid hstep
  clear hstep
  have hxo : bits .xor .u32 (n : Int) ((c : Int) * 16777216) = ((n ^^^ c * 16777216 : Nat) : Int) := by
    rw [show (c : Int) * 16777216 = ((c * 16777216 : Nat) : Int) from by omega, u32_xor_nat _ _ hn (by omega)]
  have hlt : n ^^^ c * 16777216 < 4294967296 := Nat.xor_lt_two_pow (n := 32) hn (by omega)
  have hadd : Gw.Sums.add n c = Gw.Sums.iter 8 (n ^^^ c * 16777216) := rfl
  have HA := Lib.hid hadd
  clear hadd
  go_enter Tryd.func101, Tryd.ntmps101
  go_wp2
  generalize hX : n ^^^ c * 16777216 = X at *
  have HX := Lib.hid hX
  clear hX
  refine wp_scope_jumps 0 (fun a' w' => w' = w ∧ ∃ (k : Nat) (x : Nat) (u1 u4 u6 u7 u8 u9 u10 u11 u12 u13 u14 u15 u16 u17 u18 u19 u20 u21 : Value), a' = { tmps := #[.int .u32 x, u1, undef, undef, u4, .int .i64 k, u6, u7, u8, u9, u10, u11, u12, u13, u14, u15, u16, u17, u18, u19, u20, u21, undef], defers := [] } ∧ 1 ≤ k ∧ k ≤ 7 ∧ x = Gw.Sums.iter (8 - k) X ∧ x < 4294967296) (fun a' _ => (intOf (a'.tmps.getD 5 undef)).toNat) rfl ?_ ?_
  · go_wp2
    go_step3
    clear hxo
    obtain ⟨T, hT, hb⟩ := H.out X hlt
    go_wp2
    go_step3
    exact ⟨rfl, rfl, 7, Gw.Sums.step X, _, _, _, _, _, _, _, _, _, _, _, _, _, _, _, _, _, _, rfl, by omega, by omega, rfl, Gw.Sums.step_lt _⟩
  · rintro a' w' ⟨rfl, k, x, u1, u4, u6, u7, u8, u9, u10, u11, u12, u13, u14, u15, u16, u17, u18, u19, u20, u21, rfl, hk1, hk2, hx, hxlt⟩
    have HK := Lib.hid hx
    clear hx
    clear hxo
    obtain ⟨T, hT, hb⟩ := H.out x hxlt
    by_cases hk : 1 < k
    · obtain ⟨j, rfl⟩ : ∃ j, k = j + 1 := ⟨k - 1, by omega⟩
      go_wp2
      go_step3
      refine ⟨rfl, ⟨rfl, j, Gw.Sums.step x, _, _, _, _, _, _, _, _, _, _, _, _, _, _, _, _, _, _, rfl, by omega, by omega, ?_, Gw.Sums.step_lt _⟩, ?_⟩
      · rw [HK.out, show 8 - j = (8 - (j + 1)) + 1 from by omega]; rfl
      · simp [intOf]
    · obtain rfl : k = 1 := by omega
      go_wp2
      simp only [Exit.jump]
      go_ret
      refine ⟨?_, rfl⟩
      rw [HA.out, HK.out]; rfl

/-- The bytes of parts that lie in a row of memory, one behind the other. -/
def flatS (ss : List ByteArray) : List UInt8 := (ss.map fun s => s.data.toList).flatten

theorem flat_take_snoc (ss : List ByteArray) (k : Nat) (h : k < ss.length) : flatS (ss.take (k + 1)) = flatS (ss.take k) ++ (ss.getD k ByteArray.empty).data.toList := by
  unfold flatS
  rw [List.take_succ_eq_append_getElem h, List.map_append, List.flatten_append, List.getD_eq_getElem?_getD, List.getElem?_eq_getElem h]
  simp
theorem take_snoc (s : ByteArray) (k : Nat) (h : k < s.size) : s.data.toList.take (k + 1) = s.data.toList.take k ++ [s[k]] := by
  rw [List.take_succ_eq_append_getElem (by simpa using h)]; rfl

set_option maxRecDepth 1000000 in
set_option maxHeartbeats 400000 in
theorem sum_any (ss : List ByteArray) (b off cap : Nat) (hss : ∀ s ∈ ss, s.size ≤ maxLen) (hlen : ss.length ≤ maxLen) (w : World) (h0 : w.cell? ⟨0, 0, none⟩ = some (.int .u32 0)) (h1 : w.cell? ⟨0, 1, none⟩ = some (.int .u32 79764919))
    (hc : ∀ i, i < ss.length → w.cell? ⟨b, off + i, none⟩ = some (.string (ss.getD i ByteArray.empty))) :
    Calls Tryd.prog 93 #[.slice (some ⟨b, off, none⟩) ss.length cap] w fun e w' => e = .returned (.int .u32 (Gw.Sums.sum (flatS ss))) ∧ w = w' := by
  unfold maxLen at hss hlen
  have HS := Lib.hid hss
  clear hss
  have HC := Lib.hid hc
  clear hc
  have HA0 := Lib.hid h0
  have HA1 := Lib.hid h1
  clear h0 h1
  go_enter Tryd.func93, Tryd.ntmps93
  go_wp2
  go_loop [3, 9] (fun n i => ∃ k x : Nat, k ≤ ss.length ∧ i = .int .i64 k ∧ n = .int .u32 x ∧ x = Gw.Sums.sumFrom 4294967295 (flatS (ss.take k)) ∧ x < 4294967296) (fun _ i => ss.length - (intOf i).toNat)
  case atStart => exact ⟨0, 4294967295, Nat.zero_le _, rfl, rfl, rfl, by omega⟩
  case round =>
    obtain ⟨k, x, hk, rfl, rfl, hx, hxlt⟩ := hrel
    have HX := Lib.hid hx
    clear hx
    by_cases hlt : k < ss.length
    · have hcell := HC.out k hlt
      have hsz := HS.out (ss.getD k ByteArray.empty) (by rw [List.getD_eq_getElem?_getD, List.getElem?_eq_getElem hlt]; exact List.getElem_mem hlt)
      have HFS := Lib.hid (flat_take_snoc ss k hlt)
      generalize ss.getD k ByteArray.empty = s at *
      go_wp2
      go_loop [3, 15] (fun n i => ∃ j y : Nat, j ≤ s.size ∧ i = .int .i64 j ∧ n = .int .u32 y ∧ y = Gw.Sums.sumFrom x (s.data.toList.take j) ∧ y < 4294967296) (fun _ i => s.size - (intOf i).toNat)
      case atStart => exact ⟨0, x, Nat.zero_le _, rfl, rfl, rfl, hxlt⟩
      case round =>
        obtain ⟨j, y, hj, rfl, rfl, hy, hylt⟩ := hrel
        have HY := Lib.hid hy
        clear hy
        by_cases hjt : j < s.size
        · have HT := Lib.hid (take_snoc s j hjt)
          go_wp2_with (go_at_call 101; refine (add_any _ _ hylt (UInt8.toNat_lt _) _ HA0.out HA1.out).mono ?_; rintro e w' ⟨rfl, rfl⟩)
          go_round
          case rel => exact ⟨j + 1, _, by omega, by go_num, rfl, by rw [HT.out, Gw.Sums.sumFrom_snoc, ← HY.out], Gw.Sums.add_lt _ _⟩
          case measure => simp [intOf]; omega
        · go_wp2
          go_round
          case rel => exact ⟨k + 1, y, by omega, by go_num, rfl, by rw [HFS.out, Gw.Sums.sumFrom_append, ← HX.out, HY.out, List.take_of_length_le (by simp; omega)], hylt⟩
          case measure => simp [intOf]; omega
    · go_wp2
      go_ret
      refine ⟨?_, rfl⟩
      rw [HX.out, List.take_of_length_le (by omega)]
      rfl

set_option maxHeartbeats 400000 in
theorem sum_nil (w : World) : Calls Tryd.prog 93 #[.slice none 0 0] w fun e w' => e = .returned (.int .u32 4294967295) ∧ w = w' := by
  go_enter Tryd.func93, Tryd.ntmps93
  go_wp2
  go_loop [3, 9] (fun n i => i = .int .i64 0 ∧ n = .int .u32 4294967295) (fun _ _ => 0)
  case atStart => exact ⟨rfl, rfl⟩
  case round =>
    obtain ⟨rfl, rfl⟩ := hrel
    go_wp2
    go_ret
    exact ⟨rfl, rfl⟩

set_option maxHeartbeats 400000 in
theorem bytes_any (n : Nat) (hn : n < 4294967296) (w : World) :
    Calls Tryd.prog 92 #[.int .u32 (n : Int)] w fun e w' => e = .returned (.string ⟨(Gw.Sums.bytes n).toArray⟩) ∧ Below w.heap.size w w' := by
  have hcv := conv_block (P := Tryd.prog) w 82 5 9 5 Tryd.underlying82 Tryd.underlying5 Tryd.underlying9 [(n : Int) / 16777216, (n : Int) / 65536 % 256, (n : Int) / 256 % 256, (n : Int) % 256] 4
  simp only [List.length_cons, List.length_nil, List.map_cons, List.map_nil] at hcv
  have hfin : strOfNums [(n : Int) / 16777216, (n : Int) / 65536 % 256, (n : Int) / 256 % 256, (n : Int) % 256] = ⟨(Gw.Sums.bytes n).toArray⟩ := by
    unfold strOfNums Gw.Sums.bytes
    simp only [List.map_cons, List.map_nil]
    rw [show ((n : Int) / 16777216).toNat = n / 16777216 from by omega, show ((n : Int) / 65536 % 256).toNat = n / 65536 % 256 from by omega, show ((n : Int) / 256 % 256).toNat = n / 256 % 256 from by omega, show ((n : Int) % 256).toNat = n % 256 from by omega, ofNat_mod, ofNat_mod, ofNat_mod]
  generalize strOfNums [(n : Int) / 16777216, (n : Int) / 65536 % 256, (n : Int) / 256 % 256, (n : Int) % 256] = S at *
  have HF := Lib.hid hfin
  clear hfin
  go_enter Tryd.func92, Tryd.ntmps92
  go_wp2
  go_ret
  exact ⟨by rw [HF.out]; rfl, (Below.refl _ _).alloc (Nat.le_refl _) _⟩

theorem sum1 (s : ByteArray) (hs : s.size ≤ maxLen) (w : World) (b c : Nat) (S : Steps w) (h0 : w.cell? ⟨b, 0, none⟩ = some (.string s)) :
    Calls Tryd.prog 93 #[.slice (some ⟨b, 0, none⟩) 1 c] w fun e w' => e = .returned (.int .u32 (Gw.Sums.sum s.data.toList)) ∧ w = w' := by
  have h := sum_any [s] b 0 c (by simpa using hs) (by unfold maxLen; simp) w S.2.1 S.2.2 (by intro i hi; match i, hi with | 0, _ => simpa using h0)
  have e : flatS [s] = s.data.toList := by simp [flatS]
  rw [e] at h
  exact h
theorem sum2 (s1 s2 : ByteArray) (hs1 : s1.size ≤ maxLen) (hs2 : s2.size ≤ maxLen) (w : World) (b c : Nat) (S : Steps w) (h0 : w.cell? ⟨b, 0, none⟩ = some (.string s1)) (h1 : w.cell? ⟨b, 1, none⟩ = some (.string s2)) :
    Calls Tryd.prog 93 #[.slice (some ⟨b, 0, none⟩) 2 c] w fun e w' => e = .returned (.int .u32 (Gw.Sums.sum (s1.data.toList ++ s2.data.toList))) ∧ w = w' := by
  have h := sum_any [s1, s2] b 0 c (by simpa using ⟨hs1, hs2⟩) (by unfold maxLen; simp) w S.2.1 S.2.2 (by intro i hi; match i, hi with | 0, _ => simpa using h0 | 1, _ => simpa using h1)
  have e : flatS [s1, s2] = s1.data.toList ++ s2.data.toList := by simp [flatS]
  rw [e] at h
  exact h
theorem sum3 (s1 s2 s3 : ByteArray) (hs1 : s1.size ≤ maxLen) (hs2 : s2.size ≤ maxLen) (hs3 : s3.size ≤ maxLen) (w : World) (b c : Nat) (S : Steps w) (h0 : w.cell? ⟨b, 0, none⟩ = some (.string s1)) (h1 : w.cell? ⟨b, 1, none⟩ = some (.string s2)) (h2 : w.cell? ⟨b, 2, none⟩ = some (.string s3)) :
    Calls Tryd.prog 93 #[.slice (some ⟨b, 0, none⟩) 3 c] w fun e w' => e = .returned (.int .u32 (Gw.Sums.sum (s1.data.toList ++ s2.data.toList ++ s3.data.toList))) ∧ w = w' := by
  have h := sum_any [s1, s2, s3] b 0 c (by simpa using ⟨hs1, hs2, hs3⟩) (by unfold maxLen; simp) w S.2.1 S.2.2 (by intro i hi; match i, hi with | 0, _ => simpa using h0 | 1, _ => simpa using h1 | 2, _ => simpa using h2)
  have e : flatS [s1, s2, s3] = s1.data.toList ++ s2.data.toList ++ s3.data.toList := by simp [flatS]
  rw [e] at h
  exact h

/-- Bytes as a string. -/
def sumBytes (s : ByteArray) : ByteArray := ⟨(Gw.Sums.bytes (Gw.Sums.sum s.data.toList)).toArray⟩

set_option maxHeartbeats 400000 in
theorem seal_any (s : ByteArray) (hs : s.size < 1000000000) (w : World) (S : Steps w) :
    Calls Tryd.prog 75 #[.string s] w fun e w' => e = .returned (.string (s ++ sumBytes s)) ∧ Below w.heap.size w w' := by
  have hlt := Gw.Sums.sum_lt s.data.toList
  have hm : s.size ≤ maxLen := by unfold maxLen; omega
  have h1 := sum1 s hm
  have hsz : (sumBytes s).size ≤ 4 := by simp [sumBytes, Gw.Sums.bytes, ByteArray.size]
  have hb := fun w => bytes_any (Gw.Sums.sum s.data.toList) hlt w
  have hdef : (⟨(Gw.Sums.bytes (Gw.Sums.sum s.data.toList)).toArray⟩ : ByteArray) = sumBytes s := rfl
  rw [hdef] at hb
  generalize sumBytes s = B at *
  generalize Gw.Sums.sum s.data.toList = n at *
  have H1 := Lib.hid h1
  have HB := Lib.hid hb
  clear h1 hb hm hdef
  go_enter Tryd.func75, Tryd.ntmps75
  go_wp2_with fail
  refine (H1.out _ _ _ (S.alloc _) (by simp)).mono ?_
  rintro e w' ⟨rfl, rfl⟩
  go_wp2_with fail
  refine (HB.out _).mono ?_
  rintro e w' ⟨rfl, hb⟩
  go_wp2_with fail
  go_ret
  exact ⟨rfl, ((Below.refl _ _).alloc (Nat.le_refl _) _).trans (hb.mono (by simp))⟩

/-- The text of what is sealed, and the sum behind it. -/
def textOf (s : ByteArray) : ByteArray := s.extract 0 (s.size - 4)
def tailOf (s : ByteArray) : ByteArray := s.extract (s.size - 4) s.size

set_option maxHeartbeats 400000 in
theorem open_short (s : ByteArray) (hs : s.size < 4) (w : World) :
    Calls Tryd.prog 86 #[.string s] w fun e w' => e = .returned (.tuple #[.string ⟨#[]⟩, .bool false]) ∧ w = w' := by
  go_enter Tryd.func86, Tryd.ntmps86
  go_wp2_with fail
  go_ret2
  exact ⟨rfl, rfl⟩

/-- What Open answers of a text of four bytes at least. -/
def openTrue (s : ByteArray) : Bool := (sumBytes (textOf s)).toList == (tailOf s).toList
def openRes (c : Bool) (s : ByteArray) : Value := if c = true then .tuple #[.string (textOf s), .bool true] else .tuple #[.string ⟨#[]⟩, .bool false]

set_option maxHeartbeats 1600000 in
theorem open_long (s : ByteArray) (hs : s.size < 1000000000) (h4 : 4 ≤ s.size) (w : World) (S : Steps w) :
    Calls Tryd.prog 86 #[.string s] w fun e w' => e = .returned (openRes (openTrue s) s) ∧ Below w.heap.size w w' := by
  have hm : (textOf s).size ≤ maxLen := by unfold maxLen textOf; rw [ByteArray.size_extract]; omega
  have hlt := Gw.Sums.sum_lt (textOf s).data.toList
  have h1 := sum1 (textOf s) hm
  have hb := fun w => bytes_any (Gw.Sums.sum (textOf s).data.toList) hlt w
  have hdef : (⟨(Gw.Sums.bytes (Gw.Sums.sum (textOf s).data.toList)).toArray⟩ : ByteArray) = sumBytes (textOf s) := rfl
  rw [hdef] at hb
  have HO : Hid (openTrue s = ((sumBytes (textOf s)).toList == (s.extract (s.size - 4) s.size).toList)) := Lib.hid rfl
  generalize sumBytes (textOf s) = B at *
  generalize Gw.Sums.sum (textOf s).data.toList = n at *
  have H1 := Lib.hid h1
  have HB := Lib.hid hb
  clear h1 hb hm hdef
  unfold textOf at H1
  have hlo : (4 : Int) ≤ (s.size : Int) := by omega
  have hwr : IntKind.i64.wrap ((s.size : Int) - 4) = (s.size : Int) - 4 := IntWalk.i64_in _ (by omega)
  obtain ⟨q, hq⟩ : ∃ q, (B.toList == (s.extract (s.size - 4) s.size).toList) = q := ⟨_, rfl⟩
  have HF : Hid (openTrue s = q) := Lib.hid (HO.out.trans hq)
  clear HO
  go_enter Tryd.func86, Tryd.ntmps86
  go_wp2_with fail
  go_region_with (first | (go_at_call 93; refine (H1.out _ _ _ ?_ ?_).mono ?_; exact (S.alloc _).drew; simp; rintro e w' ⟨rfl, rfl⟩) | (go_at_call 92; refine (HB.out _).mono ?_; rintro e w' ⟨rfl, hb⟩))
  all_goals
    cases q
    · go_wp2
      go_ret2
      exact ⟨by rw [HF.out]; rfl, (((Below.refl _ _).alloc (Nat.le_refl _) _).drew).trans (hb.mono (by simp))⟩
    · go_wp2
      go_ret2
      exact ⟨by rw [HF.out]; rfl, (((Below.refl _ _).alloc (Nat.le_refl _) _).drew).trans (hb.mono (by simp))⟩

theorem open_any (s : ByteArray) (hs : s.size < 1000000000) (w : World) (S : Steps w) :
    Calls Tryd.prog 86 #[.string s] w fun e w' => e = .returned (openRes (decide (4 ≤ s.size) && openTrue s) s) ∧ Below w.heap.size w w' := by
  by_cases h4 : 4 ≤ s.size
  · simpa [h4] using open_long s hs h4 w S
  · refine (open_short s (by omega) w).mono ?_
    rintro e w' ⟨rfl, rfl⟩
    exact ⟨by simp [h4, openRes], Below.refl _ _⟩
end Go.Proofs.YtjhblbipjljojaaDoor
