/- The walks of the package vlq: Take, TakeText, Text. -/
import Derived.Test.YtjhblbipjljojaaDoorVlqWalks
namespace Go.Proofs.YtjhblbipjljojaaDoor
open Go.RowKit

/-- What Take answers. -/
def takeRes (s : ByteArray) : Value :=
  match Gw.Vlq.take s.data.toList with
  | none => .tuple #[.int .i64 0, .string ⟨#[]⟩, .int .i64 40]
  | some (n, u) => .tuple #[.int .i64 (n : Int), .string (s.extract u s.size), .int .i64 0]
theorem takeRes_none {s : ByteArray} (h : Gw.Vlq.take s.data.toList = none) : takeRes s = .tuple #[.int .i64 0, .string ⟨#[]⟩, .int .i64 40] := by
  unfold takeRes; rw [h]
theorem takeRes_some {s : ByteArray} {n u : Nat} (h : Gw.Vlq.take s.data.toList = some (n, u)) : takeRes s = .tuple #[.int .i64 (n : Int), .string (s.extract u s.size), .int .i64 0] := by
  unfold takeRes; rw [h]
theorem drop_cons (s : ByteArray) (k : Nat) (h : k < s.size) : s.data.toList.drop k = s[k] :: s.data.toList.drop (k + 1) := by
  rw [List.drop_eq_getElem_cons (by simpa using h)]; rfl

set_option maxRecDepth 1000000 in
set_option maxHeartbeats 1000000 in
theorem take_any (s : ByteArray) (hs : s.size < 1000000000000) (w : World) :
    Calls Tryd.prog 83 #[.string s] w fun e w' => e = .returned (takeRes s) ∧ Below w.heap.size w w' := by
  go_enter Tryd.func83, Tryd.ntmps83
  go_wp2_with fail
  go_step3
  go_wp2_with fail
  go_step3
  go_wp2_with fail
  go_loop [5, 6, 11] (fun x u i => ∃ k n : Nat, k ≤ s.size ∧ x = .int .i64 n ∧ u = .int .i64 0 ∧ i = .int .i64 k ∧ n < 9223372036854775808 ∧ Gw.Vlq.take s.data.toList = Gw.Vlq.takeF n k (s.data.toList.drop k)) (fun _ _ i => s.size - (intOf i).toNat)
  case atStart => exact ⟨0, 0, Nat.zero_le _, rfl, rfl, rfl, by omega, rfl⟩
  case round =>
    obtain ⟨k, n, hk, rfl, rfl, rfl, hn, ht⟩ := hrel
    have HT := Lib.hid ht
    clear ht
    by_cases hlt : k < s.size
    · have HD := Lib.hid (drop_cons s k hlt)
      have hcl := UInt8.toNat_lt s[k]
      by_cases hstop : (k = 0 ∧ s[k].toNat = 128) ∨ 72057594037927935 < n
      · have hres : takeRes s = .tuple #[.int .i64 0, .string ⟨#[]⟩, .int .i64 40] := by
          apply takeRes_none
          rw [HT.out, HD.out]
          exact Gw.Vlq.takeF_stop _ _ _ _ hstop
        have HR := Lib.hid hres
        clear hres
        by_cases h1 : k = 0 ∧ s[k].toNat = 128
        · have hk0 : ((k : Int) == 0) = true := by rw [h1.1]; rfl
          have hc0 : ((s[k].toNat : Int) == 128) = true := by rw [h1.2]; rfl
          clear hstop h1
          go_wp2_with fail
          go_ret3
          exact ⟨by rw [HR.out]; rfl, Below.refl _ _⟩
        · have hg : (((k : Int) == 0) = true ∧ ((s[k].toNat : Int) == 128) = false) ∨ ((k : Int) == 0) = false := by
            rw [beq_iff_eq, beq_eq_false_iff_ne, beq_eq_false_iff_ne]
            omega
          have hn0 : 72057594037927935 < n := by rcases hstop with h | h; exact absurd h h1; exact h
          clear hstop h1
          rcases hg with ⟨hk0, hc0⟩ | hk0
          all_goals
            go_wp2_with fail
            go_ret3
            exact ⟨by rw [HR.out]; rfl, Below.refl _ _⟩
      · have hg : (((k : Int) == 0) = true ∧ ((s[k].toNat : Int) == 128) = false) ∨ ((k : Int) == 0) = false := by
          rw [beq_iff_eq, beq_eq_false_iff_ne, beq_eq_false_iff_ne]
          omega
        have hn0 : n ≤ 72057594037927935 := by omega
        by_cases hlast : s[k].toNat < 128
        · have hres : takeRes s = .tuple #[.int .i64 ((n * 128 + s[k].toNat : Nat) : Int), .string (s.extract (k + 1) s.size), .int .i64 0] := by
            apply takeRes_some
            rw [HT.out, HD.out]
            exact Gw.Vlq.takeF_last _ _ _ _ hstop hlast
          have HR := Lib.hid hres
          have hor := or_digit n s[k].toNat hn0 hlast
          have hu0 : ((k : Int) + 1 == 0) = false := by rw [beq_eq_false_iff_ne]; omega
          clear hstop hres
          rcases hg with ⟨hk0, hc0⟩ | hk0
          all_goals
            go_wp2_with fail
            have hlo : (0 : Int) ≤ (k : Int) + 1 := by omega
            have hhi : (k : Int) + 1 ≤ (s.size : Int) := by omega
            have htn : ((k : Int) + 1).toNat = k + 1 := by omega
            go_quiet (fail)
            go_wp2_with fail
            rw [Exit.noGoto_ret]
            go_ret3
            exact ⟨by rw [HR.out]; rfl, below_drewN (Below.refl _ _) _⟩
        · have hstep := Gw.Vlq.takeF_more _ _ _ (s.data.toList.drop (k + 1)) hstop hlast
          have HS := Lib.hid hstep
          have hor := or_digit n (s[k].toNat % 128) hn0 (by omega)
          have hand : bits .and .i64 (s[k].toNat : Int) 127 = ((s[k].toNat % 128 : Nat) : Int) := by rw [i64_and127]; rfl
          have hdd : s[k].toNat % 128 < 128 := by omega
          clear hstop hstep
          generalize s[k].toNat % 128 = d at *
          rcases hg with ⟨hk0, hc0⟩ | hk0
          all_goals
            go_wp2_with fail
            go_round
            case rel => exact ⟨k + 1, n * 128 + d, by omega, by go_num, rfl, by go_num, by omega, by rw [HT.out, HD.out, HS.out]⟩
            case measure => simp [intOf]; omega
    · have hres : takeRes s = .tuple #[.int .i64 0, .string ⟨#[]⟩, .int .i64 40] := by
        apply takeRes_none
        rw [HT.out, List.drop_eq_nil_of_le (by simp; omega)]
        rfl
      have HR := Lib.hid hres
      clear hres
      go_wp2_with fail
      go_ret3
      exact ⟨by rw [HR.out]; rfl, Below.refl _ _⟩

theorem ext_ext (s : ByteArray) (u a b : Nat) : (s.extract u s.size).extract a b = s.extract (u + a) (u + b) := by
  apply WideShapes.bytes_inj
  rw [Lib.extract_data, Lib.extract_data, Lib.extract_data]
  have hl : s.data.toList.length = s.size := rfl
  rw [List.take_of_length_le (l := List.drop u _) (by rw [List.length_drop, hl]; omega), List.drop_drop, show u + b - (u + a) = b - a from by omega]

/-- What TakeText answers. -/
def takeText (l : List UInt8) : Option (Nat × Nat) :=
  match Gw.Vlq.take l with
  | none => none
  | some (n, u) => if n + u ≤ l.length then some (n, u) else none
def takeTextRes (s : ByteArray) : Value :=
  match takeText s.data.toList with
  | none => .tuple #[.string ⟨#[]⟩, .string ⟨#[]⟩, .int .i64 40]
  | some (n, u) => .tuple #[.string (s.extract u (u + n)), .string (s.extract (u + n) s.size), .int .i64 0]

set_option maxRecDepth 1000000 in
set_option maxHeartbeats 1000000 in
theorem takeText_any (s : ByteArray) (hs : s.size < 1000000000000) (w : World) :
    Calls Tryd.prog 84 #[.string s] w fun e w' => e = .returned (takeTextRes s) ∧ Below w.heap.size w w' := by
  have H1 := Lib.hid (take_any s hs w)
  cases ht : Gw.Vlq.take s.data.toList with
  | none =>
    have hres : takeTextRes s = .tuple #[.string ⟨#[]⟩, .string ⟨#[]⟩, .int .i64 40] := by
      unfold takeTextRes takeText
      rw [ht]
    have HR := Lib.hid hres
    rw [takeRes_none ht] at H1
    clear hres ht
    go_enter Tryd.func84, Tryd.ntmps84
    go_wp2_with fail
    refine H1.out.mono ?_
    rintro e w1 ⟨rfl, hb1⟩
    go_wp2_with fail
    go_ret3
    exact ⟨by rw [HR.out]; rfl, hb1⟩
  | some p =>
    obtain ⟨n, u⟩ := p
    have hb := Gw.Vlq.takeF_some _ _ _ _ _ (by omega) ht
    have hlen : s.data.toList.length = s.size := rfl
    rw [hlen] at hb
    have hxs : (s.extract u s.size).size = s.size - u := by rw [ByteArray.size_extract]; omega
    rw [takeRes_some ht] at H1
    by_cases hfit : n + u ≤ s.size
    · have hres : takeTextRes s = .tuple #[.string (s.extract u (u + n)), .string (s.extract (u + n) s.size), .int .i64 0] := by
        unfold takeTextRes takeText
        rw [ht]
        simp only
        rw [hlen, if_pos hfit]
      have HR := Lib.hid hres
      clear hres ht hlen
      have HX := Lib.hid hxs
      generalize hX : s.extract u s.size = X at *
      have HXX := Lib.hid hX
      have hn : n ≤ X.size := by rw [HX.out]; omega
      have hni : (n : Int) ≤ (X.size : Int) := by omega
      have hn0 : (0 : Int) ≤ (n : Int) := by omega
      clear hX hxs
      go_enter Tryd.func84, Tryd.ntmps84
      go_wp2_with fail
      refine H1.out.mono ?_
      rintro e w1 ⟨rfl, hb1⟩
      go_wp2_with fail
      go_quiet (fail)
      go_wp2_with fail
      go_ret3
      refine ⟨?_, below_drewN hb1 _⟩
      rw [HR.out]
      have hsz : u + X.size = s.size := by rw [HX.out]; omega
      have hXX := HXX.out
      subst hXX
      have e1 := ext_ext s u 0 n
      have e2 := ext_ext s u n (s.extract u s.size).size
      rw [hsz] at e2
      rw [Nat.add_zero] at e1
      rw [← e1, ← e2]
      rfl
    · have hres : takeTextRes s = .tuple #[.string ⟨#[]⟩, .string ⟨#[]⟩, .int .i64 40] := by
        unfold takeTextRes takeText
        rw [ht]
        simp only
        rw [hlen, if_neg hfit]
      have HR := Lib.hid hres
      have hlt : s.size - u < n := by omega
      clear hres ht hlen
      generalize s.extract u s.size = X at *
      go_enter Tryd.func84, Tryd.ntmps84
      go_wp2_with fail
      refine H1.out.mono ?_
      rintro e w1 ⟨rfl, hb1⟩
      go_wp2_with fail
      go_ret3
      exact ⟨by rw [HR.out]; rfl, hb1⟩

/-- What Text answers. -/
def textOfL (b t : ByteArray) : ByteArray := ⟨(Gw.Vlq.text b.data.toList t.data.toList).toArray⟩

theorem intsAt_one (w : World) (b c : Nat) (z : Int) (hb : b < w.heap.size) (hc : w.cell? ⟨b, 0, none⟩ = some (.int .i64 z)) : IntsAt w (.slice (some ⟨b, 0, none⟩) 1 c) [z] :=
  .inr ⟨b, 0, c, rfl, hb, fun i hi => by match i, hi with | 0, _ => simpa using hc⟩

set_option maxRecDepth 1000000 in
set_option maxHeartbeats 1000000 in
theorem text_any (b t : ByteArray) (hs : b.size + t.size < 900000000) (w : World) :
    Calls Tryd.prog 74 #[.string b, .string t] w fun e w' => e = .returned (.string (textOfL b t)) ∧ Below w.heap.size w w' := by
  have h1 := put_any b [(t.size : Int)] (by intro z hz; rw [List.mem_singleton] at hz; omega) (by simp; omega)
  have hp : putRes b [(t.size : Int)] = .tuple #[.string ⟨(putL b [(t.size : Int)]).toArray⟩, .int .i64 0] := by
    unfold putRes
    rw [if_pos (by simp)]
  rw [hp] at h1
  have hl := putL_length b [(t.size : Int)] (by intro z hz; rw [List.mem_singleton] at hz; omega)
  have hfin : textOfL b t = ⟨(putL b [(t.size : Int)]).toArray⟩ ++ t := by
    apply WideShapes.bytes_inj
    rw [ByteArray.data_append, Array.toList_append]
    simp [textOfL, Gw.Vlq.text, putL, Gw.Vlq.many]
  have hP : (⟨(putL b [(t.size : Int)]).toArray⟩ : ByteArray).size ≤ b.size + 9 := by
    show (putL b [(t.size : Int)]).toArray.size ≤ _
    rw [List.size_toArray]
    exact hl
  generalize (⟨(putL b [(t.size : Int)]).toArray⟩ : ByteArray) = P at *
  have HF := Lib.hid hfin
  have H1 := Lib.hid h1
  clear hfin h1 hp hl
  go_enter Tryd.func74, Tryd.ntmps74
  go_wp2_with fail
  refine (H1.out _ _ (intsAt_one _ _ _ _ (by simp) (new_cell rfl rfl))).mono ?_
  rintro e w1 ⟨rfl, hb1⟩
  go_wp2_with fail
  go_ret
  exact ⟨by rw [HF.out]; rfl, ((Below.refl _ _).alloc (Nat.le_refl _) _).trans (hb1.mono (by simp))⟩
end Go.Proofs.YtjhblbipjljojaaDoor
