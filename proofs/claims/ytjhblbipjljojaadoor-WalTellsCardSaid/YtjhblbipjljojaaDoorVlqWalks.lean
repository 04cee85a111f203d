/- The walks of the package vlq: what each function answers, as Gw.Vlq says it. -/
import Derived.Test.YtjhblbipjljojaaDoorRows
import Derived.Test.YtjhblbipjljojaaDoorVlqFn
import Derived.Test.YtjhblbipjljojaaDoorOwn
import Derived.Test.YtjhblbipjljojaaDoorUtil
import Derived.Laws.Bits128
import Derived.Deep.QuietTactic
import Derived.BigQuiet
import Derived.IntWalk
import Derived.WalkMore
namespace Go.Proofs.YtjhblbipjljojaaDoor
open Go.RowKit

theorem ofInt_i64 (a : Nat) (ha : a < 9223372036854775808) : (BitVec.ofInt 64 (a : Int)).toNat = a := by
  rw [BitVec.ofInt_natCast, BitVec.toNat_ofNat]; exact Nat.mod_eq_of_lt (by omega)
theorem i64_or_nat (a b : Nat) (ha : a < 9223372036854775808) (hb : b < 9223372036854775808) : bits .or .i64 (a : Int) (b : Int) = ((a ||| b : Nat) : Int) := by
  have hx : a ||| b < 2 ^ 63 := Nat.or_lt_two_pow (by omega) (by omega)
  show IntKind.i64.wrap ((BitVec.ofInt 64 (a : Int) ||| BitVec.ofInt 64 (b : Int)).toNat : Int) = _
  rw [BitVec.toNat_or, ofInt_i64 a ha, ofInt_i64 b hb]
  exact IntWalk.i64_in _ (by omega)
theorem or_digit (n c : Nat) (hn : n ≤ 72057594037927935) (hc : c < 128) : bits .or .i64 ((n : Int) * 128) (c : Int) = ((n * 128 + c : Nat) : Int) := by
  rw [show (n : Int) * 128 = ((n * 128 : Nat) : Int) from by omega, i64_or_nat _ _ (by omega) (by omega)]
  congr 1
  have := Nat.two_pow_add_eq_or_of_lt (i := 7) (b := c) (by omega) n
  rw [Nat.mul_comm n 128]
  exact this.symm
theorem or_more (d : Nat) (hd : d < 128) : bits .or .i64 (d : Int) 128 = ((d + 128 : Nat) : Int) := by
  rw [show (128 : Int) = ((128 : Nat) : Int) from rfl, i64_or_nat _ _ (by omega) (by omega)]
  congr 1
  have := Nat.two_pow_add_eq_or_of_lt (i := 7) (b := d) (by omega) 1
  rw [Nat.or_comm, Nat.add_comm]
  simpa using this.symm

set_option maxRecDepth 1000000 in
set_option maxHeartbeats 400000 in
theorem vsize_any (n : Nat) (hn : n < 9223372036854775808) (w : World) :
    Calls Tryd.prog 91 #[.int .i64 (n : Int)] w fun e w' => e = .returned (.int .i64 (Gw.Vlq.size n)) ∧ w = w' := by
  have hd : decide ((n : Int) < 0) = false := decide_eq_false (by omega)
  have hs : Gw.Vlq.size n = Gw.Vlq.sizeF 9 n := rfl
  have HS := Lib.hid hs
  clear hs
  have hb : n < 128 ^ 9 := by omega
  have HB := Lib.hid hb
  clear hb
  go_enter Tryd.func91, Tryd.ntmps91
  go_wp2_with fail
  go_loop [0, 3] (fun x s => ∃ m f k : Nat, x = .int .i64 m ∧ s = .int .i64 k ∧ m < 9223372036854775808 ∧ k + f = 10 ∧ 1 ≤ k ∧ m < 128 ^ f ∧ Gw.Vlq.sizeF 9 n = Gw.Vlq.sizeF f m + k - 1) (fun x _ => (intOf x).toNat)
  case atStart => exact ⟨n, 9, 1, rfl, rfl, hn, rfl, by omega, HB.out, by omega⟩
  case round =>
    obtain ⟨m, f, k, rfl, rfl, hm, hkf, hk, hmf, he⟩ := hrel
    have HE := Lib.hid he
    have HMF := Lib.hid hmf
    clear he hmf
    by_cases hlt : m < 128
    · go_wp2_with fail
      go_ret
      refine ⟨?_, rfl⟩
      have : Gw.Vlq.sizeF f m = 1 := by cases f <;> simp [Gw.Vlq.sizeF, hlt]
      rw [HS.out, HE.out, this, show 1 + k - 1 = k from by omega]
      rfl
    · obtain ⟨g, rfl⟩ : ∃ g, f = g + 1 := by
        refine ⟨f - 1, ?_⟩
        have h := HMF.out
        rcases Nat.eq_zero_or_pos f with h0 | h0
        · subst h0; simp at h; omega
        · omega
      go_wp2_with fail
      go_round
      case rel =>
        refine ⟨m / 128, g, k + 1, by go_num, by go_num, by omega, by omega, by omega, ?_, ?_⟩
        · have h := HMF.out
          rw [Nat.pow_succ] at h
          omega
        · rw [HE.out, Gw.Vlq.sizeF, if_neg hlt]
          omega
      case measure => simp [intOf]; omega

set_option maxHeartbeats 400000 in
theorem vsize_neg (n : Int) (hn : n < 0) (w : World) :
    Calls Tryd.prog 91 #[.int .i64 n] w fun e w' => e = .returned (.int .i64 0) ∧ w = w' := by
  go_enter Tryd.func91, Tryd.ntmps91
  go_wp2_with fail
  go_ret
  exact ⟨rfl, rfl⟩

/-- A slice of integers that lies in memory. -/
def IntsAt (w : World) (v : Value) (zs : List Int) : Prop :=
  (zs = [] ∧ ∃ ao cap, v = .slice ao 0 cap) ∨ ∃ b off cap, v = .slice (some ⟨b, off, none⟩) zs.length cap ∧ b < w.heap.size ∧ ∀ i, i < zs.length → w.cell? ⟨b, off + i, none⟩ = some (.int .i64 (zs.getD i 0))
/-- The bytes behind some, of so many numbers. -/
def putL (s : ByteArray) (zs : List Int) : List UInt8 := s.data.toList ++ Gw.Vlq.many (zs.map Int.toNat)

theorem putL_length (s : ByteArray) (zs : List Int) (hz : ∀ z ∈ zs, 0 ≤ z ∧ z < 9223372036854775808) : (putL s zs).length ≤ s.size + 9 * zs.length := by
  unfold putL
  rw [List.length_append]
  have h1 : s.data.toList.length = s.size := rfl
  rw [h1]
  have : (Gw.Vlq.many (zs.map Int.toNat)).length ≤ 9 * zs.length := by
    induction zs with
    | nil => simp [Gw.Vlq.many]
    | cons z zs ih =>
      have e : Gw.Vlq.many ((z :: zs).map Int.toNat) = Gw.Vlq.one z.toNat ++ Gw.Vlq.many (zs.map Int.toNat) := rfl
      rw [e, List.length_append]
      have hz0 := hz z (by simp)
      have := ih (fun y hy => hz y (by simp [hy]))
      rw [Gw.Vlq.one_length z.toNat (by omega)]
      have := Gw.Vlq.size_le9 z.toNat (by omega)
      simp only [List.length_cons]
      omega
  omega

/-- What Put answers. -/
def putRes (s : ByteArray) (zs : List Int) : Value := if zs.all (fun z => decide (0 ≤ z)) = true then .tuple #[.string ⟨(putL s zs).toArray⟩, .int .i64 0] else .tuple #[.string ⟨#[]⟩, .int .i64 40]

theorem infoU8 : (Tryd.prog.info? 5).map (fun i => (i.zero, i.size, i.bytes)) = some (some (.int .u8 0), 1, 1) := by kernel_rfl

set_option maxRecDepth 1000000 in
set_option maxHeartbeats 400000 in
theorem put_some (s : ByteArray) (zs : List Int) (hz : ∀ z ∈ zs, z < 9223372036854775808) (hsz : s.size + 9 * zs.length < 1000000000) (v : Value) (w : World) (hv : IntsAt w v zs) (hne : zs ≠ []) :
    Calls Tryd.prog 73 #[.string s, v] w fun e w' => e = .returned (putRes s zs) ∧ Below w.heap.size w w' := by
  rcases hv with ⟨h, _⟩ | ⟨b, off, cap, rfl, hb, hc⟩
  · exact absurd h hne
  clear hne
  obtain ⟨i0, hi, hz0, hz1, hz2⟩ := info_parts infoU8
  obtain ⟨w1, v1, hcv, hb1, hown, hv1⟩ := bytes_conv_own (P := Tryd.prog) w 9 82 5 s Tryd.underlying9 Tryd.underlying82 Tryd.underlying5 (by unfold maxLen; omega) w.heap.size (Nat.le_refl _)
  have HC := Lib.hid hc
  have HZ := Lib.hid hz
  have HOWN := Lib.hid hown
  have HINFO := Lib.hid (⟨hi, hz0, hz1, hz2⟩ : _ ∧ _ ∧ _ ∧ _)
  clear hc hz hown hv1 hi hz0 hz1 hz2
  go_enter Tryd.func73, Tryd.ntmps73
  go_wp2_with fail
  go_loopw [6, 16] (fun o i wr => ∃ k : Nat, k ≤ zs.length ∧ i = .int .i64 k ∧ Own wr w.heap.size 1 o (putL s (zs.take k)).length (cellsOf (putL s (zs.take k))) ∧ Below w.heap.size w wr ∧ ∀ z ∈ zs.take k, 0 ≤ z) (fun _ i _ => zs.length - (intOf i).toNat)
  case atStart => exact ⟨0, Nat.zero_le _, rfl, by simpa [putL, Gw.Vlq.many] using HOWN.out, hb1, by simp⟩
  case round =>
    obtain ⟨k, hk, rfl, ho, hbr, hpos⟩ := hrel
    have HO := Lib.hid ho
    have HPOS := Lib.hid hpos
    clear ho hpos
    by_cases hlt : k < zs.length
    · have hcell : wr.cell? ⟨b, off + k, none⟩ = some (.int .i64 (zs.getD k 0)) := (hbr.cell (p := ⟨b, off + k, none⟩) hb).trans (HC.out k hlt)
      have hzk := HZ.out (zs.getD k 0) (by rw [List.getD_eq_getElem?_getD, List.getElem?_eq_getElem hlt]; exact List.getElem_mem hlt)
      by_cases hneg : 0 ≤ zs.getD k 0
      · obtain ⟨n, hn⟩ := Int.eq_ofNat_of_zero_le hneg
        rw [hn] at hcell hzk
        have hn0 : n < 9223372036854775808 := by omega
        clear hneg
        have HN := Lib.hid hn
        clear hn hzk
        go_wp2_with fail
        refine (vsize_any n hn0 _).mono ?_
        rintro e w' ⟨rfl, rfl⟩
        have hs1 := Gw.Vlq.size_pos n
        have hs9 := Gw.Vlq.size_le9 n hn0
        have HSD := Lib.hid (Gw.Vlq.one_digits n (by omega))
        generalize Gw.Vlq.size n = sz at *
        have hps : ∀ i, i ≤ sz → (putL s (zs.take k) ++ Gw.Vlq.digits n sz i).length ≤ 1000000000 := by
          intro i hi
          have h1 := putL_length s (zs.take k) (fun z hz => ⟨HPOS.out z hz, HZ.out z (List.mem_of_mem_take hz)⟩)
          rw [List.length_take, Nat.min_eq_left hk] at h1
          have h2 : (Gw.Vlq.digits n sz i).length = i := by simp [Gw.Vlq.digits]
          rw [List.length_append, h2]
          omega
        have HPS := Lib.hid hps
        clear hps
        go_wp2_with fail
        generalize hP : putL s (zs.take k) = P at *
        have HP := Lib.hid hP
        clear hP
        obtain ⟨wo, rfl⟩ : ∃ wo : World, wo = wr := ⟨_, rfl⟩
        go_loopw [6, 25] (fun o i wr => ∃ j : Nat, j ≤ sz ∧ i = .int .i64 j ∧ Own wr w.heap.size 1 o (P ++ Gw.Vlq.digits n sz j).length (cellsOf (P ++ Gw.Vlq.digits n sz j)) ∧ Below w.heap.size w wr) (fun _ i _ => sz - (intOf i).toNat)
        case atStart => exact ⟨0, Nat.zero_le _, rfl, by simpa [Gw.Vlq.digits] using HO.out, hbr⟩
        case round =>
          obtain ⟨j, hj, rfl, hoj, hbj⟩ := hrel
          have HOJ := Lib.hid hoj
          clear hoj
          by_cases hjt : j < sz
          · have hlen := HPS.out j hj
            obtain ⟨c, hc⟩ : ∃ c : UInt8, UInt8.ofNat (Gw.Vlq.digit n sz j) = c := ⟨_, rfl⟩
            have hdl : n / 128 ^ (sz - 1 - j) % 128 < 128 := Nat.mod_lt _ (by omega)
            have hand : bits .and .i64 ((n : Int) / 2 ^ (7 * (sz - 1 - j))) 127 = ((n / 128 ^ (sz - 1 - j) % 128 : Nat) : Int) := by
              rw [i64_and127]
              rw [show (2 : Int) ^ (7 * (sz - 1 - j)) = ((128 ^ (sz - 1 - j) : Nat) : Int) from by rw [Int.pow_mul]; simp]
              omega
            have hdigs := Gw.Vlq.digits_succ n sz j
            rw [hc] at hdigs
            have HDG := Lib.hid hdigs
            by_cases hjl : j + 1 < sz
            · have hcn : c.toNat = n / 128 ^ (sz - 1 - j) % 128 + 128 := by
                rw [← hc, Gw.Vlq.digit, if_pos hjl, UInt8.toNat_ofNat', Nat.mod_eq_of_lt (by omega)]
              generalize n / 128 ^ (sz - 1 - j) % 128 = d at *
              have hor : bits .or .i64 (d : Int) 128 = (c.toNat : Int) := by rw [or_more d hdl, hcn]
              have hcl := UInt8.toNat_lt c
              clear hcn hc hdigs
              have hba : w.heap.size ≤ (wr.alloc (.cells #[.int .u8 (c.toNat : Int)] 5)).heap.size := by rw [World.size_alloc]; have := hbj.size; omega
              have h63 : (P ++ Gw.Vlq.digits n sz j).length + 1 ≤ maxLen := by unfold maxLen; omega
              have hby : ((P ++ Gw.Vlq.digits n sz j).length + 1) * 1 ≤ 140737488355328 := by omega
              have HBA := Lib.hid (And.intro hba (And.intro h63 hby))
              clear hba h63 hby
              go_wp2_with (at_builtin; refine wpList_append_Own rfl _ _ 82 82 rfl w.heap.size 5 i0 (.int .u8 0) 1 1 Tryd.underlying82 HINFO.out.1 HINFO.out.2.1 HINFO.out.2.2.1 HINFO.out.2.2.2 rfl _ _ _ rfl (HOJ.out.alloc _) _ 1 [.int .u8 c.toNat] rfl (src_one Tryd.underlying82 wr.heap.size 1 _ rfl (new_cell rfl rfl)) HBA.out.2.1 HBA.out.2.2 HBA.out.1 (fun _ => Nat.one_pos) ?_; intro v' w2 hown' hgr' hform; have HO' := Lib.hid hown'; have HG' := Lib.hid hgr'; clear hown' hgr' hform)
              go_roundw
              case rel =>
                refine ⟨j + 1, by omega, by go_num, ?_, (hbj.alloc (by have := hbj.size; omega) _).grown HG'.out HBA.out.1 (fun k hk => (HOJ.out.lt k hk).1)⟩
                rw [HDG.out, ← List.append_assoc, cellsOf_append, List.length_append]
                exact HO'.out
              case measure => simp [intOf]; omega
            · have hcn : c.toNat = n / 128 ^ (sz - 1 - j) % 128 := by
                rw [← hc, Gw.Vlq.digit, if_neg hjl, UInt8.toNat_ofNat', Nat.add_zero, Nat.mod_eq_of_lt (by omega)]
              rw [← hcn] at hand
              have hcl := UInt8.toNat_lt c
              clear hcn hc hdigs
              have hba : w.heap.size ≤ (wr.alloc (.cells #[.int .u8 (c.toNat : Int)] 5)).heap.size := by rw [World.size_alloc]; have := hbj.size; omega
              have h63 : (P ++ Gw.Vlq.digits n sz j).length + 1 ≤ maxLen := by unfold maxLen; omega
              have hby : ((P ++ Gw.Vlq.digits n sz j).length + 1) * 1 ≤ 140737488355328 := by omega
              have HBA := Lib.hid (And.intro hba (And.intro h63 hby))
              clear hba h63 hby
              go_wp2_with (at_builtin; refine wpList_append_Own rfl _ _ 82 82 rfl w.heap.size 5 i0 (.int .u8 0) 1 1 Tryd.underlying82 HINFO.out.1 HINFO.out.2.1 HINFO.out.2.2.1 HINFO.out.2.2.2 rfl _ _ _ rfl (HOJ.out.alloc _) _ 1 [.int .u8 c.toNat] rfl (src_one Tryd.underlying82 wr.heap.size 1 _ rfl (new_cell rfl rfl)) HBA.out.2.1 HBA.out.2.2 HBA.out.1 (fun _ => Nat.one_pos) ?_; intro v' w2 hown' hgr' hform; have HO' := Lib.hid hown'; have HG' := Lib.hid hgr'; clear hown' hgr' hform)
              go_roundw
              case rel =>
                refine ⟨j + 1, by omega, by go_num, ?_, (hbj.alloc (by have := hbj.size; omega) _).grown HG'.out HBA.out.1 (fun k hk => (HOJ.out.lt k hk).1)⟩
                rw [HDG.out, ← List.append_assoc, cellsOf_append, List.length_append]
                exact HO'.out
              case measure => simp [intOf]; omega
          · obtain rfl : j = sz := by omega
            go_wp2_with fail
            go_roundw
            case rel =>
              have e : putL s (zs.take (k + 1)) = P ++ Gw.Vlq.digits n j j := by
                rw [← HSD.out, ← HP.out, List.take_succ_eq_append_getElem hlt]
                unfold putL
                rw [List.map_append, List.map_cons, List.map_nil, Gw.Vlq.many_snoc, List.append_assoc]
                congr 3
                have h := HN.out
                rw [List.getD_eq_getElem?_getD, List.getElem?_eq_getElem hlt] at h
                simp only [Option.getD_some] at h
                rw [h]
                rfl
              refine ⟨k + 1, by omega, by go_num, ?_, hbj, ?_⟩
              · rw [e]
                exact HOJ.out
              · have h := HN.out
                rw [List.getD_eq_getElem?_getD, List.getElem?_eq_getElem hlt] at h
                simp only [Option.getD_some] at h
                intro z hz
                rw [List.take_succ_eq_append_getElem hlt, List.mem_append] at hz
                rcases hz with hz | hz
                · exact HPOS.out z hz
                · rw [List.mem_singleton] at hz
                  omega
            case measure => simp [intOf]; omega
      · have hres : putRes s zs = .tuple #[.string ⟨#[]⟩, .int .i64 40] := by
          unfold putRes
          rw [if_neg]
          intro h
          rw [List.all_eq_true] at h
          have := h (zs.getD k 0) (by rw [List.getD_eq_getElem?_getD, List.getElem?_eq_getElem hlt]; exact List.getElem_mem hlt)
          exact hneg (of_decide_eq_true this)
        have HR := Lib.hid hres
        clear hres
        generalize zs.getD k 0 = z at *
        have hz0 : z < 0 := by omega
        clear hneg
        go_wp2_with fail
        go_ret2
        exact ⟨by rw [HR.out]; rfl, hbr⟩
    · obtain rfl : k = zs.length := by omega
      have ho := HO.out
      rw [List.take_length] at ho
      have hsv := string_conv_own (P := Tryd.prog) wr 82 9 5 w.heap.size _ _ _ Tryd.underlying82 Tryd.underlying5 Tryd.underlying9 ho
      clear ho
      have hres : putRes s zs = .tuple #[.string ⟨(putL s zs).toArray⟩, .int .i64 0] := by
        unfold putRes
        rw [if_pos]
        rw [List.all_eq_true]
        intro z hz
        exact decide_eq_true (HPOS.out z (by rw [List.take_length]; exact hz))
      have HR := Lib.hid hres
      clear hres
      go_wp2_with fail
      go_ret2
      exact ⟨by rw [HR.out]; rfl, hbr⟩

set_option maxRecDepth 1000000 in
set_option maxHeartbeats 400000 in
theorem put_nil (s : ByteArray) (hsz : s.size < 1000000000) (ao : Option Addr) (cap : Nat) (w : World) :
    Calls Tryd.prog 73 #[.string s, .slice ao 0 cap] w fun e w' => e = .returned (putRes s []) ∧ Below w.heap.size w w' := by
  obtain ⟨w1, v1, hcv, hb1, hown, hv1⟩ := bytes_conv_own (P := Tryd.prog) w 9 82 5 s Tryd.underlying9 Tryd.underlying82 Tryd.underlying5 (by unfold maxLen; omega) w.heap.size (Nat.le_refl _)
  have hsv := string_conv_own (P := Tryd.prog) w1 82 9 5 w.heap.size v1 _ _ Tryd.underlying82 Tryd.underlying5 Tryd.underlying9 hown
  clear hown hv1
  go_enter Tryd.func73, Tryd.ntmps73
  go_wp2_with fail
  go_loopw [6, 16] (fun o i wr => o = v1 ∧ i = .int .i64 0 ∧ wr = w1) (fun _ _ _ => 0)
  case atStart => exact ⟨rfl, rfl, rfl⟩
  case round =>
    obtain ⟨rfl, rfl, rfl⟩ := hrel
    go_wp2_with fail
    go_ret2
    refine ⟨?_, hb1⟩
    simp [putRes, putL, Gw.Vlq.many]

theorem put_any (s : ByteArray) (zs : List Int) (hz : ∀ z ∈ zs, z < 9223372036854775808) (hsz : s.size + 9 * zs.length < 1000000000) (v : Value) (w : World) (hv : IntsAt w v zs) :
    Calls Tryd.prog 73 #[.string s, v] w fun e w' => e = .returned (putRes s zs) ∧ Below w.heap.size w w' := by
  by_cases hne : zs = []
  · subst hne
    rcases hv with ⟨_, ao, cap, rfl⟩ | ⟨b, off, cap, rfl, _⟩
    · exact put_nil s (by omega) ao cap w
    · exact put_nil s (by omega) _ cap w
  · exact put_some s zs hz hsz v w hv hne
end Go.Proofs.YtjhblbipjljojaaDoor
