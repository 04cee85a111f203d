/- The walk of disk.seen. -/
import Derived.Test.YtfehckdcjgmcpaaDiskMem
import Derived.Test.YtfehckdcjgmcpaaCopyStr
import Derived.Deep.RegionLaw
namespace Go.Proofs.Ytfehckdcjgmcpaa
open Go.RowKit

set_option maxRecDepth 1000000 in
set_option maxHeartbeats 1000000 in
theorem seen_any (d : Gw.Disk.Disk) (hck : Gw.Disk.check d = true) (hl : d.loose.length ≤ maxLen) (sl : Value) (at_ n : Nat) (hn : (at_ : Int) + n ≤ d.size) (w : World) (hp : PatchesAt w sl d.loose) :
    Calls Try.prog 29 #[diskV d sl, .int .i64 (at_ : Int), .int .i64 (n : Int)] w fun e w' => e = .returned (.string ⟨(Gw.Disk.seen d at_ n).toArray⟩) ∧ Below w.heap.size w w' := by
  have hspec := Gw.Disk.check_spec hck
  obtain ⟨size, firm, ps⟩ := d
  simp only at hspec hl hp hn
  clear hck
  obtain ⟨hs0, hs1, hs2, hs3⟩ := hspec
  have HS3 := Lib.hid hs3
  have HS2 := Lib.hid hs2
  clear hs2 hs3
  unfold maxLen at hl
  obtain ⟨ao, cap, rfl⟩ := hp.form
  unfold diskV
  simp only
  have HP := Lib.hid hp
  clear hp
  have hfs : (at_ + n) * 16 ≤ firm.size := by have := HS2.out; omega
  have hlo : (0 : Int) ≤ (at_ : Int) * 16 := by omega
  have hlh : (at_ : Int) * 16 ≤ ((at_ : Int) + n) * 16 := by omega
  have hhi : ((at_ : Int) + n) * 16 ≤ (firm.size : Int) := by omega
  obtain ⟨w2, v2, hcv, hb2, hown, cap2, hv2⟩ := bytes_conv_own (P := Try.prog) (w.alloc (.cells #[.int .i64 size, .string firm, .slice ao ps.length cap] 24)) 9 50 5 (firm.extract (at_ * 16) ((at_ + n) * 16)) Try.underlying9 Try.underlying50 Try.underlying5 (by unfold maxLen; rw [ByteArray.size_extract]; omega) (w.heap.size + 1) (by simp)
  subst hv2
  rw [World.size_alloc] at hb2 hcv hown
  have hc2 : w2.cell? ⟨w.heap.size, 2, none⟩ = some (.slice ao ps.length cap) := (hb2.cell (p := ⟨w.heap.size, 2, none⟩) (Nat.lt_succ_self _)).trans (by simp)
  have hbw2 : Below w.heap.size w w2 := ((Below.refl _ _).new _).trans (hb2.mono (Nat.le_succ _))
  have hz2 : w.heap.size + 1 < w2.heap.size := (hown.lt _ rfl).2
  have HP2 := Lib.hid (HP.out.below hbw2 (Nat.le_refl _))
  have hXd : (firm.extract (at_ * 16) ((at_ + n) * 16)).data.toList = (firm.data.toList.drop (at_ * 16)).take (n * 16) := by
    rw [Lib.extract_data]
    congr 1
    omega
  have hXs : (firm.extract (at_ * 16) ((at_ + n) * 16)).size = n * 16 := by rw [ByteArray.size_extract]; omega
  rw [hXd] at hown
  rw [hXs] at hown hcv
  have hLs : ((firm.data.toList.drop (at_ * 16)).take (n * 16)).length = n * 16 := by rw [← hXd]; exact hXs
  have HSEEN : Hid (Gw.Disk.seen ⟨size, firm, ps⟩ at_ n = ps.foldl (Gw.Disk.lay at_ n) ((firm.data.toList.drop (at_ * 16)).take (n * 16))) := Lib.hid rfl
  generalize (firm.data.toList.drop (at_ * 16)).take (n * 16) = L0 at *
  have HOWN := Lib.hid hown
  have HLS := Lib.hid hLs
  have htoN : ((at_ : Int) * 16).toNat = at_ * 16 := by omega
  have htoM : (((at_ : Int) + n) * 16).toNat = (at_ + n) * 16 := by omega
  clear hown hXd hXs hLs
  go_enter Try.func29, Try.ntmps29
  go_wp2_with fail
  generalize firm.extract (at_ * 16) ((at_ + n) * 16) = X at *
  go_loopw [23] (fun i wr => ∃ k : Nat, k ≤ ps.length ∧ i = .int .i64 k ∧ Below (w.heap.size + 1) w2 wr ∧ w.heap.size + 1 < wr.heap.size ∧ Own wr (w.heap.size + 1) 1 (.slice (some ⟨w.heap.size + 1, 0, none⟩) (n * 16) cap2) (n * 16) (cellsOf ((ps.take k).foldl (Gw.Disk.lay at_ n) L0))) (fun i _ => ps.length - (intOf i).toNat)
  case atStart => exact ⟨0, Nat.zero_le _, rfl, Below.refl _ _, hz2, HOWN.out⟩
  case round =>
    obtain ⟨k, hk, rfl, hbr, hzr, hor⟩ := hrel
    have HOR := Lib.hid hor
    clear hor
    have hbb : Below w.heap.size w wr := hbw2.trans (hbr.mono (Nat.le_succ _))
    by_cases hlt : k < ps.length
    · obtain ⟨b, off, hao, hbw, hca, hcb⟩ := HP.out.cell hlt
      have hca1 := (hbb.cell (p := ⟨b, off + k * 2, none⟩) hbw).trans hca
      have hcb1 := (hbb.cell (p := ⟨b, off + k * 2 + 1, none⟩) hbw).trans hcb
      have hget : ps.getD k (0, ByteArray.empty) = ps[k] := by rw [List.getD_eq_getElem?_getD, List.getElem?_eq_getElem hlt]; rfl
      have hmem : ps.getD k (0, ByteArray.empty) ∈ ps := by rw [hget]; exact List.getElem_mem hlt
      have hsp := HS3.out _ hmem
      have hst : (ps.take (k + 1)).foldl (Gw.Disk.lay at_ n) L0 = Gw.Disk.lay at_ n ((ps.take k).foldl (Gw.Disk.lay at_ n) L0) (ps.getD k (0, ByteArray.empty)) := by
        rw [List.take_succ_eq_append_getElem hlt, List.foldl_append, hget]
        rfl
      have hlen : ((ps.take k).foldl (Gw.Disk.lay at_ n) L0).length = n * 16 := Gw.Disk.foldl_lay_length at_ n _ _ HLS.out (fun p hp => (HS3.out p (List.mem_of_mem_take hp)).2.2)
      generalize (ps.take k).foldl (Gw.Disk.lay at_ n) L0 = L at *
      clear hget hmem hca hcb
      generalize ps.getD k (0, ByteArray.empty) = p at *
      obtain ⟨pa, pd⟩ := p
      simp only at hca1 hcb1 hsp
      obtain ⟨A, rfl⟩ := Int.eq_ofNat_of_zero_le hsp.1
      have hA := hsp.2.1
      have hpd : pd.size ≤ 16 := Nat.le_of_eq hsp.2.2
      have HPD := Lib.hid hsp.2.2
      have HST := Lib.hid hst
      have HLEN := Lib.hid hlen
      clear hsp hst hlen
      subst hao
      by_cases f1 : at_ ≤ A
      · by_cases f2 : A < at_ + n
        · have e1 : decide ((at_ : Int) ≤ (A : Int)) = true := decide_eq_true (by omega)
          have e2 : decide ((A : Int) < (at_ : Int) + n) = true := decide_eq_true (by omega)
          have hlay : Gw.Disk.lay at_ n L ((A : Int), pd) = L.take ((A - at_) * 16) ++ pd.data.toList ++ L.drop ((A - at_) * 16 + pd.data.toList.length) := by
            unfold Gw.Disk.lay
            rw [if_pos (by constructor <;> (simp only; omega)), Int.toNat_natCast]
            rfl
          have hDn : A - at_ < n := by omega
          have hw1 : IntKind.i64.wrap ((A : Int) - (at_ : Int)) = ((A - at_ : Nat) : Int) := by rw [show (A : Int) - (at_ : Int) = ((A - at_ : Nat) : Int) from by omega]; exact IntWalk.i64_in _ (by omega)
          have hw2 : IntKind.i64.wrap (((A - at_ : Nat) : Int) * 16) = (((A - at_) * 16 : Nat) : Int) := by rw [show ((A - at_ : Nat) : Int) * 16 = (((A - at_) * 16 : Nat) : Int) from by omega]; exact IntWalk.i64_in _ (by omega)
          generalize A - at_ = D at *
          have hE1 : D * 16 + 16 ≤ n * 16 := by omega
          generalize D * 16 = E at *
          have HLAY := Lib.hid hlay
          have hcop : ∀ j, j < Nat.min pd.size (n * 16 - E) → ((wr.alloc (.cells #[.int .i64 (A : Int), .string pd] 40)).drew.cell? ⟨w.heap.size + 1, E + j, none⟩).isSome = true ∧ (wr.alloc (.cells #[.int .i64 (A : Int), .string pd] 40)).drew.frozen? ⟨w.heap.size + 1, E + j, none⟩ = false := fun j hj => by
            have := (HOR.out.alloc (.cells #[.int .i64 (A : Int), .string pd] 40)).drew.room E 16 hE1 j (Nat.lt_of_lt_of_le hj (Nat.le_trans (Nat.min_le_left _ _) hpd))
            rwa [Nat.zero_add] at this
          have hmin : Nat.min pd.size (n * 16 - E) = 16 := by
            have h := HPD.out
            show min pd.size (n * 16 - E) = 16
            omega
          have htk : pd.data.toList.take 16 = pd.data.toList := List.take_of_length_le (by have h : pd.data.toList.length = pd.size := rfl; omega)
          have HMIN := Lib.hid (And.intro hmin htk)
          clear hmin htk
          have hdone := fun (hl : E + pd.data.toList.length ≤ L.length) => (HOR.out.alloc (.cells #[.int .i64 (A : Int), .string pd] 40)).drew.copied E hl
          have HC := Lib.hid hcop
          have HDN := Lib.hid hdone
          have hE0 : (0 : Int) ≤ (E : Int) := by omega
          have hcapn : n * 16 ≤ cap2 := by
            rcases HOR.out.2 with ⟨h0, _⟩ | ⟨_, _, _, h0, _, _, h5, _⟩
            · cases h0
            · cases h0; exact h5
          have hEi : (E : Int) ≤ (n : Int) * 16 := by omega
          have hEc : ¬ cap2 = E := by omega
          clear hlay hcop hdone
          go_wp2_with fail
          go_region_law (refine step_copy_str rfl (.tmp 45) (.tmp 47) 50 9 rfl 5 Try.underlying50 (by kernel_rfl) (w.heap.size + 1) E (n * 16 - E) (cap2 - E) rfl pd rfl HC.out ?_)
          all_goals
            have hd16 := HDN.out (by have h1 := HLEN.out; have h2 : pd.data.toList.length = pd.size := rfl; omega)
            rw [Nat.zero_add] at hd16
            rw [HMIN.out.1, HMIN.out.2]
            have HD16 := Lib.hid hd16
            clear hd16
            go_wp2_with fail
            go_roundw
            case rel =>
              refine ⟨k + 1, by omega, by go_num, ?_, ?_, ?_⟩
              · exact (((hbr.alloc (by omega) _).drew).grown (setCells_grown _ _ _ _) (by simp; omega) (fun _ h => by cases h; exact Nat.le_refl _))
              · rw [setCells_size]
                exact Nat.lt_of_lt_of_le hzr (by simp)
              · rw [HST.out, HLAY.out]
                exact HD16.out
            case measure => simp [intOf]; omega
        · have e1 : decide ((at_ : Int) ≤ (A : Int)) = true := decide_eq_true (by omega)
          have e2 : decide ((A : Int) < (at_ : Int) + n) = false := decide_eq_false (by omega)
          have hlay : Gw.Disk.lay at_ n L ((A : Int), pd) = L := by
            unfold Gw.Disk.lay
            rw [if_neg (by simp only; omega)]
          have HLAY := Lib.hid hlay
          clear hlay
          go_wp2_with fail
          go_roundw
          case rel =>
            refine ⟨k + 1, by omega, by go_num, hbr.alloc (by omega) _, Nat.lt_of_lt_of_le hzr (by simp), ?_⟩
            rw [HST.out, HLAY.out]
            exact HOR.out.alloc _
          case measure => simp [intOf]; omega
      · have e1 : decide ((at_ : Int) ≤ (A : Int)) = false := decide_eq_false (by omega)
        have hlay : Gw.Disk.lay at_ n L ((A : Int), pd) = L := by
          unfold Gw.Disk.lay
          rw [if_neg (by simp only; omega)]
        have HLAY := Lib.hid hlay
        clear hlay
        go_wp2_with fail
        go_roundw
        case rel =>
          refine ⟨k + 1, by omega, by go_num, hbr.alloc (by omega) _, Nat.lt_of_lt_of_le hzr (by simp), ?_⟩
          rw [HST.out, HLAY.out]
          exact HOR.out.alloc _
        case measure => simp [intOf]; omega
    · have hke : k = ps.length := by omega
      subst hke
      have hcv3 := string_conv_own (P := Try.prog) wr 50 9 5 _ _ _ _ Try.underlying50 Try.underlying5 Try.underlying9 HOR.out
      rw [List.take_length, ← HSEEN.out] at hcv3
      go_wp2_with fail
      exact bodyPost_ret (v := .string _) (by simp [results]) rfl ⟨rfl, hbb⟩
end Go.Proofs.Ytfehckdcjgmcpaa
