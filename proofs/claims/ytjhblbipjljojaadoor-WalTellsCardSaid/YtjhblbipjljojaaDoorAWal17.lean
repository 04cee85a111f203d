/- What the reference's Mark, Spill and Same of the package wal compute: told without addresses. No claim of its own. -/
import Derived.Test.YtjhblbipjljojaaDoorAWal16
namespace Go.Proofs.YtjhblbipjljojaaDoor
open Go.Am

theorem settle_eq (w : Gw.Wal.Wal) : Gw.Wal.settle w = { w with disk := (Gw.Wal.settle w).disk, dirty := false } := by
  unfold Gw.Wal.settle
  split
  · rfl
  · rename_i h
    have : w.dirty = false := by simpa using h
    obtain ⟨a1, a2, a3, a4, a5, a6, a7, a8, a9, a10, a11, a12⟩ := w
    simp only at this
    subst this
    rfl
theorem rsettle_parts {w : Gw.Wal.Wal} {R : List (List UInt8)} {st mst : List UInt8} (h : Gw.Wal.Inv w R st mst) (hl : w.disk.loose.length ≤ 1000000) :
    Gw.Disk.check (Gw.Wal.settle w).disk = true ∧ (Gw.Wal.settle w).disk.size = w.disk.size ∧ (Gw.Wal.settle w).disk.loose.length ≤ 1000000 := by
  obtain ⟨h1, h2, h3⟩ := h.settle
  refine ⟨h1.chk, h3, ?_⟩
  unfold Gw.Wal.settle
  split
  · obtain ⟨l, e, _⟩ := h.flushed
    simp only [e]
    decide
  · exact hl
set_option maxHeartbeats 2000000 in
theorem rwmark_pc {w : Gw.Wal.Wal} {R : List (List UInt8)} {st mst : List UInt8} (h : Gw.Wal.Inv w R st mst) (nl nw : Bool) (s : List UInt8) (hs : s.length ≤ 200) (hl : w.disk.loose.length ≤ 1000000) : PC Tryd.prog 54 [encW nl nw w, .str s] (wmarkV nl nw w s) := by
  obtain ⟨N, e1, e2, e3, e4, e5⟩ := wal_sizes h
  have hsq := h.seq2
  have hsq1 := h.seq1
  have hbig := h.big
  have hnx := h.nxt
  have hmt := fun (hq : w.seq < 200) => rmark_pc (w.seq + 1) w.next s (by omega) (by omega) (by omega) (by omega) hs
  have hlen := Gw.Wal.markSecs_len (w.seq + 1) w.next s
  have hdiv : (Gw.Wal.markSecs (w.seq + 1) w.next s).length / 16 = Gw.Wal.manyM (w.seq + 1) w.next s := by rw [hlen]; omega
  obtain ⟨p1, p2, p4⟩ := rsettle_parts h hl
  have hcalm := rcalm_pc h nl nw hl
  rw [settle_eq w] at hcalm
  have hroom := Gw.Wal.slots_room w.disk (w.seq + 1)
  have hwr := fun (hr : Gw.Wal.manyM (w.seq + 1) w.next s ≤ N / 4) => rwwrite_pc (if w.dirty = true then true else nl) (Gw.Wal.settle w).disk p1 p4 (Gw.Wal.slotOf w.disk (w.seq + 1)) (Gw.Wal.manyM (w.seq + 1) w.next s) (Gw.Wal.markSecs (w.seq + 1) w.next s) hlen (by rw [p2, e1]; rw [e3, e4] at hroom; omega)
  have hml : (Gw.Wal.markSecs (w.seq + 1) w.next s).length ≤ 10000 := by
    have h9 := many_small (n := w.seq + 1) (p := Gw.Wal.markText w.next s) (by omega) (by have := Gw.Wal.markText_len (b := w.next) (st := s) (by omega) hs; omega)
    rw [hlen]
    show 16 * Gw.Rec.many (Gw.Rec.bytes (w.seq + 1) (Gw.Wal.markText w.next s)) ≤ 10000
    omega
  have hel := encSL_len w.waits
  have hR1 : w.marked ≠ 0 → wmarkV nl nw w s = .tup [encW nl nw w, .int .i64 140] := fun h1 => by
    unfold wmarkV Gw.Wal.mark markOk
    rw [if_pos h1, decide_eq_false h1]; rfl
  have hR2 : w.marked = 0 → 200 ≤ w.seq → wmarkV nl nw w s = .tup [encW nl nw w, .int .i64 193] := fun h1 h2 => by
    unfold wmarkV Gw.Wal.mark markOk
    rw [if_neg (show ¬ w.marked ≠ 0 from fun e => e h1), if_pos h2, decide_eq_false (show ¬ w.seq < 200 by omega), Bool.false_and, Bool.and_false]; rfl
  have hR3 : w.marked = 0 → ¬ 200 ≤ w.seq → N / 4 < Gw.Wal.manyM (w.seq + 1) w.next s → wmarkV nl nw w s = .tup [encW nl nw w, .int .i64 120] := fun h1 h2 h3 => by
    unfold wmarkV Gw.Wal.mark markOk
    rw [hdiv, e3, if_neg (show ¬ w.marked ≠ 0 from fun e => e h1), if_neg h2, if_pos h3, decide_eq_false (show ¬ Gw.Wal.manyM (w.seq + 1) w.next s ≤ N / 4 by omega), Bool.and_false, Bool.and_false]; rfl
  have hR4 : w.marked = 0 → ¬ 200 ≤ w.seq → ¬ N / 4 < Gw.Wal.manyM (w.seq + 1) w.next s → wmarkV nl nw w s = .tup [encW false nw { w with disk := Gw.Disk.write (Gw.Wal.settle w).disk (Gw.Wal.slotOf w.disk (w.seq + 1)) (Gw.Wal.ba (Gw.Wal.markSecs (w.seq + 1) w.next s)), dirty := false, marked := 1, markNext := w.next, markMany := w.waits.length }, .int .i64 0] := fun h1 h2 h3 => by
    unfold wmarkV Gw.Wal.mark markOk
    rw [hdiv, e3, if_neg (show ¬ w.marked ≠ 0 from fun e => e h1), if_neg h2, if_neg h3, decide_eq_true h1, decide_eq_true (show w.seq < 200 by omega), decide_eq_true (show Gw.Wal.manyM (w.seq + 1) w.next s ≤ N / 4 by omega), settle_eq w]; rfl
  have vq : IntKind.i64.wrap ((w.seq : Int) + 1) = ((w.seq + 1 : Nat) : Int) := by rw [w64 (by omega) (by omega)]; omega
  have vs : IntKind.i64.wrap ((N : Int).tdiv 4) = ((N / 4 : Nat) : Int) := by rw [tdiv_pos (by omega), w64 (by omega) (by omega)]; rfl
  have vo : IntKind.i64.wrap ((IntKind.i64.wrap ((w.seq : Int) + 1)).tmod 2 * IntKind.i64.wrap ((N : Int).tdiv 4)) = ((Gw.Wal.slotOf w.disk (w.seq + 1) : Nat) : Int) := by
    rw [vq, vs, e5, tmod_pos (by omega)]
    rcases Nat.mod_two_eq_zero_or_one (w.seq + 1) with e | e
    · rw [if_neg (by omega), show ((w.seq + 1 : Nat) : Int) % 2 = 0 by omega, Int.zero_mul]; rfl
    · rw [if_pos e, show ((w.seq + 1 : Nat) : Int) % 2 = 1 by omega, Int.one_mul, w64 (by omega) (by omega)]
  generalize wmarkV nl nw w s = RV at *
  generalize Gw.Wal.markSecs (w.seq + 1) w.next s = ms at *
  generalize Gw.Wal.manyM (w.seq + 1) w.next s = k at *
  generalize (Gw.Wal.settle w).disk = D0 at *
  rw [← vo] at hwr hR4
  rw [← vq] at hmt
  refine PC.ofS tabOk mixed (fn := Tryd.f54) (by kernel_rfl) rfl (by kernel_rfl) rfl rfl ?_
  conv => whnf
  refine ⟨fun h1 => ?_, fun h1 => ?_⟩
  · have h1 : w.marked ≠ 0 := by
      intro e; rw [e] at h1; simp at h1
    rw [hR1 h1]
    conv => whnf
    exact SubV.refl _
  have h1 : w.marked = 0 := by simpa using h1
  conv => whnf
  refine ⟨fun h2 => ?_, fun h2 => ?_⟩
  · have h2 := of_decide_eq_true h2
    rw [hR2 h1 (by omega)]
    conv => whnf
    exact SubV.refl _
  have h2 := of_decide_eq_false h2
  have hmt := hmt (by omega)
  conv => whnf
  refine AC.of_pc hmt rfl ?_
  conv => whnf
  repeat (first | refine ⟨fun _ => ?_, fun h => absurd h (by decide)⟩ | refine ⟨fun h => absurd h (by decide), fun _ => ?_⟩ | refine ⟨fun _ => ?_, fun h => absurd (show true = false from h) (by decide)⟩ | refine ⟨fun h => absurd (show false = true from h) (by decide), fun _ => ?_⟩
          (conv => whnf))
  have hq : IntKind.i64.wrap ((ms.length : Int).tdiv 16) = (k : Nat) := by rw [hlen, tdiv_pos (by omega), w64 (by omega) (by omega)]; omega
  rw [hq]
  refine ⟨fun h3 => ?_, fun h3 => ?_⟩
  · have h3 := of_decide_eq_true h3
    rw [e1, vs] at h3
    rw [hR3 h1 (by omega) (by omega)]
    conv => whnf
    exact SubV.refl _
  have h3 := of_decide_eq_false h3
  rw [e1, vs] at h3
  rw [hR4 h1 (by omega) (by omega)]
  have hwr := hwr (by omega)
  rw [← e1, ← p2] at hwr
  rw [← e1, ← p2]
  conv => whnf
  refine AC.of_pc hcalm rfl ?_
  conv => whnf
  refine AC.of_pc hwr rfl ?_
  conv => whnf
  refine SubV.of_eq ?_
  rw [hel]
  rfl
theorem same14_pc (na nb nc nd : Bool) (w : Gw.Wal.Wal) (hl : w.disk.loose.length ≤ 1048576) (hw : w.waits.length ≤ 1048576) : PC Tryd.prog 14 [encW na nb w, encW nc nd w] (.bool true) := by
  have h1 := same2_pc na nc w.disk hl
  have h2 := strSame_pc nb nd w.waits w.waits hw
  rw [show decide (w.waits = w.waits) = true by simp] at h2
  refine PC.of tabOk mixed (fn := Tryd.f14) (by kernel_rfl) rfl (by kernel_rfl) rfl rfl ?_
  conv => whnf
  refine AC.of_pc h1 rfl ?_
  conv => whnf
  refine AC.of_pc h2 rfl ?_
  conv => whnf
  repeat (first | refine ⟨fun h => absurd h (by decide), fun _ => ?_⟩
                | refine ⟨fun _ => ?_, fun h => absurd h (by decide)⟩
                | refine ⟨fun _ => ?_, fun h => absurd h (by simp; first | done | omega | fail "x")⟩
                | fail "end"
          (conv => whnf))
  show V.bool ((w.markMany : Int) == (w.markMany : Int)) = V.bool true
  rw [beq_self_eq_true]
set_option maxHeartbeats 2000000 in
theorem rspill_pc {w : Gw.Wal.Wal} {R : List (List UInt8)} {st mst : List UInt8} (h : Gw.Wal.Inv w R st mst) (nl nw : Bool) (hl : w.disk.loose.length ≤ 900000) : PC Tryd.prog 52 [encW nl nw w] (spillV nl nw w) := by
  obtain ⟨N, e1, e2, e3, e4, e5⟩ := wal_sizes h
  have hbig := h.big
  have hnx := h.nxt
  have hb1 := h.base1
  have hrm := h.room
  have hwts := h.wts
  have hel := encSL_len w.waits
  have hsl := spK_len w hwts (by omega)
  obtain ⟨p1, p2, p4⟩ := rsettle_parts h (by omega)
  have hcalm := rcalm_pc h nl nw (by omega)
  rw [settle_eq w] at hcalm
  have hall : Gw.Wal.spillText w = spK w w.waits.length := by unfold spK Gw.Wal.spillText; rw [List.take_length]
  have hlen := Gw.Wal.spillText_len w
  have hge := Gw.Wal.secsOf_ge w.waits (w.spilled + 1)
  have hwr := fun (hr : w.end_ + Gw.Wal.secsOf w.waits (w.spilled + 1) ≤ N) => rwwrite_pc (if w.dirty = true then true else nl) (Gw.Wal.settle w).disk p1 p4 w.end_ (Gw.Wal.secsOf w.waits (w.spilled + 1)) (Gw.Wal.spillText w) hlen (by rw [p2, e1]; omega)
  have hR1 : w.marked ≠ 0 → spillV nl nw w = .tup [encW nl nw w, .int .i64 140] := fun h1 => by
    have e : Gw.Wal.spill w = (w, 140) := by unfold Gw.Wal.spill; rw [if_pos h1]
    unfold spillV; rw [e]; rfl
  have hR2 : w.marked = 0 → N < w.end_ + Gw.Wal.secsOf w.waits (w.spilled + 1) → spillV nl nw w = .tup [encW nl nw w, .int .i64 120] := fun h1 h2 => by
    have e : Gw.Wal.spill w = (w, 120) := by unfold Gw.Wal.spill; rw [if_neg (show ¬ w.marked ≠ 0 from fun e => e h1), if_pos (by rw [hlen]; omega)]
    unfold spillV; rw [e]; rfl
  have hR3 : w.marked = 0 → ¬ N < w.end_ + Gw.Wal.secsOf w.waits (w.spilled + 1) → w.waits = [] → spillV nl nw w = .tup [encW nl nw w, .int .i64 0] := fun h1 h2 h3 => by
    have e : Gw.Wal.spill w = (w, 0) := by unfold Gw.Wal.spill; rw [if_neg (show ¬ w.marked ≠ 0 from fun e => e h1), if_neg (by rw [hlen]; omega), if_pos h3]
    unfold spillV; rw [e, if_neg (fun e => e.2 h3), if_neg (fun e => e.2 h3)]; rfl
  have hR4 : w.marked = 0 → ¬ N < w.end_ + Gw.Wal.secsOf w.waits (w.spilled + 1) → ¬ w.waits = [] → spillV nl nw w = .tup [encW false true { w with disk := Gw.Disk.write (Gw.Wal.settle w).disk w.end_ (Gw.Wal.ba (Gw.Wal.spillText w)), dirty := false, end_ := w.end_ + Gw.Wal.secsOf w.waits (w.spilled + 1), spilled := w.next - 1, waits := [] }, .int .i64 0] := fun h1 h2 h3 => by
    have hd : (Gw.Wal.spillText w).length / 16 = Gw.Wal.secsOf w.waits (w.spilled + 1) := by rw [hlen]; omega
    have e : Gw.Wal.spill w = ({ w with disk := Gw.Disk.write (Gw.Wal.settle w).disk w.end_ (Gw.Wal.ba (Gw.Wal.spillText w)), dirty := false, end_ := w.end_ + Gw.Wal.secsOf w.waits (w.spilled + 1), spilled := w.next - 1, waits := [] }, 0) := by
      unfold Gw.Wal.spill
      rw [hd, if_neg (show ¬ w.marked ≠ 0 from fun e => e h1), if_neg (by omega), if_neg h3, settle_eq w]
    unfold spillV; rw [e, if_pos ⟨rfl, h3⟩, if_pos ⟨rfl, h3⟩]; rfl
  generalize spillV nl nw w = RV at *
  generalize (Gw.Wal.settle w).disk = D0 at *
  refine PC.ofS tabOk mixed (fn := Tryd.f52) (by kernel_rfl) rfl (by kernel_rfl) rfl rfl ?_
  conv => whnf
  refine ⟨fun h1 => ?_, fun h1 => ?_⟩
  · have h1 : w.marked ≠ 0 := by
      intro e; rw [e] at h1; simp at h1
    rw [hR1 h1]
    conv => whnf
    exact SubV.refl _
  have h1 : w.marked = 0 := by simpa using h1
  conv => whnf
  refine AW.loop (fun k : Nat => [(.tmp 1, .v (.ptr 0 0)), (.tmp 2, .v (.ptr 1 0)), (.tmp 4, .v (.str (spK w k))), (.tmp 5, .v (.int .i64 k)),
    (.blk 0, .box 31 (walC nl nw w)), (.blk 1, .box 31 [.int .i64 0, .str [], .lst true 1 [] .tight, .int .i64 0, .int .i64 0, .int .i64 0, .int .i64 0, .int .i64 0, .int .i64 0, .lst true 1 [] .tight, .ff, .int .i64 0, .int .i64 0, .int .i64 0])])
    2 (fun k => k ≤ w.waits.length) (fun k => w.waits.length - k) (by decide) 0 (Nat.zero_le _) ⟨rfl, rfl, rfl, rfl, rfl, rfl, rfl, rfl, rfl, rfl, rfl, rfl, trivial⟩ ?_
  rintro k hk
  have hsk := hsl k hk
  refine ev_sound tabOk mixed _ _ _ _ ?_
  conv => whnf
  refine ⟨fun h2 => ?_, fun h2 => ?_⟩
  · have h2 := of_decide_eq_true h2
    have hlt : k < w.waits.length := by omega
    have hgt := encSL_get hlt
    have hpl := hwts _ (List.getElem_mem hlt)
    have hsu := spK_succ w hlt
    have hsk1 := hsl (k + 1) hlt
    have hpk := rpack_pc ((w.spilled + 1 + k : Nat) : Int) w.waits[k]
    have hmay : Gw.Rec.may ((w.spilled + 1 + k : Nat) : Int) w.waits[k] = true := Gw.Rec.may_iff.2 ⟨by omega, by omega, by omega⟩
    have q1 : Gw.Rec.pack ((w.spilled + 1 + k : Nat) : Int) w.waits[k] = Gw.Rec.packed (w.spilled + 1 + k) w.waits[k] := by unfold Gw.Rec.pack; rw [if_pos hmay, Int.toNat_natCast]
    have q2 : Gw.Rec.packErr ((w.spilled + 1 + k : Nat) : Int) w.waits[k] = 0 := by unfold Gw.Rec.packErr; rw [if_pos hmay]
    rw [q1, q2] at hpk
    have hw1 : IntKind.i64.wrap (IntKind.i64.wrap ((w.spilled : Int) + 1) + (k : Int)) = ((w.spilled + 1 + k : Nat) : Int) := by rw [w64 (x := (w.spilled : Int) + 1) (by omega) (by omega), w64 (by omega) (by omega)]; omega
    rw [← hw1] at hpk
    generalize Gw.Rec.packed (w.spilled + 1 + k) w.waits[k] = P at *
    conv => whnf
    refine ⟨_, ⟨by omega, hgt⟩, ?_⟩
    conv => whnf
    refine ⟨_, rfl, hpk, ?_⟩
    conv => whnf
    refine ⟨by kernel_rfl, ?_⟩
    conv => whnf
    refine ⟨by have := congrArg List.length hsu; rw [List.length_append] at this; omega, ?_⟩
    conv => whnf
    refine ⟨k + 1, by omega, by show _ - (k + 1) < _ - k; omega, rfl, rfl, rfl, rfl, ?_, rfl, ?_, rfl, rfl, rfl, rfl, rfl, trivial⟩
    · rw [hsu]; rfl
    · show C.v (V.int .i64 (IntKind.i64.wrap ((k : Int) + 1))) = _
      rw [w64 (by omega) (by omega)]; rfl
  · have h2 := of_decide_eq_false h2
    obtain rfl : k = w.waits.length := by omega
    rw [← hall] at hsk ⊢
    have hq : IntKind.i64.wrap (((Gw.Wal.spillText w).length : Int).tdiv 16) = (Gw.Wal.secsOf w.waits (w.spilled + 1) : Nat) := by rw [hlen, tdiv_pos (by omega), w64 (by omega) (by omega)]; omega
    have hs : IntKind.i64.wrap (w.disk.size - (w.end_ : Int)) = w.disk.size - (w.end_ : Int) := w64 (by omega) (by omega)
    generalize Gw.Wal.secsOf w.waits (w.spilled + 1) = S at *
    have hwe : IntKind.i64.wrap ((w.end_ : Int) + IntKind.i64.wrap (((Gw.Wal.spillText w).length : Int).tdiv 16)) = ((w.end_ + S : Nat) : Int) := by rw [hq, w64 (by omega) (by omega)]; omega
    have hwn : IntKind.i64.wrap ((w.next : Int) - 1) = ((w.next - 1 : Nat) : Int) := by rw [w64 (by omega) (by omega)]; omega
    conv => whnf
    refine ⟨fun h3 => ?_, fun h3 => ?_⟩
    · have h3 := of_decide_eq_true h3
      rw [hq, hs] at h3
      rw [hR2 h1 (by omega)]
      conv => whnf
      exact SubV.refl _
    have h3 := of_decide_eq_false h3
    rw [hq, hs] at h3
    conv => whnf
    refine ⟨fun h4 => ?_, fun h4 => ?_⟩
    · have h4 : w.waits = [] := by
        have : ((Gw.Wal.spillText w).length : Int) = 0 := by simpa using h4
        exact List.eq_nil_of_length_eq_zero (by omega)
      rw [hR3 h1 (by omega) h4]
      conv => whnf
      exact SubV.refl _
    have h4 : ¬ w.waits = [] := by
      intro e
      have : ¬ ((Gw.Wal.spillText w).length : Int) = 0 := by simpa using h4
      apply this
      unfold Gw.Wal.spillText; rw [e]; rfl
    rw [hR4 h1 (by omega) h4]
    have hwr := hwr (by omega)
    conv => whnf
    refine AC.of_pc hcalm rfl ?_
    conv => whnf
    refine AC.of_pc hwr rfl ?_
    conv => whnf
    rw [hwe, hwn]
    exact SubV.tup2 (subW (.refl _) (.nil _ _ _)) (.refl _)
end Go.Proofs.YtjhblbipjljojaaDoor
