/- The law WalTells: its function is true. No claim of its own. -/
import Derived.Test.YtjhblbipjljojaaDoorAWal18
namespace Go.Proofs.YtjhblbipjljojaaDoor
open Go.Am

theorem rcrashed_pc {w : Gw.Wal.Wal} {R : List (List UInt8)} {st mst : List UInt8} (h : Gw.Wal.Inv w R st mst) (nl : Bool) (p : List UInt8) (hp : p.length ≤ 1000) (hl : w.disk.loose.length ≤ 900000) :
    PC Tryd.prog 56 [encD nl w.disk, .str p] (encD true (Gw.Disk.crash w.disk (Gw.Wal.ba p))) ∧
    PC Tryd.prog 13 [encD true (Gw.Disk.crash w.disk (Gw.Wal.ba p))] (.tup [encW false true (Gw.Wal.open_ (Gw.Disk.crash w.disk (Gw.Wal.ba p))).wal, .str (Gw.Wal.open_ (Gw.Disk.crash w.disk (Gw.Wal.ba p))).state, .lst (decide ((Gw.Wal.open_ (Gw.Disk.crash w.disk (Gw.Wal.ba p))).recs = [])) 1 (encSL (Gw.Wal.open_ (Gw.Disk.crash w.disk (Gw.Wal.ba p))).recs) .none, .int .i64 0]) ∧
    (Gw.Wal.open_ (Gw.Disk.crash w.disk (Gw.Wal.ba p))).wal.disk.loose.length ≤ 2000 := by
  have h0 := h.size0
  have h1 := h.small
  obtain ⟨a1, a2, a3, a4⟩ := h.crashDisk (Gw.Wal.ba p)
  obtain ⟨q, b, s, R', t1, t2⟩ := h.crashed (Gw.Wal.ba p)
  have hc := rcrash_pc nl w.disk (Gw.Wal.ba p) (by unfold I64; omega) (by omega) (by omega) (by rw [Gw.Wal.ba_size]; omega)
  rw [if_pos h.chk] at hc
  have ho := rwopen_pc true (Gw.Disk.crash w.disk (Gw.Wal.ba p)) (by rw [a2]; unfold I64; omega) (by rw [a2]; omega) (by rw [a3]; decide)
  rw [openedV_of t1.err] at ho
  exact ⟨hc, ho, Gw.Wal.open_le a3 (by omega)⟩
set_option maxHeartbeats 1000000 in
theorem rdo_pc {w : Gw.Wal.Wal} {R : List (List UInt8)} {st mst : List UInt8} (h : Gw.Wal.Inv w R st mst) (nl nw : Bool) (k : Int) (p : List UInt8) (hp : p.length ≤ 200) (hl : w.disk.loose.length ≤ 890000) :
    ∃ a b, PC Tryd.prog 19 [encW nl nw w, .agg [.int .i64 k, .str p]] (.tup [encW a b (Gw.Wal.step w k p).1, .int .i64 ((Gw.Wal.step w k p).2 : Nat)]) := by
  have hbig := h.big
  have hnx := h.nxt
  by_cases k1 : k = 1
  · subst k1
    have hc := rappend_pc nl nw w p (by omega) (by omega)
    have e : Gw.Wal.step w 1 p = ((Gw.Wal.append w p).1, (Gw.Wal.append w p).2.2) := rfl
    rw [e]
    refine ⟨nl, if 40000 < p.length ∨ 1000000 < w.next then nw else false, ?_⟩
    refine PC.of tabOk mixed (fn := Tryd.f19) (by kernel_rfl) rfl (by kernel_rfl) rfl rfl ?_
    conv => whnf
    repeat (first | refine ⟨fun _ => ?_, fun h => absurd h (by decide)⟩ | refine ⟨fun h => absurd h (by decide), fun _ => ?_⟩ | refine ⟨fun _ => ?_, fun h => absurd (show true = false from h) (by decide)⟩ | refine ⟨fun h => absurd (show false = true from h) (by decide), fun _ => ?_⟩
            (conv => whnf))
    refine AC.of_pc hc rfl ?_
    conv => whnf
    rfl
  by_cases k2 : k = 2
  · subst k2
    have hc := rspill_pc h nl nw (by omega)
    have e : Gw.Wal.step w 2 p = Gw.Wal.spill w := rfl
    rw [e]
    refine ⟨if (Gw.Wal.spill w).2 = 0 ∧ w.waits ≠ [] then false else nl, if (Gw.Wal.spill w).2 = 0 ∧ w.waits ≠ [] then true else nw, ?_⟩
    refine PC.of tabOk mixed (fn := Tryd.f19) (by kernel_rfl) rfl (by kernel_rfl) rfl rfl ?_
    conv => whnf
    repeat (first | refine ⟨fun _ => ?_, fun h => absurd h (by decide)⟩ | refine ⟨fun h => absurd h (by decide), fun _ => ?_⟩ | refine ⟨fun _ => ?_, fun h => absurd (show true = false from h) (by decide)⟩ | refine ⟨fun h => absurd (show false = true from h) (by decide), fun _ => ?_⟩
            (conv => whnf))
    refine AC.of_pc hc rfl ?_
    conv => whnf
    rfl
  by_cases k3 : k = 3
  · subst k3
    have hc := rsync_pc h nl nw (by omega)
    have e : Gw.Wal.step w 3 p = (Gw.Wal.sync w, 0) := rfl
    rw [e]
    refine ⟨true, nw, ?_⟩
    refine PC.of tabOk mixed (fn := Tryd.f19) (by kernel_rfl) rfl (by kernel_rfl) rfl rfl ?_
    conv => whnf
    repeat (first | refine ⟨fun _ => ?_, fun h => absurd h (by decide)⟩ | refine ⟨fun h => absurd h (by decide), fun _ => ?_⟩ | refine ⟨fun _ => ?_, fun h => absurd (show true = false from h) (by decide)⟩ | refine ⟨fun h => absurd (show false = true from h) (by decide), fun _ => ?_⟩
            (conv => whnf))
    refine AC.of_pc hc rfl ?_
    conv => whnf
    rfl
  by_cases k4 : k = 4
  · subst k4
    have hc := rwmark_pc h nl nw p hp (by omega)
    have e : Gw.Wal.step w 4 p = Gw.Wal.mark w p := rfl
    rw [e]
    refine ⟨if markOk w p = true then false else nl, nw, ?_⟩
    refine PC.of tabOk mixed (fn := Tryd.f19) (by kernel_rfl) rfl (by kernel_rfl) rfl rfl ?_
    conv => whnf
    repeat (first | refine ⟨fun _ => ?_, fun h => absurd h (by decide)⟩ | refine ⟨fun h => absurd h (by decide), fun _ => ?_⟩ | refine ⟨fun _ => ?_, fun h => absurd (show true = false from h) (by decide)⟩ | refine ⟨fun h => absurd (show false = true from h) (by decide), fun _ => ?_⟩
            (conv => whnf))
    refine AC.of_pc hc rfl ?_
    conv => whnf
    rfl
  by_cases k5 : k = 5
  · subst k5
    have hc := rwipe_pc h nl nw (by omega)
    have e : Gw.Wal.step w 5 p = Gw.Wal.wipe w := rfl
    rw [e]
    refine ⟨if w.marked ≠ 2 then nl else false, if w.marked ≠ 2 then nw else false, ?_⟩
    refine PC.of tabOk mixed (fn := Tryd.f19) (by kernel_rfl) rfl (by kernel_rfl) rfl rfl ?_
    conv => whnf
    repeat (first | refine ⟨fun _ => ?_, fun h => absurd h (by decide)⟩ | refine ⟨fun h => absurd h (by decide), fun _ => ?_⟩ | refine ⟨fun _ => ?_, fun h => absurd (show true = false from h) (by decide)⟩ | refine ⟨fun h => absurd (show false = true from h) (by decide), fun _ => ?_⟩
            (conv => whnf))
    refine AC.of_pc hc rfl ?_
    conv => whnf
    rfl
  by_cases k6 : k = 6
  · subst k6
    obtain ⟨c1, c2, c3⟩ := rcrashed_pc h nl p (by omega) (by omega)
    obtain ⟨q, b, s, R', t1, t2⟩ := h.crashed (Gw.Wal.ba p)
    have e : Gw.Wal.step w 6 p = ((Gw.Wal.open_ (Gw.Disk.crash w.disk (Gw.Wal.ba p))).wal, (Gw.Wal.open_ (Gw.Disk.crash w.disk (Gw.Wal.ba p))).err) := rfl
    rw [e, t1.err]
    refine ⟨false, true, ?_⟩
    refine PC.of tabOk mixed (fn := Tryd.f19) (by kernel_rfl) rfl (by kernel_rfl) rfl rfl ?_
    conv => whnf
    repeat (first | refine ⟨fun _ => ?_, fun h => absurd h (by decide)⟩ | refine ⟨fun h => absurd h (by decide), fun _ => ?_⟩ | refine ⟨fun _ => ?_, fun h => absurd (show true = false from h) (by decide)⟩ | refine ⟨fun h => absurd (show false = true from h) (by decide), fun _ => ?_⟩
            (conv => whnf))
    refine AC.of_pc c1 rfl ?_
    conv => whnf
    refine AC.of_pc c2 rfl ?_
    conv => whnf
    rfl
  by_cases k7 : k = 7
  · subst k7
    obtain ⟨c1, c2, c3⟩ := rcrashed_pc h nl p (by omega) (by omega)
    obtain ⟨q, b, s, R', t1, t2⟩ := h.crashed (Gw.Wal.ba p)
    obtain ⟨d1, d2, d3⟩ := rcrashed_pc t2 false p (by omega) (by omega)
    obtain ⟨q', b', s', R'', u1, u2⟩ := t2.crashed (Gw.Wal.ba p)
    have e : Gw.Wal.step w 7 p = ((Gw.Wal.open_ (Gw.Disk.crash (Gw.Wal.open_ (Gw.Disk.crash w.disk (Gw.Wal.ba p))).wal.disk (Gw.Wal.ba p))).wal, (Gw.Wal.open_ (Gw.Disk.crash (Gw.Wal.open_ (Gw.Disk.crash w.disk (Gw.Wal.ba p))).wal.disk (Gw.Wal.ba p))).err) := rfl
    rw [e, u1.err]
    refine ⟨false, true, ?_⟩
    refine PC.of tabOk mixed (fn := Tryd.f19) (by kernel_rfl) rfl (by kernel_rfl) rfl rfl ?_
    conv => whnf
    repeat (first | refine ⟨fun _ => ?_, fun h => absurd h (by decide)⟩ | refine ⟨fun h => absurd h (by decide), fun _ => ?_⟩ | refine ⟨fun _ => ?_, fun h => absurd (show true = false from h) (by decide)⟩ | refine ⟨fun h => absurd (show false = true from h) (by decide), fun _ => ?_⟩
            (conv => whnf))
    refine AC.of_pc c1 rfl ?_
    conv => whnf
    refine AC.of_pc c2 rfl ?_
    conv => whnf
    refine AC.of_pc d1 rfl ?_
    conv => whnf
    refine AC.of_pc d2 rfl ?_
    conv => whnf
    rfl
  have e : Gw.Wal.step w k p = (w, 0) := by
    unfold Gw.Wal.step
    rw [if_neg k1, if_neg k2, if_neg k3, if_neg k4, if_neg k5, if_neg k6, if_neg k7]
  rw [e]
  refine ⟨nl, nw, ?_⟩
  refine PC.of tabOk mixed (fn := Tryd.f19) (by kernel_rfl) rfl (by kernel_rfl) rfl rfl ?_
  conv => whnf
  refine ⟨fun h => absurd (by simpa using h) k1, fun _ => ?_⟩
  conv => whnf
  refine ⟨fun h => absurd (by simpa using h) k2, fun _ => ?_⟩
  conv => whnf
  refine ⟨fun h => absurd (by simpa using h) k3, fun _ => ?_⟩
  conv => whnf
  refine ⟨fun h => absurd (by simpa using h) k4, fun _ => ?_⟩
  conv => whnf
  refine ⟨fun h => absurd (by simpa using h) k5, fun _ => ?_⟩
  conv => whnf
  refine ⟨fun h => absurd (by simpa using h) k6, fun _ => ?_⟩
  conv => whnf
  refine ⟨fun h => absurd (by simpa using h) k7, fun _ => ?_⟩
  conv => whnf
  rfl
theorem opened_small {d : Gw.Disk.Disk} (hl : d.loose.length ≤ 100) (hs : d.size ≤ 100) : (Gw.Wal.open_ d).wal.disk.loose.length ≤ 100000 ∧ (Gw.Wal.open_ d).wal.waits = [] ∧ (Gw.Wal.open_ d).recs.length ≤ 100000 := by
  unfold Gw.Wal.open_
  split
  · exact ⟨by decide, by first | rfl | trivial, by decide⟩
  rename_i hck
  have hck : Gw.Disk.check d = true := by simpa using hck
  split
  · exact ⟨by decide, by first | rfl | trivial, by decide⟩
  rename_i q b st hb
  obtain ⟨z1, z2, _, _⟩ := Gw.Disk.check_spec hck
  have hsl := Gw.Wal.start_size d
  have hrl := Gw.Wal.region_len hck
  obtain ⟨ab1, ab2⟩ := alls_bound (Gw.Rec.all_alls (Gw.Wal.region d) (b : Int))
  rw [hrl] at ab1
  unfold Gw.Wal.openAt
  simp only
  obtain ⟨v1, v2, v3, v4, _, _⟩ := Gw.Wal.write_spec hck (Gw.Wal.start d + (Gw.Rec.all (Gw.Wal.region d) b).2) (d.size.toNat - (Gw.Wal.start d + (Gw.Rec.all (Gw.Wal.region d) b).2)) _ (Gw.Wal.zeros_len _) (by omega)
  have hrm := Gw.Wal.slots_room d (q + 1)
  obtain ⟨y1, y2, y3, y4, _, _⟩ := Gw.Wal.write_spec v3 (Gw.Wal.slotOf d (q + 1)) (Gw.Wal.slotSz d) _ (Gw.Wal.zeros_len _) (by rw [v2]; omega)
  refine ⟨?_, by first | trivial | rfl, by omega⟩
  rw [y4, v4]
  have : Gw.Wal.slotSz d = d.size.toNat / 4 := rfl
  omega
structure KT where
  k : Nat
  w : Gw.Wal.Wal
  a : Bool
  b : Bool
  c : Bool
  d : Bool
set_option maxHeartbeats 8000000 in
set_option maxRecDepth 20000 in
theorem tells_pc (n : Nat) (hn : n ≤ 255) (nil nd : Bool) (l : List (Int × List UInt8)) (hl : l.length ≤ 9223372036854775807) (d : Gw.Disk.Disk) (hnd : nd = true → d.loose = []) (hdl : d.loose.length ≤ 9223372036854775807) (hds : I64 d.size) : PC Tryd.prog 3 [.int .u8 n, .lst nil 2 (l.map encSt) .none, encD nd d] (.bool true) := by
  have hel : (l.map encSt).length = l.length := List.length_map _
  have hnew := wnew_pc ((n % 100 : Nat) : Int)
  have hnew2 := rwnew_pc ((n % 100 : Nat) : Int)
  have hfew := fewSt_pc nil l 40 hl
  have hfewd := few_pc nd d hdl
  have hmod : IntKind.i64.wrap (((n : Int)).tmod 100) = ((n % 100 : Nat) : Int) := by rw [tmod_pos (by omega), w64 (by omega) (by omega)]; omega
  have hinv := Gw.Wal.new_inv (size := ((n % 100 : Nat) : Int)) (by omega)
  have hlo := Gw.Wal.new_loose (size := ((n % 100 : Nat) : Int)) (by omega)
  have ho1 := fun h => wopen_pc nd d hnd hds h
  have ho2 := fun h2 h => rwopen_pc nd d hds h2 h
  have hos := fun h1 h2 => opened_small (d := d) h1 h2
  have hsm := fun a b c e w h1 h2 => same14_pc a b c e w h1 h2
  have hnone : (Gw.Wal.new ((n % 100 : Nat) : Int)).2 ≠ 0 → (Gw.Wal.new ((n % 100 : Nat) : Int)).1 = Gw.Wal.nowal := by
    unfold Gw.Wal.new
    split
    · exact fun _ => rfl
    · exact fun h => absurd rfl h
  unfold newV at hnew hnew2
  unfold openedV at ho1 ho2
  generalize Gw.Wal.new ((n % 100 : Nat) : Int) = nw at *
  obtain ⟨w0, e0⟩ := nw
  simp only at hnew hnew2 hinv hlo hnone
  rw [← hmod] at hnew hnew2
  refine PC.of tabOk mixed (fn := Tryd.f3) (by kernel_rfl) rfl (by kernel_rfl) rfl rfl ?_
  conv => whnf
  refine AC.of_pc awake_pc rfl ?_
  conv => whnf
  refine AC.of_pc hfew rfl ?_
  conv => whnf
  refine ⟨fun h1 => ?_, fun h1 => ?_⟩
  · conv => whnf
  have h1 : (l.all fun s => decide (s.2.length ≤ 200)) = true ∧ l.length ≤ 40 := by
    simp at h1
    exact ⟨by simpa using h1.1, by omega⟩
  obtain ⟨f1, f2⟩ := h1
  conv => whnf
  refine AC.of_pc hfewd rfl ?_
  conv => whnf
  refine ⟨fun h2 => ?_, fun h2 => ?_⟩
  · conv => whnf
  have h2 : d.size ≤ 100 ∧ d.loose.length ≤ 100 := by
    simp at h2
    omega
  obtain ⟨f3, f4⟩ := h2
  have ho1 := ho1 (by omega)
  have ho2 := ho2 (by omega) (by omega)
  obtain ⟨s1, s2, s3⟩ := hos f4 f3
  generalize Gw.Wal.open_ d = o at *
  obtain ⟨ow, os, or_, oe⟩ := o
  simp only at ho1 ho2 s1 s2 s3
  have hs1 := fun a b c e => hsm a b c e ow (by omega) (by rw [s2]; decide)
  have hs2 := fun a b => strSame_pc a b or_ or_ (by omega)
  rw [show decide (or_ = or_) = true by simp] at hs2
  conv => whnf
  refine AC.of_pc ho1 rfl ?_
  conv => whnf
  refine AC.of_pc ho2 rfl ?_
  conv => whnf
  refine AC.of_pc (hs1 _ _ _ _) rfl ?_
  conv => whnf
  repeat (first | refine ⟨fun h => absurd h (by decide), fun _ => ?_⟩
                | refine ⟨fun _ => ?_, fun h => absurd h (by decide)⟩
                | refine ⟨fun h => absurd h (by simp; first | done | omega | fail "x"), fun _ => ?_⟩
                | refine ⟨fun _ => ?_, fun h => absurd h (by simp; first | done | omega | fail "x")⟩
                | fail "end"
          (conv => whnf))
  refine AC.of_pc (hs2 _ _) rfl ?_
  conv => whnf
  repeat (first | refine ⟨fun h => absurd h (by decide), fun _ => ?_⟩
                | refine ⟨fun _ => ?_, fun h => absurd h (by decide)⟩
                | refine ⟨fun h => absurd h (by simp; first | done | omega | fail "x"), fun _ => ?_⟩
                | refine ⟨fun _ => ?_, fun h => absurd h (by simp; first | done | omega | fail "x")⟩
                | fail "end"
          (conv => whnf))
  refine AC.of_pc hnew rfl ?_
  conv => whnf
  refine AC.of_pc hnew2 rfl ?_
  conv => whnf
  by_cases h3 : e0 = 0
  rotate_left
  · have hnw := hnone h3
    subst hnw
    repeat (first | refine ⟨fun h => absurd h (by decide), fun _ => ?_⟩
                  | refine ⟨fun _ => ?_, fun h => absurd h (by decide)⟩
                  | refine ⟨fun h => absurd h (by simp; first | done | omega | fail "x"), fun _ => ?_⟩
                  | refine ⟨fun _ => ?_, fun h => absurd h (by simp; first | done | omega | fail "x")⟩
                  | fail "end"
            (conv => whnf))
    refine AC.of_pc (hsm _ _ _ _ Gw.Wal.nowal (by decide) (by decide)) rfl ?_
    conv => whnf
  subst h3
  obtain ⟨i0, g1, g2, g3, g4, g5, g6, g7, g8⟩ := hinv rfl
  have hlo := hlo rfl
  repeat (first | refine ⟨fun h => absurd h (by decide), fun _ => ?_⟩
                | refine ⟨fun _ => ?_, fun h => absurd h (by decide)⟩
                | refine ⟨fun h => absurd h (by simp; first | done | omega | fail "x"), fun _ => ?_⟩
                | refine ⟨fun _ => ?_, fun h => absurd h (by simp; first | done | omega | fail "x")⟩
                | fail "end"
          (conv => whnf))
  refine AW.loop (fun X : KT => [(.tmp 1, .v (.lst nil 2 (l.map encSt) .none)), (.tmp 7, .v (.bool true)), (.tmp 16, .v (.ptr 55 0)), (.tmp 18, .v (.ptr 64 0)), (.tmp 20, .v (.int .i64 X.k)),
    (.blk 55, .box 31 (walC X.a X.b X.w)), (.blk 64, .box 31 (walC X.c X.d X.w))]) 65 (fun X => X.k ≤ l.length ∧ (∃ R st mst, Gw.Wal.Inv X.w R st mst) ∧ Fl X.a X.b X.w ∧ X.w.disk.loose.length ≤ 2000 * X.k) (fun X => l.length - X.k) (by decide) ⟨0, w0, true, true, true, true⟩
    ⟨Nat.zero_le _, ⟨_, _, _, i0⟩, ⟨fun _ => hlo, fun _ => g4⟩, by show w0.disk.loose.length ≤ _; rw [hlo]; exact Nat.zero_le _⟩ ⟨rfl, rfl, rfl, rfl, rfl, rfl, rfl, rfl, rfl, rfl, rfl, rfl, rfl, rfl, trivial⟩ ?_
  rintro ⟨k, w, a, b, c, d'⟩ ⟨hk, ⟨R, st, mst, hI⟩, hF, hL⟩
  simp only at hk hI hF hL
  dsimp only
  refine ev_sound tabOk mixed _ _ _ _ ?_
  conv => whnf
  refine ⟨fun h3 => ?_, fun h3 => ?_⟩
  · have h3 := of_decide_eq_true h3
    have hlt : k < l.length := by omega
    have hel2 := encSt_get hlt
    have hpl := of_decide_eq_true (List.all_eq_true.1 f1 _ (List.getElem_mem hlt))
    generalize l[k].1 = kind at hel2
    generalize l[k].2 = txt at hel2 hpl
    obtain ⟨a2, b2, hF2, hdo⟩ := do_pc hI a b hF kind txt hpl (by omega)
    obtain ⟨c2, d2, hdo2⟩ := rdo_pc hI c d' kind txt hpl (by omega)
    have hml := hI.looseLe kind txt
    have hI2 := hI.step kind (p := txt) hpl
    generalize Gw.Wal.step w kind txt = x at *
    obtain ⟨x, e⟩ := x
    simp only at hF2 hdo hdo2 hml hI2
    obtain ⟨R2, st2, mst2, hI2⟩ := hI2
    have hx1 := hI2.big
    have hx2 := hI2.nxt
    have hsame := fun a b c d => hsm a b c d x (by omega) (by omega)
    conv => whnf
    refine ⟨_, ⟨by omega, hel2⟩, ?_⟩
    conv => whnf
    refine ⟨_, rfl, hdo, ?_⟩
    conv => whnf
    refine ⟨by kernel_rfl, ?_⟩
    conv => whnf
    refine ⟨_, ⟨by omega, hel2⟩, ?_⟩
    conv => whnf
    refine ⟨_, rfl, hdo2, ?_⟩
    conv => whnf
    refine ⟨by kernel_rfl, ?_⟩
    conv => whnf
    repeat (first | refine ⟨fun h => absurd h (by decide), fun _ => ?_⟩
                  | refine ⟨fun _ => ?_, fun h => absurd h (by decide)⟩
                  | refine ⟨fun h => absurd h (by simp; first | done | omega | fail "x"), fun _ => ?_⟩
                  | refine ⟨fun _ => ?_, fun h => absurd h (by simp; first | done | omega | fail "x")⟩
                  | fail "end"
            (conv => whnf))
    refine AC.of_pc (hsame _ _ _ _) rfl ?_
    conv => whnf
    repeat (first | refine ⟨fun _ => ?_, fun h => absurd h (by decide)⟩ | refine ⟨fun h => absurd h (by decide), fun _ => ?_⟩ | refine ⟨fun _ => ?_, fun h => absurd (show true = false from h) (by decide)⟩ | refine ⟨fun h => absurd (show false = true from h) (by decide), fun _ => ?_⟩
            (conv => whnf))
    refine ⟨⟨k + 1, x, a2, b2, c2, d2⟩, ⟨hlt, ⟨R2, st2, mst2, hI2⟩, hF2, by show x.disk.loose.length ≤ 2000 * (k + 1); omega⟩, by show l.length - (k + 1) < l.length - k; omega, rfl, rfl, rfl, rfl, rfl, rfl, rfl, rfl, ?_, rfl, rfl, rfl, rfl, rfl, trivial⟩
    show C.v (V.int .i64 (IntKind.i64.wrap ((k : Int) + 1))) = _
    rw [w64 (by omega) (by omega)]; rfl
  · conv => whnf
end Go.Proofs.YtjhblbipjljojaaDoor
