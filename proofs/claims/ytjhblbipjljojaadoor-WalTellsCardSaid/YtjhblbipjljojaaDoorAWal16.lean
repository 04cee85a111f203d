/- What the reference's Append, Sync, Wipe and Mark of the package wal compute: told without addresses. No claim of its own. -/
import Derived.Test.YtjhblbipjljojaaDoorAWal15
namespace Go.Proofs.YtjhblbipjljojaaDoor
open Go.Am

theorem rappend_pc (nl nw : Bool) (w : Gw.Wal.Wal) (p : List UInt8) (hn : w.next ≤ 1000001) (hl : w.waits.length ≤ 1000001) : PC Tryd.prog 51 [encW nl nw w, .str p] (appendV nl nw w p) := by
  unfold appendV Gw.Wal.append
  have hel := encSL_len w.waits
  refine PC.ofS tabOk mixed (fn := Tryd.f51) (by kernel_rfl) rfl (by kernel_rfl) rfl rfl ?_
  conv => whnf
  by_cases h : 40000 < p.length
  · rw [if_pos (.inl h), if_pos (.inl h)]
    refine ⟨fun _ => ?_, fun h => absurd h (by simp; first | done | omega | fail "x")⟩
    conv => whnf
    repeat (first | refine ⟨fun _ => ?_, fun h => absurd h (by decide)⟩ | refine ⟨fun h => absurd h (by decide), fun _ => ?_⟩ | refine ⟨fun _ => ?_, fun h => absurd (show true = false from h) (by decide)⟩ | refine ⟨fun h => absurd (show false = true from h) (by decide), fun _ => ?_⟩
            (conv => whnf))
    exact SubV.refl _
  refine ⟨fun h => absurd h (by simp; first | done | omega | fail "x"), fun _ => ?_⟩
  by_cases h2 : 1000000 < w.next
  · rw [if_pos (.inr h2), if_pos (.inr h2)]
    conv => whnf
    refine ⟨fun _ => ?_, fun h => absurd h (by simp; first | done | omega | fail "x")⟩
    conv => whnf
    exact SubV.refl _
  rw [if_neg (by omega), if_neg (by omega)]
  conv => whnf
  refine ⟨fun h => absurd h (by simp; first | done | omega | fail "x"), fun _ => ?_⟩
  have hsn : encSL (w.waits ++ [p]) = encSL w.waits ++ [[.str p]] := by simp [encSL]
  conv => whnf
  refine ⟨fits_small (by show 0 + (encSL w.waits).length ≤ _; omega) (by decide), ?_⟩
  conv => whnf
  refine ⟨⟨Nat.zero_add _, fits_small (by show (encSL w.waits).length + 1 ≤ _; omega) (by decide)⟩, ?_⟩
  conv => whnf
  rw [w64 (x := (w.next : Int) + 1) (by omega) (by omega)]
  refine SubV.of_eq ?_
  show V.tup [V.agg [.int .i64 w.disk.size, .str w.disk.firm.data.toList, .lst nl 2 (w.disk.loose.map encP) .none, .int .i64 w.seq, .int .i64 w.base, .int .i64 ((w.next : Int) + 1), .int .i64 w.end_, .int .i64 w.spilled, .int .i64 w.kept,
    .lst false 1 (encSL w.waits ++ [[.str p]]) .none, .bool w.dirty, .int .i64 w.marked, .int .i64 w.markNext, .int .i64 w.markMany], .int .i64 w.next, .int .i64 0] = V.tup [encW nl false _, _, _]
  unfold encW walC
  simp only [hsn]
  rfl
theorem rflushW_pc {w : Gw.Wal.Wal} {R : List (List UInt8)} {st mst : List UInt8} (h : Gw.Wal.Inv w R st mst) (nl : Bool) (hl : w.disk.loose.length ≤ 1000000) : PC Tryd.prog 50 [encD nl w.disk] (encD true (Gw.Disk.flush w.disk)) := by
  have h0 := h.size0
  have h1 := h.small
  have := rflush_pc nl w.disk (by unfold I64; omega) (by omega) (by omega)
  rw [if_pos h.chk] at this
  exact this
theorem rsync_pc {w : Gw.Wal.Wal} {R : List (List UInt8)} {st mst : List UInt8} (h : Gw.Wal.Inv w R st mst) (nl nw : Bool) (hl : w.disk.loose.length ≤ 1000000) : PC Tryd.prog 53 [encW nl nw w] (syncV nw w) := by
  have hfl := rflushW_pc h nl hl
  have hb := h.big
  have hx := h.nxt
  have hmk := h.mkk
  unfold syncV Gw.Wal.sync
  generalize Gw.Disk.flush w.disk = D at *
  refine PC.ofS tabOk mixed (fn := Tryd.f53) (by kernel_rfl) rfl (by kernel_rfl) rfl rfl ?_
  conv => whnf
  refine AC.of_pc hfl rfl ?_
  conv => whnf
  refine ⟨fun h1 => ?_, fun h1 => ?_⟩
  · have h1 : w.marked ≠ 0 := by
      intro e; rw [e] at h1; simp at h1
    rw [if_neg h1]
    obtain ⟨k1, k2, k3, k4, k5, k6⟩ := hmk h1
    conv => whnf
    rw [w64 (x := (w.markNext : Int) - 1) (by omega) (by omega), show max (w.spilled : Int) ((w.markNext : Int) - 1) = ((max w.spilled (w.markNext - 1) : Nat) : Int) by omega]
    exact SubV.refl _
  · have h1 : w.marked = 0 := by simpa using h1
    rw [if_pos h1]
    conv => whnf
    exact SubV.refl _
theorem rcalm_pc {w : Gw.Wal.Wal} {R : List (List UInt8)} {st mst : List UInt8} (h : Gw.Wal.Inv w R st mst) (nl nw : Bool) (hl : w.disk.loose.length ≤ 1000000) : PC Tryd.prog 81 [encW nl nw w] (encW (if w.dirty = true then true else nl) nw (Gw.Wal.settle w)) := by
  have hfl := rflushW_pc h nl hl
  unfold Gw.Wal.settle
  generalize Gw.Disk.flush w.disk = D at *
  refine PC.ofS tabOk mixed (fn := Tryd.f81) (by kernel_rfl) rfl (by kernel_rfl) rfl rfl ?_
  conv => whnf
  refine ⟨fun h1 => ?_, fun h1 => ?_⟩
  · rw [if_pos h1, if_pos h1]
    conv => whnf
    refine AC.of_pc hfl rfl ?_
    conv => whnf
    exact SubV.refl _
  · rw [if_neg (by rw [h1]; simp), if_neg (by rw [h1]; simp)]
    conv => whnf
    refine SubV.of_eq ?_
    rfl
theorem rwwrite_pc (nl : Bool) (d : Gw.Disk.Disk) (hc : Gw.Disk.check d = true) (hl : d.loose.length ≤ 1000000) (a k : Nat) (s : List UInt8) (hk : s.length = 16 * k) (h : ((a + k : Nat) : Int) ≤ d.size) :
    PC Tryd.prog 42 [encD nl d, .int .i64 a, .str s] (.tup [encD false (Gw.Disk.write d (a : Int) (Gw.Wal.ba s)), .int .i64 0]) := by
  obtain ⟨z1, z2, _, _⟩ := Gw.Disk.check_spec hc
  have h1 := Gw.Wal.write_spec hc a k s hk h
  have h2 := rwrite_pc nl d (a : Int) (Gw.Wal.ba s) (by unfold I64; omega) (by omega) (by unfold I64; omega) (by omega) (by rw [Gw.Wal.ba_size]; omega)
  rw [h1.1, if_pos rfl] at h2
  exact h2
def rwipeV (nl nw : Bool) (w : Gw.Wal.Wal) : V := .tup [encW (if w.marked ≠ 2 then nl else false) (if w.marked ≠ 2 then nw else false) (Gw.Wal.wipe w).1, .int .i64 ((Gw.Wal.wipe w).2 : Nat)]
set_option maxHeartbeats 1000000 in
theorem rwipe_pc {w : Gw.Wal.Wal} {R : List (List UInt8)} {st mst : List UInt8} (h : Gw.Wal.Inv w R st mst) (nl nw : Bool) (hl : w.disk.loose.length ≤ 1000000) : PC Tryd.prog 55 [encW nl nw w] (rwipeV nl nw w) := by
  obtain ⟨N, e1, e2, e3, e4, e5⟩ := wal_sizes h
  have hz := rzeros_pc (N - 2 * (N / 4)) (by omega)
  have hwr := rwwrite_pc nl w.disk h.chk hl (2 * (N / 4)) (N - 2 * (N / 4)) (Gw.Wal.zeros (N - 2 * (N / 4))) (Gw.Wal.zeros_len _) (by omega)
  have hsz : w.disk.size.toNat - 2 * (N / 4) = N - 2 * (N / 4) := by omega
  have hbig := h.big
  have hnx := h.nxt
  have hmk := h.mkk
  have hsq := h.seq2
  have hel := encSL_len w.waits
  have v1 : IntKind.i64.wrap (2 * IntKind.i64.wrap (w.disk.size.tdiv 4)) = ((2 * (N / 4) : Nat) : Int) := by rw [e1, tdiv_pos (by omega), w64 (x := (N : Int) / 4) (by omega) (by omega), w64 (by omega) (by omega)]; omega
  have hsub : IntKind.i64.wrap (w.disk.size - IntKind.i64.wrap (2 * IntKind.i64.wrap (w.disk.size.tdiv 4))) = ((N - 2 * (N / 4) : Nat) : Int) := by rw [v1, w64 (by omega) (by omega)]; omega
  unfold rwipeV Gw.Wal.wipe
  rw [e4, hsz]
  generalize Gw.Disk.write w.disk _ _ = D at *
  rw [← v1] at hwr
  rw [← hsub] at hz
  refine PC.ofS tabOk mixed (fn := Tryd.f55) (by kernel_rfl) rfl (by kernel_rfl) rfl rfl ?_
  conv => whnf
  refine ⟨fun h1 => ?_, fun h1 => ?_⟩
  · have h1 : w.marked ≠ 2 := by
      intro e; rw [e] at h1; simp at h1
    rw [if_pos h1, if_pos h1, if_pos h1]
    conv => whnf
    exact SubV.refl _
  have h1 : w.marked = 2 := by
    have : ((w.marked : Nat) : Int) = 2 := by simpa using h1
    omega
  obtain ⟨k1, k2, k3, k4, k5, k6⟩ := hmk (by omega)
  rw [if_neg (by omega), if_neg (by omega), if_neg (by omega)]
  conv => whnf
  refine ⟨show 0 ≤ (w.markMany : Int) ∧ ((w.markMany : Int)).toNat ≤ (encSL w.waits).length from ⟨by omega, by omega⟩, ?_⟩
  have hdr : (encSL w.waits).drop ((w.markMany : Int)).toNat = encSL (w.waits.drop w.markMany) := by rw [Int.toNat_natCast]; unfold encSL; rw [List.map_drop]
  conv => whnf
  refine ⟨fits_small (by show 0 + ((encSL w.waits).drop _).length ≤ _; rw [List.length_drop]; omega) (by decide), ?_⟩
  conv => whnf
  refine ⟨_, rfl, hz, ?_⟩
  conv => whnf
  refine ⟨_, rfl, hwr, ?_⟩
  conv => whnf
  refine ⟨by kernel_rfl, ?_⟩
  conv => whnf
  rw [v1, w64 (x := (w.seq : Int) + 1) (by omega) (by omega), w64 (x := (w.markNext : Int) - 1) (by omega) (by omega)]
  refine SubV.of_eq ?_
  show V.tup [V.agg [.int .i64 D.size, .str D.firm.data.toList, .lst false 2 (D.loose.map encP) .none, .int .i64 ((w.seq : Int) + 1), .int .i64 w.markNext, .int .i64 w.next, .int .i64 (2 * (N / 4) : Nat), .int .i64 (max (w.spilled : Int) ((w.markNext : Int) - 1)), .int .i64 w.kept,
    .lst false 1 ((encSL w.waits).drop ((w.markMany : Int)).toNat) .none, .bool true, .int .i64 0, .int .i64 0, .int .i64 0], .int .i64 0] = V.tup [encW false false _, _]
  rw [show max (w.spilled : Int) ((w.markNext : Int) - 1) = ((max w.spilled (w.markNext - 1) : Nat) : Int) by omega, hdr]
  rfl
end Go.Proofs.YtjhblbipjljojaaDoor
