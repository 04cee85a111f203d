/- What the small functions of the package wal compute: told without addresses. No claim of its own. -/
import Derived.Test.YtjhblbipjljojaaDoorADiskM
import Derived.Test.YtjhblbipjljojaaDoorARecM
import Derived.Test.YtjhblbipjljojaaDoorWalPl
import Derived.Test.YtjhblbipjljojaaDoorABld
namespace Go.Proofs.YtjhblbipjljojaaDoor
open Go.Am

def walC (nl nw : Bool) (w : Gw.Wal.Wal) : List V := [.int .i64 w.disk.size, .str w.disk.firm.data.toList, .lst nl 2 (w.disk.loose.map encP) .none, .int .i64 w.seq, .int .i64 w.base, .int .i64 w.next, .int .i64 w.end_, .int .i64 w.spilled, .int .i64 w.kept,
  .lst nw 1 (encSL w.waits) .none, .bool w.dirty, .int .i64 w.marked, .int .i64 w.markNext, .int .i64 w.markMany]
def encW (nl nw : Bool) (w : Gw.Wal.Wal) : V := .agg (walC nl nw w)

theorem slotSize_pc (n : Nat) (h : n ≤ 1000000) : PC Tryd.prog 37 [.int .i64 n] (.int .i64 (n / 4 : Nat)) := by
  refine PC.of tabOk mixed (fn := Tryd.f37) (by kernel_rfl) rfl (by kernel_rfl) rfl rfl ?_
  conv => whnf
  rw [tdiv_pos (by omega), w64 (by omega) (by omega)]
  rfl
theorem slotOf_pc (n q : Nat) (h : n ≤ 1000000) (hq : q ≤ 1000000) : PC Tryd.prog 36 [.int .i64 n, .int .i64 q] (.int .i64 (if q % 2 = 1 then n / 4 else 0 : Nat)) := by
  refine PC.of tabOk mixed (fn := Tryd.f36) (by kernel_rfl) rfl (by kernel_rfl) rfl rfl ?_
  have e : ((q : Int)).tmod 2 = (q % 2 : Nat) := by rw [tmod_pos (by omega)]; omega
  conv => whnf
  rw [e]
  refine ⟨fun h1 => ?_, fun h1 => ?_⟩
  · have h1 : q % 2 = 1 := by
      rcases Nat.mod_two_eq_zero_or_one q with e | e
      · rw [e] at h1; simp at h1
      · exact e
    rw [if_pos h1]
    conv => whnf
    refine AC.of_pc (slotSize_pc n h) rfl ?_
    conv => whnf
  · have h1 : ¬ q % 2 = 1 := by
      intro e; rw [e] at h1; simp at h1
    rw [if_neg h1]
    conv => whnf
    rfl
theorem start_pc (n : Nat) (h : n ≤ 1000000) : PC Tryd.prog 30 [.int .i64 n] (.int .i64 (2 * (n / 4) : Nat)) := by
  refine PC.of tabOk mixed (fn := Tryd.f30) (by kernel_rfl) rfl (by kernel_rfl) rfl rfl ?_
  conv => whnf
  refine AC.of_pc (slotSize_pc n h) rfl ?_
  conv => whnf
  rw [w64 (by omega) (by omega)]
  congr 1
theorem wzeros_pc (n : Nat) (h : n ≤ 65536) : PC Tryd.prog 35 [.int .i64 n] (.str (Gw.Wal.zeros n)) := by
  refine PC.of tabOk mixed (fn := Tryd.f35) (by kernel_rfl) rfl (by kernel_rfl) rfl rfl ?_
  conv => whnf
  have hw : IntKind.i64.wrap ((n : Int) * 16) = ((n * 16 : Nat) : Int) := by rw [w64 (by omega) (by omega)]; omega
  rw [hw]
  refine ⟨⟨by omega, rfl, fits_small (by rw [Int.toNat_natCast]; omega) (by decide)⟩, ?_⟩
  conv => whnf
  refine ⟨Gw.Wal.zeros n, ?_, ?_⟩
  · show 0 + ((n * 16 : Nat) : Int).toNat ≤ (repl ((n * 16 : Nat) : Int).toNat [V.int .u8 0]).length ∧ ((repl ((n * 16 : Nat) : Int).toNat [V.int .u8 0]).drop 0).take ((n * 16 : Nat) : Int).toNat = _
    rw [repl_bytes, Int.toNat_natCast]
    exact bytesV_all' (by simp)
  conv => whnf
theorem text_one (b : Nat) : [] ++ Gw.Vlq.many ([(b : Int)].map Int.toNat) = Gw.Vlq.one b := by simp [Gw.Vlq.many]
theorem markText_pc (b : Nat) (st : List UInt8) (hb : b ≤ 1000001) (hs : st.length ≤ 200) : PC Tryd.prog 45 [.int .i64 b, .str st] (.tup [.str (Gw.Wal.markText b st), .int .i64 0]) := by
  have h1 := vput_pc [] false [(b : Int)] (by simp; omega) (by simp)
  rw [text_one b] at h1
  have h3 := Gw.Rec.one_le (n := b) (by omega)
  have h2 := vtext_pc (Gw.Vlq.one b) st (by omega)
  have h4 := Gw.Wal.markText_len hb hs
  refine PC.of tabOk mixed (fn := Tryd.f45) (by kernel_rfl) rfl (by kernel_rfl) rfl rfl ?_
  conv => whnf
  refine AC.of_pc h1 rfl ?_
  conv => whnf
  refine AC.of_pc h2 rfl ?_
  conv => whnf
  refine ⟨fun h => absurd h (by decide), fun _ => ?_⟩
  conv => whnf
  refine ⟨fun h => ?_, fun _ => ?_⟩
  · have h := of_decide_eq_true h
    have h5 : (Gw.Vlq.text (Gw.Vlq.one b) st).length ≤ 300 := h4
    omega
  conv => whnf
  rfl
def tmV (o : Option (Nat × List UInt8)) : V := match o with
  | none => .tup [.int .i64 0, .str [], .bool false]
  | some (b, st) => .tup [.int .i64 b, .str st, .bool true]
theorem takeMark_pc (s : List UInt8) (q : Nat) (hs : s.length ≤ 1048576) : PC Tryd.prog 64 [.str s, .int .i64 q] (tmV (Gw.Wal.takeMark s q)) := by
  have h1 := recTake_pc s (q : Int) hs
  unfold Gw.Wal.takeMark
  have hb : ∀ p k, Gw.Rec.take s (q : Int) = some (p, k) → p.length ≤ 40000 := fun p k h => (Gw.Rec.may_iff.1 (Gw.Rec.take_more h).1).2.2
  refine PC.of tabOk mixed (fn := Tryd.f64) (by kernel_rfl) rfl (by kernel_rfl) rfl rfl ?_
  conv => whnf
  refine AC.of_pc h1 rfl ?_
  rcases ht : Gw.Rec.take s (q : Int) with _ | ⟨p, k⟩
  · simp only [recTookV]
    conv => whnf
    repeat (first | refine ⟨fun _ => ?_, fun h => absurd h (by decide)⟩ | refine ⟨fun h => absurd h (by decide), fun _ => ?_⟩ | refine ⟨fun _ => ?_, fun h => absurd (show true = false from h) (by decide)⟩ | refine ⟨fun h => absurd (show false = true from h) (by decide), fun _ => ?_⟩
            (conv => whnf))
    rfl
  have hpl := hb p k ht
  simp only [recTookV]
  conv => whnf
  repeat (first | refine ⟨fun _ => ?_, fun h => absurd h (by decide)⟩ | refine ⟨fun h => absurd h (by decide), fun _ => ?_⟩ | refine ⟨fun _ => ?_, fun h => absurd (show true = false from h) (by decide)⟩ | refine ⟨fun h => absurd (show false = true from h) (by decide), fun _ => ?_⟩
          (conv => whnf))
  have h2 := vtake_pc p (by omega)
  unfold Gw.Wal.markOf
  refine AC.of_pc h2 rfl ?_
  unfold tookV
  rcases hv : Gw.Vlq.take p with _ | ⟨b, u⟩
  · simp only
    conv => whnf
    repeat (first | refine ⟨fun _ => ?_, fun h => absurd h (by decide)⟩ | refine ⟨fun h => absurd h (by decide), fun _ => ?_⟩ | refine ⟨fun _ => ?_, fun h => absurd (show true = false from h) (by decide)⟩ | refine ⟨fun h => absurd (show false = true from h) (by decide), fun _ => ?_⟩
            (conv => whnf))
    rfl
  simp only
  have hbb := (Gw.Vlq.takeF_some p 0 0 b u (by omega) hv).2.2
  conv => whnf
  repeat (first | refine ⟨fun _ => ?_, fun h => absurd h (by decide)⟩ | refine ⟨fun h => absurd h (by decide), fun _ => ?_⟩ | refine ⟨fun _ => ?_, fun h => absurd (show true = false from h) (by decide)⟩ | refine ⟨fun h => absurd (show false = true from h) (by decide), fun _ => ?_⟩
          (conv => whnf))
  refine ⟨fun h => ?_, fun h => ?_⟩
  · have h := of_decide_eq_true h
    have hx : ∀ (st rest : List UInt8), ¬ (rest = [] ∧ 1 ≤ b ∧ b ≤ 1000001) := fun st rest hh => by omega
    conv => whnf
    repeat (first | refine ⟨fun _ => ?_, fun h => absurd h (by decide)⟩ | refine ⟨fun h => absurd h (by decide), fun _ => ?_⟩ | refine ⟨fun _ => ?_, fun h => absurd (show true = false from h) (by decide)⟩ | refine ⟨fun h => absurd (show false = true from h) (by decide), fun _ => ?_⟩
            (conv => whnf))
    rcases Gw.Rec.takeT (p.drop u) with _ | ⟨st, rest⟩
    · rfl
    · simp only
      rw [if_neg (hx st rest)]
      rfl
  have h := of_decide_eq_false h
  conv => whnf
  refine ⟨fun h3 => ?_, fun h3 => ?_⟩
  · have h3 := of_decide_eq_true h3
    have hx : ∀ (st rest : List UInt8), ¬ (rest = [] ∧ 1 ≤ b ∧ b ≤ 1000001) := fun st rest hh => by omega
    conv => whnf
    rcases Gw.Rec.takeT (p.drop u) with _ | ⟨st, rest⟩
    · rfl
    · simp only
      rw [if_neg (hx st rest)]
      rfl
  have h3 := of_decide_eq_false h3
  have h4 := vtakeText_pc (p.drop u) (by rw [List.length_drop]; omega)
  rw [tookT_eq] at h4
  conv => whnf
  refine AC.of_pc h4 rfl ?_
  rcases Gw.Rec.takeT (p.drop u) with _ | ⟨st, rest⟩
  · simp only
    conv => whnf
    repeat (first | refine ⟨fun _ => ?_, fun h => absurd h (by decide)⟩ | refine ⟨fun h => absurd h (by decide), fun _ => ?_⟩ | refine ⟨fun _ => ?_, fun h => absurd (show true = false from h) (by decide)⟩ | refine ⟨fun h => absurd (show false = true from h) (by decide), fun _ => ?_⟩
            (conv => whnf))
    rfl
  simp only
  conv => whnf
  repeat (first | refine ⟨fun _ => ?_, fun h => absurd h (by decide)⟩ | refine ⟨fun h => absurd h (by decide), fun _ => ?_⟩ | refine ⟨fun _ => ?_, fun h => absurd (show true = false from h) (by decide)⟩ | refine ⟨fun h => absurd (show false = true from h) (by decide), fun _ => ?_⟩
          (conv => whnf))
  refine ⟨fun h5 => ?_, fun h5 => ?_⟩
  · have h5 : ¬ rest = [] := by simpa using h5
    rw [if_neg (fun h => h5 h.1)]
    conv => whnf
    rfl
  · have h5 : rest = [] := by simpa using h5
    rw [if_pos ⟨h5, by omega, by omega⟩]
    conv => whnf
    rfl
end Go.Proofs.YtjhblbipjljojaaDoor


namespace Go.Proofs.YtjhblbipjljojaaDoor
open Go.Am

def bestV (o : Option (Nat × Nat × List UInt8)) : V := match o with
  | none => .tup [.int .i64 0, .int .i64 0, .str []]
  | some (q, b, st) => .tup [.int .i64 q, .int .i64 b, .str st]
def bQ (o : Option (Nat × Nat × List UInt8)) : Nat := match o with | none => 0 | some x => x.1
def bB (o : Option (Nat × Nat × List UInt8)) : Nat := match o with | none => 0 | some x => x.2.1
def bS (o : Option (Nat × Nat × List UInt8)) : List UInt8 := match o with | none => [] | some x => x.2.2
theorem bestV_eq (o : Option (Nat × Nat × List UInt8)) : bestV o = .tup [.int .i64 (bQ o), .int .i64 (bB o), .str (bS o)] := by
  cases o <;> rfl
/-- What was found in the first i slots. -/
def fnd (s0 s1 : List UInt8) (i : Nat) : Option (Nat × Nat × List UInt8) := if i = 0 then none else if i = 1 then Gw.Wal.slotIn s0 0 else Gw.Wal.better (Gw.Wal.slotIn s0 0) (Gw.Wal.slotIn s1 1)
theorem slotIn_none {s : List UInt8} {i : Nat} (h : ∀ q, 1 ≤ q → q ≤ 200 → q % 2 = i → Gw.Wal.takeMark s q = none) : Gw.Wal.slotIn s i = none := by
  rcases hs : Gw.Wal.slotIn s i with _ | ⟨q, b, st⟩
  · rfl
  · obtain ⟨h1, h2, h3, h4⟩ := Gw.Wal.slotIn_iff.1 hs
    rw [h q h1 h2 h3] at h4; cases h4
theorem fnd_keep {s0 s1 : List UInt8} {i : Nat} (hi : i < 2) (h : Gw.Wal.slotIn (if i = 0 then s0 else s1) i = none) : fnd s0 s1 (i + 1) = fnd s0 s1 i := by
  have : i = 0 ∨ i = 1 := by omega
  rcases this with rfl | rfl
  · rw [if_pos rfl] at h
    simp [fnd, h]
  · rw [if_neg (by decide)] at h
    simp only [fnd, h]
    cases Gw.Wal.slotIn s0 0 <;> rfl
theorem fnd_new {s0 s1 : List UInt8} {i q b : Nat} {st : List UInt8} (hi : i < 2) (hq : 1 ≤ q) (h : Gw.Wal.slotIn (if i = 0 then s0 else s1) i = some (q, b, st)) : fnd s0 s1 (i + 1) = if bQ (fnd s0 s1 i) < q then some (q, b, st) else fnd s0 s1 i := by
  have : i = 0 ∨ i = 1 := by omega
  rcases this with rfl | rfl
  · rw [if_pos rfl] at h
    simp [fnd, h, bQ]
    omega
  · rw [if_neg (by decide)] at h
    simp only [fnd, h]
    rcases Gw.Wal.slotIn s0 0 with _ | x
    · simp [Gw.Wal.better, bQ]; omega
    · simp [Gw.Wal.better, bQ]
theorem fnd_best {d : Gw.Disk.Disk} : fnd (Gw.Disk.read d 0 (Gw.Wal.slotSz d)) (Gw.Disk.read d (Gw.Wal.slotSz d) (Gw.Wal.slotSz d)) 2 = Gw.Wal.best d := rfl

theorem best_pc (nil : Bool) (d : Gw.Disk.Disk) (hc : Gw.Disk.check d = true) (hl : d.loose.length ≤ 1048576) : PC Tryd.prog 29 [encD nil d] (bestV (Gw.Wal.best d)) := by
  obtain ⟨z1, z2, _, _⟩ := Gw.Disk.check_spec hc
  have hr0 := read_pc nil d 0 (Gw.Wal.slotSz d) (by unfold I64; omega) (by unfold I64; omega) (by unfold I64 Gw.Wal.slotSz; omega) hl
  have hr1 := read_pc nil d (Gw.Wal.slotSz d) (Gw.Wal.slotSz d) (by unfold I64; omega) (by unfold I64 Gw.Wal.slotSz; omega) (by unfold I64 Gw.Wal.slotSz; omega) hl
  have hl0 : (Gw.Disk.read d 0 (Gw.Wal.slotSz d)).length ≤ 1048576 := by
    have := Gw.Wal.read_len hc 0 (Gw.Wal.slotSz d) (by unfold Gw.Wal.slotSz; omega)
    rw [show ((0 : Nat) : Int) = 0 from rfl] at this
    rw [this]; unfold Gw.Wal.slotSz; omega
  have hl1 : (Gw.Disk.read d (Gw.Wal.slotSz d) (Gw.Wal.slotSz d)).length ≤ 1048576 := by
    have := Gw.Wal.read_len hc (Gw.Wal.slotSz d) (Gw.Wal.slotSz d) (by unfold Gw.Wal.slotSz; omega)
    rw [this]; unfold Gw.Wal.slotSz; omega
  rw [← fnd_best]
  have hso := fun q (h : q ≤ 1000000) => slotOf_pc (d.size.toNat) q (by omega) h
  have hss := slotSize_pc (d.size.toNat) (by omega)
  have hsz : Gw.Wal.slotSz d = d.size.toNat / 4 := rfl
  rw [hsz] at hr0 hr1 hl0 hl1 ⊢
  obtain ⟨N, hN⟩ : ∃ N : Nat, d.size = (N : Int) := ⟨d.size.toNat, by omega⟩
  generalize Gw.Disk.read d 0 _ = s0 at *
  generalize Gw.Disk.read d _ _ = s1 at *
  generalize Gw.Disk.readErr d _ _ = e0 at hr0
  generalize Gw.Disk.readErr d _ _ = e1 at hr1
  rw [hN, Int.toNat_natCast] at hr0 hr1 hso hss
  obtain ⟨size, firm, loose⟩ := d
  simp only at hN
  subst hN
  have hr0 : PC Tryd.prog _ [.agg [.int .i64 (N : Int), .str firm.data.toList, .lst nil 2 (loose.map encP) .none], _, _] _ := hr0
  have hr1 : PC Tryd.prog _ [.agg [.int .i64 (N : Int), .str firm.data.toList, .lst nil 2 (loose.map encP) .none], _, _] _ := hr1
  show PC Tryd.prog _ [.agg [.int .i64 (N : Int), .str firm.data.toList, .lst nil 2 (loose.map encP) .none]] _
  rw [bestV_eq]
  refine PC.of tabOk mixed (fn := Tryd.f29) (by kernel_rfl) rfl (by kernel_rfl) rfl rfl ?_
  conv => whnf
  refine AW.loop (fun i : Nat => [(.tmp 1, .v (.ptr 0 0)), (.tmp 5, .v (.int .i64 (bQ (fnd s0 s1 i)))), (.tmp 6, .v (.int .i64 (bB (fnd s0 s1 i)))), (.tmp 7, .v (.str (bS (fnd s0 s1 i)))), (.tmp 15, .v (.int .i64 i)),
    (.blk 0, .box 25 [.int .i64 (N : Int), .str firm.data.toList, .lst nil 2 (loose.map encP) .none])]) 1 (fun i => i ≤ 2) (fun i => 2 - i) (by decide) 0 (by decide)
    ⟨rfl, rfl, rfl, rfl, rfl, rfl, rfl, rfl, rfl, rfl, rfl, rfl, trivial⟩ ?_
  rintro i hi
  refine ev_sound tabOk mixed _ _ _ _ ?_
  conv => whnf
  refine ⟨fun h => ?_, fun h => ?_⟩
  · have h := of_decide_eq_true h
    have hi2 : i < 2 := by omega
    conv => whnf
    refine ⟨_, rfl, hso i (by omega), ?_⟩
    conv => whnf
    refine ⟨_, rfl, hss, ?_⟩
    conv => whnf
    obtain ⟨s, e, hs, hsl, hread⟩ : ∃ s e, s = (if i = 0 then s0 else s1) ∧ s.length ≤ 1048576 ∧ PC Tryd.prog 31 [.agg [.int .i64 (N : Int), .str firm.data.toList, .lst nil 2 (loose.map encP) .none], .int .i64 ((if i % 2 = 1 then N / 4 else 0 : Nat) : Int), .int .i64 ((N / 4 : Nat) : Int)] (.tup [.str s, .int .i64 (e : Nat)]) := by
      have : i = 0 ∨ i = 1 := by omega
      rcases this with rfl | rfl
      · exact ⟨s0, e0, rfl, hl0, hr0⟩
      · exact ⟨s1, e1, rfl, hl1, hr1⟩
    refine ⟨_, rfl, hread, ?_⟩
    conv => whnf
    refine ⟨by kernel_rfl, ?_⟩
    conv => whnf
    have hfk := fnd_keep (s0 := s0) (s1 := s1) hi2
    have hfn := fun q b st => fnd_new (s0 := s0) (s1 := s1) (q := q) (b := b) (st := st) hi2
    rw [← hs] at hfk hfn
    refine AW.loop (fun k : Nat => [(.tmp 1, .v (.ptr 0 0)), (.tmp 5, .v (.int .i64 (bQ (fnd s0 s1 i)))), (.tmp 6, .v (.int .i64 (bB (fnd s0 s1 i)))), (.tmp 7, .v (.str (bS (fnd s0 s1 i)))), (.tmp 15, .v (.int .i64 i)), (.tmp 8, .v (.int .i64 i)), (.tmp 9, .v (.str s)), (.tmp 11, .v (.int .i64 (k + 1 : Nat))),
      (.blk 0, .box 25 [.int .i64 (N : Int), .str firm.data.toList, .lst nil 2 (loose.map encP) .none])]) 1 (fun k => k ≤ 200 ∧ ∀ q, 1 ≤ q → q ≤ k → q % 2 = i → Gw.Wal.takeMark s q = none) (fun k => 200 - k) (by decide) 0 ⟨by decide, fun q h1 h2 => by omega⟩
      ⟨rfl, rfl, rfl, rfl, rfl, rfl, rfl, rfl, rfl, rfl, rfl, rfl, rfl, rfl, rfl, rfl, rfl, rfl, trivial⟩ ?_
    rintro k ⟨hk, hno⟩
    have hw1 : IntKind.i64.wrap (((k + 1 : Nat) : Int) + 1) = ((k + 1 + 1 : Nat) : Int) := by rw [w64 (by omega) (by omega)]; omega
    have hwi : IntKind.i64.wrap ((i : Int) + 1) = ((i + 1 : Nat) : Int) := by rw [w64 (by omega) (by omega)]; omega
    have hmod : (((k + 1 : Nat) : Int)).tmod 2 = ((k + 1) % 2 : Nat) := by rw [tmod_pos (by omega)]; omega
    have hmark := takeMark_pc s (k + 1) hsl
    refine ev_sound tabOk mixed _ _ _ _ ?_
    conv => whnf
    refine ⟨fun h2 => ?_, fun h2 => ?_⟩
    · have h2 := of_decide_eq_true h2
      conv => whnf
      rw [hmod]
      refine ⟨fun h3 => ?_, fun h3 => ?_⟩
      · have h3 : (k + 1) % 2 ≠ i := by
          intro e; rw [e] at h3; simp at h3
        conv => whnf
        refine ⟨k + 1, ⟨by omega, fun q h4 h5 h6 => ?_⟩, by show 200 - (k + 1) < 200 - k; omega, rfl, rfl, rfl, rfl, rfl, rfl, rfl, rfl, rfl, rfl, rfl, rfl, rfl, rfl, ?_, rfl, rfl, rfl, trivial⟩
        · by_cases hq : q = k + 1
          · subst hq; exact absurd h6 h3
          · exact hno q h4 (by omega) h6
        · show C.v (V.int .i64 (IntKind.i64.wrap (((k + 1 : Nat) : Int) + 1))) = _
          rw [hw1]
      · have h3 : (k + 1) % 2 = i := by
          have : (((k + 1) % 2 : Nat) : Int) = (i : Int) := by simpa using h3
          omega
        conv => whnf
        refine AC.of_pc hmark rfl ?_
        rcases hm : Gw.Wal.takeMark s (k + 1) with _ | ⟨b, st⟩
        · simp only [tmV]
          conv => whnf
          repeat (first | refine ⟨fun _ => ?_, fun h => absurd h (by decide)⟩ | refine ⟨fun h => absurd h (by decide), fun _ => ?_⟩ | refine ⟨fun _ => ?_, fun h => absurd (show true = false from h) (by decide)⟩ | refine ⟨fun h => absurd (show false = true from h) (by decide), fun _ => ?_⟩
                  (conv => whnf))
          refine ⟨k + 1, ⟨by omega, fun q h4 h5 h6 => ?_⟩, by show 200 - (k + 1) < 200 - k; omega, rfl, rfl, rfl, rfl, rfl, rfl, rfl, rfl, rfl, rfl, rfl, rfl, rfl, rfl, ?_, rfl, rfl, rfl, trivial⟩
          · by_cases hq : q = k + 1
            · subst hq; exact hm
            · exact hno q h4 (by omega) h6
          · show C.v (V.int .i64 (IntKind.i64.wrap (((k + 1 : Nat) : Int) + 1))) = _
            rw [hw1]
        · have hin := hfn (k + 1) b st (by omega) (Gw.Wal.slotIn_iff.2 ⟨by omega, by omega, h3, hm⟩)
          simp only [tmV]
          conv => whnf
          repeat (first | refine ⟨fun _ => ?_, fun h => absurd h (by decide)⟩ | refine ⟨fun h => absurd h (by decide), fun _ => ?_⟩ | refine ⟨fun _ => ?_, fun h => absurd (show true = false from h) (by decide)⟩ | refine ⟨fun h => absurd (show false = true from h) (by decide), fun _ => ?_⟩
                  (conv => whnf))
          refine ⟨fun h4 => ?_, fun h4 => ?_⟩
          · have h4 := of_decide_eq_true h4
            rw [if_pos (by omega)] at hin
            conv => whnf
            refine ⟨i + 1, by omega, by show 2 - (i + 1) < 2 - i; omega, rfl, rfl, ?_, rfl, ?_, rfl, ?_, rfl, ?_, rfl, rfl, rfl, trivial⟩
            · rw [hin]; rfl
            · rw [hin]; rfl
            · rw [hin]; rfl
            · show C.v (V.int .i64 (IntKind.i64.wrap ((i : Int) + 1))) = _
              rw [hwi]
          · have h4 := of_decide_eq_false h4
            rw [if_neg (by omega)] at hin
            conv => whnf
            refine ⟨i + 1, by omega, by show 2 - (i + 1) < 2 - i; omega, rfl, rfl, ?_, rfl, ?_, rfl, ?_, rfl, ?_, rfl, rfl, rfl, trivial⟩
            · rw [hin]; rfl
            · rw [hin]; rfl
            · rw [hin]; rfl
            · show C.v (V.int .i64 (IntKind.i64.wrap ((i : Int) + 1))) = _
              rw [hwi]
    · have h2 := of_decide_eq_false h2
      have hin := hfk (slotIn_none fun q h4 h5 h6 => hno q h4 (by omega) h6)
      conv => whnf
      refine ⟨i + 1, by omega, by show 2 - (i + 1) < 2 - i; omega, rfl, rfl, ?_, rfl, ?_, rfl, ?_, rfl, ?_, rfl, rfl, rfl, trivial⟩
      · rw [hin]; rfl
      · rw [hin]; rfl
      · rw [hin]; rfl
      · show C.v (V.int .i64 (IntKind.i64.wrap ((i : Int) + 1))) = _
        rw [hwi]
  · have h := of_decide_eq_false h
    obtain rfl : i = 2 := by omega
    conv => whnf
end Go.Proofs.YtjhblbipjljojaaDoor


namespace Go.Proofs.YtjhblbipjljojaaDoor
open Go.Am

/-- The cells of a log, but for two empty slices. -/
theorem subW {c0 c1 a2 b2 c3 c4 c5 c6 c7 c8 a9 b9 c10 c11 c12 c13 : V} (h2 : SubV a2 b2) (h9 : SubV a9 b9) : SubV (.agg [c0, c1, a2, c3, c4, c5, c6, c7, c8, a9, c10, c11, c12, c13]) (.agg [c0, c1, b2, c3, c4, c5, c6, c7, c8, b9, c10, c11, c12, c13]) :=
  SubV.agg (.cons (.refl _) (.cons (.refl _) (.cons h2 (.cons (.refl _) (.cons (.refl _) (.cons (.refl _) (.cons (.refl _) (.cons (.refl _) (.cons (.refl _) (.cons h9 (.cons (.refl _) (.cons (.refl _) (.cons (.refl _) (.cons (.refl _) .nil))))))))))))))
theorem SubV.tup2 {a b c d : V} (h1 : SubV a b) (h2 : SubV c d) : SubV (.tup [a, c]) (.tup [b, d]) := SubV.tup (.cons h1 (.cons h2 .nil))
def newV (size : Int) : V := .tup [encW true true (Gw.Wal.new size).1, .int .i64 ((Gw.Wal.new size).2 : Nat)]
theorem new_parts (size : Int) : ∃ N : Nat, N ≤ 65536 ∧ (Gw.Disk.new size).size = (N : Int) ∧ Gw.Disk.check (Gw.Disk.new size) = true ∧ (Gw.Disk.new size).loose = [] := by
  refine ⟨(min (max size 0) 65536).toNat, by omega, by unfold Gw.Disk.new; simp only; omega, ?_, rfl⟩
  have h := Gw.Disk.check_new (min (max size 0) 65536).toNat (by omega) ⟨(List.replicate ((min (max size 0) 65536).toNat * 16) (0 : UInt8)).toArray⟩ (by show ((List.replicate ((min (max size 0) 65536).toNat * 16) (0 : UInt8)).toArray).size = _; simp)
  unfold Gw.Disk.new
  rw [show ((min (max size 0) 65536).toNat : Int) = min (max size 0) 65536 by omega] at h
  exact h
theorem wnew_pc (size : Int) : PC Tryd.prog 16 [.int .i64 size] (newV size) := by
  unfold newV Gw.Wal.new
  obtain ⟨N, hN, hs, hc, hlo⟩ := new_parts size
  have h1 := new_pc size
  have hmk := markText_pc 1 [] (by decide) (by decide)
  have hpk := pack_pc 1 (Gw.Wal.markText 1 [])
  have hmay := Gw.Wal.may_mark (q := 1) (b := 1) (st := []) (by decide) (by decide) (by decide) (by decide)
  have hmay : Gw.Rec.may 1 (Gw.Wal.markText 1 []) = true := hmay
  have e1 : Gw.Rec.pack 1 (Gw.Wal.markText 1 []) = Gw.Wal.markSecs 1 1 [] := by unfold Gw.Rec.pack; rw [if_pos hmay]; rfl
  have e2 : Gw.Rec.packErr 1 (Gw.Wal.markText 1 []) = 0 := by unfold Gw.Rec.packErr; rw [if_pos hmay]
  rw [e1, e2] at hpk
  have hlen : (Gw.Wal.markSecs 1 1 []).length = 16 := by decide
  have hss := slotSize_pc N (by omega)
  have hst := start_pc N (by omega)
  have hso := slotOf_pc N 1 (by omega) (by decide)
  have hsz : Gw.Wal.slotSz (Gw.Disk.new size) = N / 4 := by unfold Gw.Wal.slotSz; rw [hs, Int.toNat_natCast]
  have hso2 : Gw.Wal.slotOf (Gw.Disk.new size) 1 = N / 4 := by unfold Gw.Wal.slotOf; rw [hsz]; rfl
  have hst2 : Gw.Wal.start (Gw.Disk.new size) = 2 * (N / 4) := by unfold Gw.Wal.start; rw [hsz]
  rw [hsz, hso2, hst2]
  generalize Gw.Disk.new size = d at *
  have hwr := write_pc true d (N / 4 : Nat) (Gw.Wal.ba (Gw.Wal.markSecs 1 1 [])) (fun _ => hlo) (by rw [hs]; unfold I64; omega) (by unfold I64; omega) (by rw [hlo]; decide) (by rw [Gw.Wal.ba_size, hlen]; decide)
  rw [Gw.Wal.ba_list] at hwr
  have hgood := fun (h : 1 ≤ N / 4) => Gw.Wal.write_spec hc (N / 4) 1 (Gw.Wal.markSecs 1 1 []) hlen (by omega)
  have hfl : (N / 4 : Nat) ≥ 1 → PC Tryd.prog 26 [encD false (Gw.Disk.write d ((N / 4 : Nat) : Int) (Gw.Wal.ba (Gw.Wal.markSecs 1 1 [])))] (encD true (Gw.Disk.flush (Gw.Disk.write d ((N / 4 : Nat) : Int) (Gw.Wal.ba (Gw.Wal.markSecs 1 1 []))))) := fun h => by
    obtain ⟨_, g2, g3, g4, _⟩ := hgood h
    have := flush_pc false (Gw.Disk.write d ((N / 4 : Nat) : Int) (Gw.Wal.ba (Gw.Wal.markSecs 1 1 []))) (fun h => by cases h) (by rw [g2, hs]; unfold I64; omega) (by rw [g4, hlo]; decide)
    rw [if_pos g3] at this
    exact this
  have hwe : (N / 4 : Nat) ≥ 1 → Gw.Disk.writeErr d ((N / 4 : Nat) : Int) (Gw.Wal.ba (Gw.Wal.markSecs 1 1 [])) = 0 := fun h => (hgood h).1
  have hq : IntKind.i64.wrap (((Gw.Wal.markSecs 1 1 []).length : Int).tdiv 16) = 1 := by rw [hlen]; decide
  generalize Gw.Disk.write d _ (Gw.Wal.ba (Gw.Wal.markSecs 1 1 [])) = D at *
  generalize Gw.Disk.writeErr d _ (Gw.Wal.ba (Gw.Wal.markSecs 1 1 [])) = we at *
  generalize Gw.Wal.markSecs 1 1 [] = ms at *
  clear hgood e1
  obtain ⟨size', firm, loose⟩ := d
  simp only at hs hlo
  subst hs hlo
  have hwr : PC Tryd.prog 67 [.agg [.int .i64 (N : Int), .str firm.data.toList, .lst true 2 [] .none], .int .i64 (N / 4 : Nat), .str ms] _ := hwr
  have h1 : PC Tryd.prog _ [.int .i64 size] (.agg [.int .i64 (N : Int), .str firm.data.toList, .lst true 2 [] .none]) := h1
  refine PC.ofS tabOk mixed (fn := Tryd.f16) (by kernel_rfl) rfl (by kernel_rfl) rfl rfl ?_
  conv => whnf
  refine AC.of_pc h1 rfl ?_
  conv => whnf
  refine AC.of_pc hmk rfl ?_
  conv => whnf
  refine AC.of_pc hpk rfl ?_
  conv => whnf
  refine AC.of_pc hss rfl ?_
  conv => whnf
  rw [hq]
  rw [hlen]
  refine ⟨fun h => ?_, fun h => ?_⟩
  · have h := of_decide_eq_true h
    rw [if_pos (by omega)]
    conv => whnf
    exact SubV.tup2 (subW (.nil _ _ _) (.nil _ _ _)) (.refl _)
  have h := of_decide_eq_false h
  rw [if_neg (by omega)]
  have hfl := hfl (by omega)
  rw [hwe (by omega), if_pos rfl] at hwr
  conv => whnf
  refine ⟨_, rfl, hst, ?_⟩
  conv => whnf
  refine ⟨by kernel_rfl, by kernel_rfl, ?_⟩
  refine AC.of tabOk mixed (fn := Tryd.f34) (by kernel_rfl) rfl (by kernel_rfl) rfl rfl ?_
  conv => whnf
  refine ⟨by kernel_rfl, ?_⟩
  conv => whnf
  refine ⟨_, rfl, hso, ?_⟩
  conv => whnf
  refine .inr ⟨by kernel_rfl, by kernel_rfl, ?_⟩
  refine AC.of tabOk mixed (fn := Tryd.f66) (by kernel_rfl) rfl (by kernel_rfl) rfl rfl ?_
  conv => whnf
  refine AC.of_pc hwr rfl ?_
  conv => whnf
  repeat (first | refine ⟨fun _ => ?_, fun h => absurd h (by decide)⟩ | refine ⟨fun h => absurd h (by decide), fun _ => ?_⟩ | refine ⟨fun _ => ?_, fun h => absurd (show true = false from h) (by decide)⟩ | refine ⟨fun h => absurd (show false = true from h) (by decide), fun _ => ?_⟩
          (conv => whnf))
  refine ⟨by kernel_rfl, ?_⟩
  conv => whnf
  refine AC.of tabOk mixed (fn := Tryd.f47) (by kernel_rfl) rfl (by kernel_rfl) rfl rfl ?_
  conv => whnf
  refine AC.of_pc hfl rfl ?_
  conv => whnf
  exact SubV.tup2 (subW (.refl _) (.nil _ _ _)) (.refl _)
end Go.Proofs.YtjhblbipjljojaaDoor


namespace Go.Proofs.YtjhblbipjljojaaDoor
open Go.Am

def appendV (nl nw : Bool) (w : Gw.Wal.Wal) (p : List UInt8) : V := .tup [encW nl (if 40000 < p.length ∨ 1000000 < w.next then nw else false) (Gw.Wal.append w p).1, .int .i64 ((Gw.Wal.append w p).2.1 : Nat), .int .i64 ((Gw.Wal.append w p).2.2 : Nat)]
theorem append_pc (nl nw : Bool) (w : Gw.Wal.Wal) (p : List UInt8) (hn : w.next ≤ 1000001) (hl : w.waits.length ≤ 1000001) : PC Tryd.prog 24 [encW nl nw w, .str p] (appendV nl nw w p) := by
  unfold appendV Gw.Wal.append
  have hel := encSL_len w.waits
  refine PC.ofS tabOk mixed (fn := Tryd.f24) (by kernel_rfl) rfl (by kernel_rfl) rfl rfl ?_
  conv => whnf
  refine ⟨fun h => ?_, fun h => ?_⟩
  · have h := of_decide_eq_true h
    rw [if_pos (.inl (by omega)), if_pos (.inl (by omega))]
    conv => whnf
    repeat (first | refine ⟨fun _ => ?_, fun h => absurd h (by decide)⟩ | refine ⟨fun h => absurd h (by decide), fun _ => ?_⟩ | refine ⟨fun _ => ?_, fun h => absurd (show true = false from h) (by decide)⟩ | refine ⟨fun h => absurd (show false = true from h) (by decide), fun _ => ?_⟩
            (conv => whnf))
    exact SubV.refl _
  have h := of_decide_eq_false h
  conv => whnf
  refine ⟨fun h2 => ?_, fun h2 => ?_⟩
  · have h2 := of_decide_eq_true h2
    rw [if_pos (.inr (by omega)), if_pos (.inr (by omega))]
    conv => whnf
    exact SubV.refl _
  have h2 := of_decide_eq_false h2
  rw [if_neg (by omega), if_neg (by omega)]
  conv => whnf
  refine ⟨⟨by omega, by rw [Int.toNat_natCast]; exact Nat.le_refl _, rfl⟩, ?_⟩
  have htk : List.take (((encSL w.waits).length : Nat) : Int).toNat (encSL w.waits) = encSL w.waits := by rw [Int.toNat_natCast, List.take_length]
  have hsn : encSL (w.waits ++ [p]) = encSL w.waits ++ [[.str p]] := by simp [encSL]
  conv => whnf
  rw [htk]
  refine ⟨fits_small (by rw [hel]; show w.waits.length + 1 ≤ _; omega) (by decide), ?_⟩
  conv => whnf
  rw [w64 (x := (w.next : Int) + 1) (by omega) (by omega)]
  refine SubV.of_eq ?_
  show V.tup [V.agg [.int .i64 w.disk.size, .str w.disk.firm.data.toList, .lst nl 2 (w.disk.loose.map encP) .none, .int .i64 w.seq, .int .i64 w.base, .int .i64 ((w.next : Int) + 1), .int .i64 w.end_, .int .i64 w.spilled, .int .i64 w.kept,
    .lst (nw && false) 1 (encSL w.waits ++ [[.str p]]) .none, .bool w.dirty, .int .i64 w.marked, .int .i64 w.markNext, .int .i64 w.markMany], .int .i64 w.next, .int .i64 0] = V.tup [encW nl false _, _, _]
  unfold encW walC
  simp only [hsn, Bool.and_false]
  rfl
theorem cloneS_pc (nil : Bool) (els : List (List V)) (hn : nil = true → els = []) (hl : els.length ≤ 4294967296) : PC Tryd.prog 62 [.lst nil 1 els .none] (.lst nil 1 els .none) := by
  refine PC.ofS tabOk mixed (fn := Tryd.f62) (by kernel_rfl) rfl (by kernel_rfl) rfl rfl ?_
  conv => whnf
  refine ⟨fun h => ?_, fun h => ?_⟩
  · conv => whnf
    rw [h, hn h]
    exact SubV.nil _ _ _
  · conv => whnf
    refine ⟨fits_small (by simpa using hl) (by decide), ?_⟩
    conv => whnf
    rw [h]
    exact SubV.refl _
/-- A flush of a log's disk. -/
theorem wflush_pc {w : Gw.Wal.Wal} {R : List (List UInt8)} {st mst : List UInt8} (h : Gw.Wal.Inv w R st mst) (nl : Bool) (hn : nl = true → w.disk.loose = []) (hl : w.disk.loose.length ≤ 1000000) : PC Tryd.prog 26 [encD nl w.disk] (encD true (Gw.Disk.flush w.disk)) := by
  have h0 := h.size0
  have h1 := h.small
  have := flush_pc nl w.disk hn (by unfold I64; omega) (by omega)
  rw [if_pos h.chk] at this
  exact this
def syncV (nw : Bool) (w : Gw.Wal.Wal) : V := encW true nw (Gw.Wal.sync w)
theorem sync_pc {w : Gw.Wal.Wal} {R : List (List UInt8)} {st mst : List UInt8} (h : Gw.Wal.Inv w R st mst) (nl nw : Bool) (hn : nl = true → w.disk.loose = []) (hl : w.disk.loose.length ≤ 1000000) : PC Tryd.prog 23 [encW nl nw w] (syncV nw w) := by
  have hfl := wflush_pc h nl hn hl
  have hb := h.big
  have hx := h.nxt
  have hmk := h.mkk
  unfold syncV Gw.Wal.sync
  generalize Gw.Disk.flush w.disk = D at *
  refine PC.ofS tabOk mixed (fn := Tryd.f23) (by kernel_rfl) rfl (by kernel_rfl) rfl rfl ?_
  conv => whnf
  refine AC.of tabOk mixed (fn := Tryd.f34) (by kernel_rfl) rfl (by kernel_rfl) rfl rfl ?_
  conv => whnf
  refine AC.of tabOk mixed (fn := Tryd.f47) (by kernel_rfl) rfl (by kernel_rfl) rfl rfl ?_
  conv => whnf
  refine AC.of_pc hfl rfl ?_
  conv => whnf
  refine ⟨fun h1 => ?_, fun h1 => ?_⟩
  · have h1 : w.marked ≠ 0 := by
      intro e; rw [e] at h1; simp at h1
    rw [if_neg h1]
    obtain ⟨k1, k2, k3, k4, k5, k6⟩ := hmk h1
    conv => whnf
    refine ⟨by kernel_rfl, ?_⟩
    conv => whnf
    rw [w64 (x := (w.markNext : Int) - 1) (by omega) (by omega), show max (w.spilled : Int) ((w.markNext : Int) - 1) = ((max w.spilled (w.markNext - 1) : Nat) : Int) by omega]
    exact SubV.refl _
  · have h1 : w.marked = 0 := by simpa using h1
    rw [if_pos h1]
    conv => whnf
    exact SubV.refl _
end Go.Proofs.YtjhblbipjljojaaDoor


namespace Go.Proofs.YtjhblbipjljojaaDoor
open Go.Am

/-- The sizes of a log's disk. -/
theorem wal_sizes {w : Gw.Wal.Wal} {R : List (List UInt8)} {st mst : List UInt8} (h : Gw.Wal.Inv w R st mst) : ∃ N : Nat, w.disk.size = (N : Int) ∧ N ≤ 1000 ∧ Gw.Wal.slotSz w.disk = N / 4 ∧ Gw.Wal.start w.disk = 2 * (N / 4) ∧ ∀ q, Gw.Wal.slotOf w.disk q = if q % 2 = 1 then N / 4 else 0 := by
  have h0 := h.size0
  have h1 := h.small
  have hs : Gw.Wal.slotSz w.disk = w.disk.size.toNat / 4 := rfl
  refine ⟨w.disk.size.toNat, by omega, by omega, hs, ?_, fun q => ?_⟩
  · unfold Gw.Wal.start; rw [hs]
  · unfold Gw.Wal.slotOf; rw [hs]
/-- Whole sectors are written. -/
theorem wwrite_pc (nl : Bool) (d : Gw.Disk.Disk) (hc : Gw.Disk.check d = true) (hn : nl = true → d.loose = []) (hl : d.loose.length ≤ 1000000) (a k : Nat) (s : List UInt8) (hk : s.length = 16 * k) (h : ((a + k : Nat) : Int) ≤ d.size) :
    PC Tryd.prog 67 [encD nl d, .int .i64 a, .str s] (.tup [encD false (Gw.Disk.write d (a : Int) (Gw.Wal.ba s)), .int .i64 0]) := by
  obtain ⟨z1, z2, _, _⟩ := Gw.Disk.check_spec hc
  have h1 := Gw.Wal.write_spec hc a k s hk h
  have h2 := write_pc nl d (a : Int) (Gw.Wal.ba s) hn (by unfold I64; omega) (by unfold I64; omega) (by omega) (by rw [Gw.Wal.ba_size]; omega)
  rw [h1.1, if_pos rfl] at h2
  exact h2
def wipeV (nl nw : Bool) (w : Gw.Wal.Wal) : V := .tup [encW (if w.marked ≠ 2 then nl else false) nw (Gw.Wal.wipe w).1, .int .i64 ((Gw.Wal.wipe w).2 : Nat)]
set_option maxHeartbeats 1000000 in
theorem wipe_pc {w : Gw.Wal.Wal} {R : List (List UInt8)} {st mst : List UInt8} (h : Gw.Wal.Inv w R st mst) (nl nw : Bool) (hn : nl = true → w.disk.loose = []) (hnw : nw = true → w.waits = []) (hl : w.disk.loose.length ≤ 1000000) : PC Tryd.prog 25 [encW nl nw w] (wipeV nl nw w) := by
  obtain ⟨N, e1, e2, e3, e4, e5⟩ := wal_sizes h
  have hck := check_pc nl w.disk (by rw [e1]; unfold I64; omega) (by omega)
  rw [h.chk] at hck
  have hst := start_pc N (by omega)
  rw [← e1] at hst
  have hz := wzeros_pc (N - 2 * (N / 4)) (by omega)
  have hwr := wwrite_pc nl w.disk h.chk hn hl (2 * (N / 4)) (N - 2 * (N / 4)) (Gw.Wal.zeros (N - 2 * (N / 4))) (Gw.Wal.zeros_len _) (by omega)
  have hcl := cloneS_pc nw (encSL (w.waits.drop w.markMany)) (fun e => by rw [hnw e]; simp [encSL]) (by rw [encSL_len, List.length_drop]; have := h.nxt; have := h.big; omega)
  have hsz : w.disk.size.toNat - 2 * (N / 4) = N - 2 * (N / 4) := by omega
  have hbig := h.big
  have hnx := h.nxt
  have hmk := h.mkk
  have hsq := h.seq2
  have hel := encSL_len w.waits
  unfold wipeV Gw.Wal.wipe
  rw [e4, hsz]
  generalize Gw.Disk.write w.disk _ _ = D at *
  refine PC.ofS tabOk mixed (fn := Tryd.f25) (by kernel_rfl) rfl (by kernel_rfl) rfl rfl ?_
  conv => whnf
  refine ⟨fun h1 => ?_, fun h1 => ?_⟩
  · have h1 : w.marked ≠ 2 := by
      intro e; rw [e] at h1; simp at h1
    rw [if_pos h1, if_pos h1]
    conv => whnf
    repeat (first | refine ⟨fun _ => ?_, fun h => absurd h (by decide)⟩ | refine ⟨fun h => absurd h (by decide), fun _ => ?_⟩ | refine ⟨fun _ => ?_, fun h => absurd (show true = false from h) (by decide)⟩ | refine ⟨fun h => absurd (show false = true from h) (by decide), fun _ => ?_⟩
            (conv => whnf))
    exact SubV.refl _
  have h1 : w.marked = 2 := by
    have : ((w.marked : Nat) : Int) = 2 := by simpa using h1
    omega
  obtain ⟨k1, k2, k3, k4, k5, k6⟩ := hmk (by omega)
  rw [if_neg (by omega), if_neg (by omega)]
  conv => whnf
  refine AC.of_pc hck rfl ?_
  conv => whnf
  repeat (first | refine ⟨fun _ => ?_, fun h => absurd h (by decide)⟩ | refine ⟨fun h => absurd h (by decide), fun _ => ?_⟩ | refine ⟨fun _ => ?_, fun h => absurd (show true = false from h) (by decide)⟩ | refine ⟨fun h => absurd (show false = true from h) (by decide), fun _ => ?_⟩
          (conv => whnf))
  refine AC.of tabOk mixed (fn := Tryd.f34) (by kernel_rfl) rfl (by kernel_rfl) rfl rfl ?_
  conv => whnf
  refine AC.of_pc hst rfl ?_
  conv => whnf
  refine ⟨by kernel_rfl, ?_⟩
  conv => whnf
  refine ⟨show 0 ≤ min (max (w.markMany : Int) 0) ((encSL w.waits).length : Int) ∧ (min (max (w.markMany : Int) 0) ((encSL w.waits).length : Int)).toNat ≤ (encSL w.waits).length from ⟨by omega, by omega⟩, ?_⟩
  have hcl2 : PC Tryd.prog 62 [.lst nw 1 ((encSL w.waits).drop (min (max (w.markMany : Int) 0) ((encSL w.waits).length : Int)).toNat) .none] (.lst nw 1 (encSL (w.waits.drop w.markMany)) .none) := by
    rw [show (min (max (w.markMany : Int) 0) ((encSL w.waits).length : Int)).toNat = w.markMany by omega]
    have : (encSL w.waits).drop w.markMany = encSL (w.waits.drop w.markMany) := by unfold encSL; rw [List.map_drop]
    rw [this]
    exact hcl
  conv => whnf
  refine ⟨_, rfl, hcl2, ?_⟩
  conv => whnf
  refine ⟨by kernel_rfl, ?_⟩
  conv => whnf
  have hsub : IntKind.i64.wrap (w.disk.size - ((2 * (N / 4) : Nat) : Int)) = ((N - 2 * (N / 4) : Nat) : Int) := by rw [w64 (by omega) (by omega)]; omega
  rw [hsub]
  refine ⟨_, rfl, hz, ?_⟩
  conv => whnf
  refine .inr ⟨by kernel_rfl, by kernel_rfl, ?_⟩
  refine AC.of tabOk mixed (fn := Tryd.f66) (by kernel_rfl) rfl (by kernel_rfl) rfl rfl ?_
  conv => whnf
  refine AC.of_pc hwr rfl ?_
  conv => whnf
  repeat (first | refine ⟨fun _ => ?_, fun h => absurd h (by decide)⟩ | refine ⟨fun h => absurd h (by decide), fun _ => ?_⟩ | refine ⟨fun _ => ?_, fun h => absurd (show true = false from h) (by decide)⟩ | refine ⟨fun h => absurd (show false = true from h) (by decide), fun _ => ?_⟩
          (conv => whnf))
  refine ⟨by kernel_rfl, ?_⟩
  conv => whnf
  rw [w64 (x := (w.seq : Int) + 1) (by omega) (by omega), w64 (x := (w.markNext : Int) - 1) (by omega) (by omega)]
  refine SubV.of_eq ?_
  show V.tup [V.agg [.int .i64 D.size, .str D.firm.data.toList, .lst false 2 (D.loose.map encP) .none, .int .i64 ((w.seq : Int) + 1), .int .i64 w.markNext, .int .i64 w.next, .int .i64 (2 * (N / 4) : Nat), .int .i64 (max (w.spilled : Int) ((w.markNext : Int) - 1)), .int .i64 w.kept,
    .lst nw 1 (encSL (w.waits.drop w.markMany)) .none, .bool true, .int .i64 0, .int .i64 0, .int .i64 0], .int .i64 0] = V.tup [encW false nw _, _]
  rw [show max (w.spilled : Int) ((w.markNext : Int) - 1) = ((max w.spilled (w.markNext - 1) : Nat) : Int) by omega]
  rfl
/-- A log whose disk was flushed, if it was dirty. -/
theorem settle_parts {w : Gw.Wal.Wal} {R : List (List UInt8)} {st mst : List UInt8} (h : Gw.Wal.Inv w R st mst) (nl : Bool) (hn : nl = true → w.disk.loose = []) (hl : w.disk.loose.length ≤ 1000000) :
    Gw.Disk.check (Gw.Wal.settle w).disk = true ∧ (Gw.Wal.settle w).disk.size = w.disk.size ∧ ((if w.dirty = true then true else nl) = true → (Gw.Wal.settle w).disk.loose = []) ∧ (Gw.Wal.settle w).disk.loose.length ≤ 1000000 := by
  obtain ⟨h1, h2, h3⟩ := h.settle
  refine ⟨h1.chk, h3, ?_, ?_⟩
  · unfold Gw.Wal.settle
    split
    · intro _
      obtain ⟨l, e, _⟩ := h.flushed
      simp only [e]
    · exact hn
  · unfold Gw.Wal.settle
    split
    · obtain ⟨l, e, _⟩ := h.flushed
      simp only [e]
      decide
    · exact hl
theorem many_small {n : Nat} {p : List UInt8} (hn : n ≤ 1000001) (hp : p.length ≤ 400) : Gw.Rec.many (Gw.Rec.bytes n p) ≤ 50 := by
  have h1 := Gw.Rec.one_le (n := n) (by omega)
  have h2 := Gw.Rec.one_le (n := p.length) (by omega)
  have h3 := Gw.Rec.seal_len (Gw.Rec.body n p)
  have h4 : (Gw.Rec.body n p).length = (Gw.Vlq.one n).length + ((Gw.Vlq.one p.length).length + p.length) := by unfold Gw.Rec.body; rw [List.length_append, List.length_append, Nat.add_assoc]
  have h5 := Gw.Rec.one_le (n := (Gw.Sums.seal_ (Gw.Rec.body n p)).length) (by omega)
  have h6 : (Gw.Rec.bytes n p).length = (Gw.Vlq.one (Gw.Sums.seal_ (Gw.Rec.body n p)).length).length + (Gw.Sums.seal_ (Gw.Rec.body n p)).length := by rw [Gw.Rec.bytes_eq, List.length_append]
  unfold Gw.Rec.many
  omega
def markOk (w : Gw.Wal.Wal) (s : List UInt8) : Bool := decide (w.marked = 0) && (decide (w.seq < 200) && decide ((Gw.Wal.markSecs (w.seq + 1) w.next s).length / 16 ≤ Gw.Wal.slotSz w.disk))
def wmarkV (nl nw : Bool) (w : Gw.Wal.Wal) (s : List UInt8) : V := .tup [encW (if markOk w s = true then false else nl) nw (Gw.Wal.mark w s).1, .int .i64 ((Gw.Wal.mark w s).2 : Nat)]
set_option maxHeartbeats 2000000 in
theorem wmark_pc {w : Gw.Wal.Wal} {R : List (List UInt8)} {st mst : List UInt8} (h : Gw.Wal.Inv w R st mst) (nl nw : Bool) (s : List UInt8) (hs : s.length ≤ 200) (hn : nl = true → w.disk.loose = []) (hl : w.disk.loose.length ≤ 1000000) : PC Tryd.prog 21 [encW nl nw w, .str s] (wmarkV nl nw w s) := by
  obtain ⟨N, e1, e2, e3, e4, e5⟩ := wal_sizes h
  have hsq := h.seq2
  have hsq1 := h.seq1
  have hbig := h.big
  have hnx := h.nxt
  have hmt := markText_pc w.next s (by omega) hs
  have hpk := pack_pc ((w.seq + 1 : Nat) : Int) (Gw.Wal.markText w.next s)
  have hmay := Gw.Wal.may_mark (q := w.seq + 1) (b := w.next) (st := s) (by omega) (by omega) (by omega) hs
  have q1 : Gw.Rec.pack ((w.seq + 1 : Nat) : Int) (Gw.Wal.markText w.next s) = Gw.Wal.markSecs (w.seq + 1) w.next s := by unfold Gw.Rec.pack; rw [if_pos hmay, Int.toNat_natCast]; rfl
  have q2 : Gw.Rec.packErr ((w.seq + 1 : Nat) : Int) (Gw.Wal.markText w.next s) = 0 := by unfold Gw.Rec.packErr; rw [if_pos hmay]
  rw [q1, q2] at hpk
  have hss := slotSize_pc N (by omega)
  have hso := slotOf_pc N (w.seq + 1) (by omega) (by omega)
  rw [← e1] at hss hso
  rw [← e5] at hso
  have hlen := Gw.Wal.markSecs_len (w.seq + 1) w.next s
  have hdiv : (Gw.Wal.markSecs (w.seq + 1) w.next s).length / 16 = Gw.Wal.manyM (w.seq + 1) w.next s := by rw [hlen]; omega
  have hfl := wflush_pc h nl hn hl
  obtain ⟨p1, p2, p3, p4⟩ := settle_parts h nl hn hl
  have hroom := Gw.Wal.slots_room w.disk (w.seq + 1)
  have hwr := fun (hr : Gw.Wal.manyM (w.seq + 1) w.next s ≤ N / 4) => wwrite_pc (if w.dirty = true then true else nl) (Gw.Wal.settle w).disk p1 p3 p4 (Gw.Wal.slotOf w.disk (w.seq + 1)) (Gw.Wal.manyM (w.seq + 1) w.next s) (Gw.Wal.markSecs (w.seq + 1) w.next s) hlen (by rw [p2, e1]; rw [e3, e4] at hroom; omega)
  have hml : (Gw.Wal.markSecs (w.seq + 1) w.next s).length ≤ 10000 := by
    have h9 := many_small (n := w.seq + 1) (p := Gw.Wal.markText w.next s) (by omega) (by have := Gw.Wal.markText_len (b := w.next) (st := s) (by omega) hs; omega)
    rw [hlen]
    show 16 * Gw.Rec.many (Gw.Rec.bytes (w.seq + 1) (Gw.Wal.markText w.next s)) ≤ 10000
    omega
  have hel := encSL_len w.waits
  rw [← p2] at hso
  have hR1 : w.marked ≠ 0 → wmarkV nl nw w s = .tup [encW nl nw w, .int .i64 140] := fun h1 => by
    unfold wmarkV Gw.Wal.mark markOk
    rw [if_pos h1, decide_eq_false h1]; rfl
  have hR2 : w.marked = 0 → 200 ≤ w.seq → wmarkV nl nw w s = .tup [encW nl nw w, .int .i64 193] := fun h1 h2 => by
    unfold wmarkV Gw.Wal.mark markOk
    rw [if_neg (show ¬ w.marked ≠ 0 from fun e => e h1), if_pos h2, decide_eq_false (show ¬ w.seq < 200 by omega), Bool.false_and, Bool.and_false]; rfl
  have hR3 : w.marked = 0 → ¬ 200 ≤ w.seq → N / 4 < Gw.Wal.manyM (w.seq + 1) w.next s → wmarkV nl nw w s = .tup [encW nl nw w, .int .i64 120] := fun h1 h2 h3 => by
    unfold wmarkV Gw.Wal.mark markOk
    rw [hdiv, e3, if_neg (show ¬ w.marked ≠ 0 from fun e => e h1), if_neg h2, if_pos h3, decide_eq_false (show ¬ Gw.Wal.manyM (w.seq + 1) w.next s ≤ N / 4 by omega), Bool.and_false, Bool.and_false]; rfl
  have hR4 : w.marked = 0 → ¬ 200 ≤ w.seq → ¬ N / 4 < Gw.Wal.manyM (w.seq + 1) w.next s → wmarkV nl nw w s = .tup [encW false nw { Gw.Wal.settle w with disk := Gw.Disk.write (Gw.Wal.settle w).disk (Gw.Wal.slotOf w.disk (w.seq + 1)) (Gw.Wal.ba (Gw.Wal.markSecs (w.seq + 1) w.next s)), marked := 1, markNext := w.next, markMany := w.waits.length }, .int .i64 0] := fun h1 h2 h3 => by
    unfold wmarkV Gw.Wal.mark markOk
    rw [hdiv, e3, if_neg (show ¬ w.marked ≠ 0 from fun e => e h1), if_neg h2, if_neg h3, decide_eq_true h1, decide_eq_true (show w.seq < 200 by omega), decide_eq_true (show Gw.Wal.manyM (w.seq + 1) w.next s ≤ N / 4 by omega)]; rfl
  generalize wmarkV nl nw w s = RV at *
  have hse : Gw.Wal.settle w = if w.dirty = true then { w with disk := Gw.Disk.flush w.disk, dirty := false } else w := rfl
  generalize Gw.Wal.markSecs (w.seq + 1) w.next s = ms at *
  generalize Gw.Wal.manyM (w.seq + 1) w.next s = k at *
  generalize Gw.Wal.slotOf w.disk (w.seq + 1) = so at *
  refine PC.ofS tabOk mixed (fn := Tryd.f21) (by kernel_rfl) rfl (by kernel_rfl) rfl rfl ?_
  conv => whnf
  refine ⟨fun h1 => ?_, fun h1 => ?_⟩
  · have h1 : w.marked ≠ 0 := by
      intro e; rw [e] at h1; simp at h1
    rw [hR1 h1]
    conv => whnf
    exact SubV.refl _
  have h1 : w.marked = 0 := by simpa using h1
  conv => whnf
  refine ⟨fun h2 => ?_, fun h2 => ?_⟩
  · have h2 := of_decide_eq_true h2
    rw [hR2 h1 (by omega)]
    conv => whnf
    exact SubV.refl _
  have h2 := of_decide_eq_false h2
  conv => whnf
  refine AC.of_pc hmt rfl ?_
  conv => whnf
  repeat (first | refine ⟨fun _ => ?_, fun h => absurd h (by decide)⟩ | refine ⟨fun h => absurd h (by decide), fun _ => ?_⟩ | refine ⟨fun _ => ?_, fun h => absurd (show true = false from h) (by decide)⟩ | refine ⟨fun h => absurd (show false = true from h) (by decide), fun _ => ?_⟩
          (conv => whnf))
  have hw1 : IntKind.i64.wrap ((w.seq : Int) + 1) = ((w.seq + 1 : Nat) : Int) := by rw [w64 (by omega) (by omega)]; omega
  rw [hw1]
  refine AC.of_pc hpk rfl ?_
  conv => whnf
  repeat (first | refine ⟨fun _ => ?_, fun h => absurd h (by decide)⟩ | refine ⟨fun h => absurd h (by decide), fun _ => ?_⟩ | refine ⟨fun _ => ?_, fun h => absurd (show true = false from h) (by decide)⟩ | refine ⟨fun h => absurd (show false = true from h) (by decide), fun _ => ?_⟩
          (conv => whnf))
  refine AC.of_pc hss rfl ?_
  conv => whnf
  have hq : IntKind.i64.wrap ((ms.length : Int).tdiv 16) = (k : Nat) := by rw [hlen, tdiv_pos (by omega), w64 (by omega) (by omega)]; omega
  rw [hq]
  refine ⟨fun h3 => ?_, fun h3 => ?_⟩
  · have h3 := of_decide_eq_true h3
    rw [hR3 h1 (by omega) (by omega)]
    conv => whnf
    exact SubV.refl _
  have h3 := of_decide_eq_false h3
  rw [hR4 h1 (by omega) (by omega)]
  have hwr := hwr (by omega)
  conv => whnf
  refine AC.of tabOk mixed (fn := Tryd.f34) (by kernel_rfl) rfl (by kernel_rfl) rfl rfl ?_
  conv => whnf
  refine AC.of tabOk mixed (fn := Tryd.f58) (by kernel_rfl) rfl (by kernel_rfl) rfl rfl ?_
  conv => whnf
  refine ⟨fun hd => ?_, fun hd => ?_⟩
  · rw [hse, if_pos hd] at hwr hso
    rw [if_pos hd] at hwr
    rw [hse, if_pos hd]
    conv => whnf
    refine AC.of tabOk mixed (fn := Tryd.f47) (by kernel_rfl) rfl (by kernel_rfl) rfl rfl ?_
    conv => whnf
    refine AC.of_pc hfl rfl ?_
    conv => whnf
    rw [hw1]
    refine ⟨_, rfl, hso, ?_⟩
    conv => whnf
    refine .inr ⟨by kernel_rfl, by kernel_rfl, ?_⟩
    refine AC.of tabOk mixed (fn := Tryd.f66) (by kernel_rfl) rfl (by kernel_rfl) rfl rfl ?_
    conv => whnf
    refine AC.of_pc hwr rfl ?_
    conv => whnf
    repeat (first | refine ⟨fun _ => ?_, fun h => absurd h (by decide)⟩ | refine ⟨fun h => absurd h (by decide), fun _ => ?_⟩ | refine ⟨fun _ => ?_, fun h => absurd (show true = false from h) (by decide)⟩ | refine ⟨fun h => absurd (show false = true from h) (by decide), fun _ => ?_⟩
            (conv => whnf))
    refine ⟨by kernel_rfl, ?_⟩
    conv => whnf
    repeat (first | refine ⟨fun _ => ?_, fun h => absurd h (by decide)⟩ | refine ⟨fun h => absurd h (by decide), fun _ => ?_⟩ | refine ⟨fun _ => ?_, fun h => absurd (show true = false from h) (by decide)⟩ | refine ⟨fun h => absurd (show false = true from h) (by decide), fun _ => ?_⟩
            (conv => whnf))
    refine ⟨by kernel_rfl, ?_⟩
    conv => whnf
    rw [hel]
    exact SubV.refl _
  · have hd' : ¬ w.dirty = true := by rw [hd]; simp
    rw [hse, if_neg hd'] at hwr hso
    rw [if_neg hd'] at hwr
    rw [hse, if_neg hd']
    conv => whnf
    rw [hw1]
    refine ⟨_, rfl, hso, ?_⟩
    conv => whnf
    refine .inr ⟨by kernel_rfl, by kernel_rfl, ?_⟩
    refine AC.of tabOk mixed (fn := Tryd.f66) (by kernel_rfl) rfl (by kernel_rfl) rfl rfl ?_
    conv => whnf
    refine AC.of_pc hwr rfl ?_
    conv => whnf
    repeat (first | refine ⟨fun _ => ?_, fun h => absurd h (by decide)⟩ | refine ⟨fun h => absurd h (by decide), fun _ => ?_⟩ | refine ⟨fun _ => ?_, fun h => absurd (show true = false from h) (by decide)⟩ | refine ⟨fun h => absurd (show false = true from h) (by decide), fun _ => ?_⟩
            (conv => whnf))
    refine ⟨by kernel_rfl, ?_⟩
    conv => whnf
    repeat (first | refine ⟨fun _ => ?_, fun h => absurd h (by decide)⟩ | refine ⟨fun h => absurd h (by decide), fun _ => ?_⟩ | refine ⟨fun _ => ?_, fun h => absurd (show true = false from h) (by decide)⟩ | refine ⟨fun h => absurd (show false = true from h) (by decide), fun _ => ?_⟩
            (conv => whnf))
    refine ⟨by kernel_rfl, ?_⟩
    conv => whnf
    rw [hel]
    exact SubV.refl _
end Go.Proofs.YtjhblbipjljojaaDoor


namespace Go.Proofs.YtjhblbipjljojaaDoor
open Go.Am

theorem alls_bound {s : List UInt8} {n : Int} {l : List (List UInt8)} {m : Nat} (h : Gw.Rec.Alls s n l m) : 16 * m ≤ s.length ∧ l.length ≤ m := by
  induction h with
  | nil e => exact ⟨Nat.zero_le _, Nat.le_refl _⟩
  | @cons s n p k l m e _ ih =>
    have := Gw.Rec.take_bound e
    rw [List.length_drop] at ih
    rw [List.length_cons]
    omega
theorem best_bounds {d : Gw.Disk.Disk} {q b : Nat} {st : List UInt8} (h : Gw.Wal.best d = some (q, b, st)) : 1 ≤ q ∧ q ≤ 200 ∧ 1 ≤ b ∧ b ≤ 1000001 := by
  have key : ∀ s o, Gw.Wal.slotIn s o = some (q, b, st) → 1 ≤ q ∧ q ≤ 200 ∧ 1 ≤ b ∧ b ≤ 1000001 := fun s o hs => by
    obtain ⟨h1, h2, _, h4⟩ := Gw.Wal.slotIn_iff.1 hs
    obtain ⟨p, k, _, h5⟩ := Gw.Wal.takeMark_take h4
    refine ⟨h1, h2, ?_⟩
    unfold Gw.Wal.markOf at h5
    split at h5
    · cases h5
    · split at h5
      · cases h5
      · split at h5
        · rename_i hh
          simp only [Option.some.injEq, Prod.mk.injEq] at h5
          omega
        · cases h5
  unfold Gw.Wal.best Gw.Wal.better at h
  split at h
  · exact key _ _ h
  · rename_i x hx _
    exact key _ _ (by rw [hx]; exact h)
  · rename_i x y hx hy
    split at h
    · exact key _ _ (by rw [hy]; exact h)
    · exact key _ _ (by rw [hx]; exact h)
def openedV (d : Gw.Disk.Disk) : V := .tup [encW (decide ((Gw.Wal.open_ d).err ≠ 0)) true (Gw.Wal.open_ d).wal, .str (Gw.Wal.open_ d).state, .lst (decide ((Gw.Wal.open_ d).recs = [])) 1 (encSL (Gw.Wal.open_ d).recs) .none, .int .i64 ((Gw.Wal.open_ d).err : Nat)]
set_option maxHeartbeats 2000000 in
theorem wopen_pc (nl : Bool) (d : Gw.Disk.Disk) (hn : nl = true → d.loose = []) (hsz : I64 d.size) (hl : d.loose.length ≤ 900000) : PC Tryd.prog 12 [encD nl d] (openedV d) := by
  have hck := check_pc nl d hsz (by omega)
  have hR1 : Gw.Disk.check d = false → openedV d = .tup [encW true true Gw.Wal.nowal, .str [], .lst true 1 [] .none, .int .i64 140] := fun h => by
    unfold openedV Gw.Wal.open_; rw [if_pos h]; rfl
  have hR2 : Gw.Disk.check d = true → Gw.Wal.best d = none → openedV d = .tup [encW true true Gw.Wal.nowal, .str [], .lst true 1 [] .none, .int .i64 140] := fun h h2 => by
    unfold openedV Gw.Wal.open_; rw [if_neg (by rw [h]; simp), h2]; rfl
  have hR3 : ∀ q b st, Gw.Disk.check d = true → Gw.Wal.best d = some (q, b, st) → openedV d = .tup [encW false true (Gw.Wal.openAt d q b st).wal, .str st, .lst (decide ((Gw.Rec.all (Gw.Wal.region d) b).1 = [])) 1 (encSL (Gw.Rec.all (Gw.Wal.region d) b).1) .none, .int .i64 0] := fun q b st h h2 => by
    unfold openedV Gw.Wal.open_; rw [if_neg (by rw [h]; simp), h2]; rfl
  generalize openedV d = RV at *
  have hbp := fun hc => best_pc nl d hc (by omega)
  have hbb := fun q b st => best_bounds (d := d) (q := q) (b := b) (st := st)
  refine PC.ofS tabOk mixed (fn := Tryd.f12) (by kernel_rfl) rfl (by kernel_rfl) rfl rfl ?_
  conv => whnf
  refine AC.of_pc hck rfl ?_
  cases hc : Gw.Disk.check d with
  | false =>
    rw [hR1 hc]
    conv => whnf
    repeat (first | refine ⟨fun _ => ?_, fun h => absurd h (by decide)⟩ | refine ⟨fun h => absurd h (by decide), fun _ => ?_⟩ | refine ⟨fun _ => ?_, fun h => absurd (show true = false from h) (by decide)⟩ | refine ⟨fun h => absurd (show false = true from h) (by decide), fun _ => ?_⟩
            (conv => whnf))
    exact SubV.tup (.cons (subW (.nil _ _ _) (.nil _ _ _)) (.cons (.refl _) (.cons (.refl _) (.cons (.refl _) .nil))))
  | true =>
  have hbp := hbp hc
  conv => whnf
  repeat (first | refine ⟨fun _ => ?_, fun h => absurd h (by decide)⟩ | refine ⟨fun h => absurd h (by decide), fun _ => ?_⟩ | refine ⟨fun _ => ?_, fun h => absurd (show true = false from h) (by decide)⟩ | refine ⟨fun h => absurd (show false = true from h) (by decide), fun _ => ?_⟩
          (conv => whnf))
  refine AC.of_pc hbp rfl ?_
  rcases hb : Gw.Wal.best d with _ | ⟨q, b, st⟩
  · rw [hR2 hc hb]
    simp only [bestV]
    conv => whnf
    repeat (first | refine ⟨fun _ => ?_, fun h => absurd h (by decide)⟩ | refine ⟨fun h => absurd h (by decide), fun _ => ?_⟩ | refine ⟨fun _ => ?_, fun h => absurd (show true = false from h) (by decide)⟩ | refine ⟨fun h => absurd (show false = true from h) (by decide), fun _ => ?_⟩
            (conv => whnf))
    exact SubV.tup (.cons (subW (.nil _ _ _) (.nil _ _ _)) (.cons (.refl _) (.cons (.refl _) (.cons (.refl _) .nil))))
  rw [hR3 q b st hc hb]
  obtain ⟨q1, q2, b1, b2⟩ := hbb q b st hb
  obtain ⟨z1, z2, _, _⟩ := Gw.Disk.check_spec hc
  have hstp := start_pc d.size.toNat (by omega)
  rw [show ((d.size.toNat : Nat) : Int) = d.size by omega] at hstp
  have hst : Gw.Wal.start d = 2 * (d.size.toNat / 4) := rfl
  rw [← hst] at hstp
  have hsl := Gw.Wal.start_size d
  have hrd := read_pc nl d (Gw.Wal.start d) (d.size - Gw.Wal.start d) hsz (by unfold I64; omega) (by unfold I64; omega) (by omega)
  have hreg : Gw.Disk.read d (Gw.Wal.start d) (d.size - Gw.Wal.start d) = Gw.Wal.region d := rfl
  have hrl := Gw.Wal.region_len hc
  have hall := recAll_pc (Gw.Wal.region d) (b : Int) (by rw [hrl]; omega)
  obtain ⟨ab1, ab2⟩ := alls_bound (Gw.Rec.all_alls (Gw.Wal.region d) (b : Int))
  rw [hrl] at ab1
  rw [hreg] at hrd
  have hcl := clone_pc nl (d.loose.map encP) (fun e => by rw [hn e]; rfl) (by rw [List.length_map]; omega)
  have hend : Gw.Wal.start d + (Gw.Rec.all (Gw.Wal.region d) b).2 ≤ d.size.toNat := by omega
  have hz1 := wzeros_pc (d.size.toNat - (Gw.Wal.start d + (Gw.Rec.all (Gw.Wal.region d) b).2)) (by omega)
  have hz2 := wzeros_pc (Gw.Wal.slotSz d) (by unfold Gw.Wal.slotSz; omega)
  have hw1 := wwrite_pc nl d hc hn (by omega) (Gw.Wal.start d + (Gw.Rec.all (Gw.Wal.region d) b).2) (d.size.toNat - (Gw.Wal.start d + (Gw.Rec.all (Gw.Wal.region d) b).2)) _ (Gw.Wal.zeros_len _) (by omega)
  obtain ⟨v1, v2, v3, v4, _, _⟩ := Gw.Wal.write_spec hc (Gw.Wal.start d + (Gw.Rec.all (Gw.Wal.region d) b).2) (d.size.toNat - (Gw.Wal.start d + (Gw.Rec.all (Gw.Wal.region d) b).2)) _ (Gw.Wal.zeros_len _) (by omega)
  have hrm := Gw.Wal.slots_room d (q + 1)
  have hw2 := wwrite_pc false _ v3 (fun e => by cases e) (by rw [v4]; omega) (Gw.Wal.slotOf d (q + 1)) (Gw.Wal.slotSz d) _ (Gw.Wal.zeros_len _) (by rw [v2]; omega)
  have hso := slotOf_pc d.size.toNat (q + 1) (by omega) (by omega)
  have hss := slotSize_pc d.size.toNat (by omega)
  rw [show ((d.size.toNat : Nat) : Int) = d.size by omega] at hso hss
  have hso2 : (if (q + 1) % 2 = 1 then d.size.toNat / 4 else 0) = Gw.Wal.slotOf d (q + 1) := rfl
  have hss2 : d.size.toNat / 4 = Gw.Wal.slotSz d := rfl
  rw [hso2] at hso
  rw [hss2] at hss
  unfold Gw.Wal.openAt
  generalize Gw.Rec.all (Gw.Wal.region d) b = AL at *
  obtain ⟨recs, sec⟩ := AL
  simp only at ab1 ab2 hend hz1 hw1 hw2 ⊢
  generalize Gw.Wal.start d = sta at *
  generalize Gw.Wal.slotOf d (q + 1) = so at *
  generalize Gw.Wal.slotSz d = ss at *
  generalize Gw.Wal.region d = reg at *
  generalize Gw.Disk.readErr d _ _ = re at *
  have hwb : IntKind.i64.wrap ((b : Int) + ((encSL recs).length : Int)) = ((b + recs.length : Nat) : Int) := by rw [encSL_len, w64 (by omega) (by omega)]; omega
  have hwe : IntKind.i64.wrap ((sta : Int) + (sec : Int)) = ((sta + sec : Nat) : Int) := by rw [w64 (by omega) (by omega)]; omega
  have hwq : IntKind.i64.wrap ((q : Int) + 1) = ((q + 1 : Nat) : Int) := by rw [w64 (by omega) (by omega)]; omega
  have hwn : IntKind.i64.wrap (((b + recs.length : Nat) : Int) - 1) = ((b + recs.length - 1 : Nat) : Int) := by rw [w64 (by omega) (by omega)]; omega
  have hws : IntKind.i64.wrap (d.size - (sta : Int)) = d.size - (sta : Int) := w64 (by omega) (by omega)
  have hwz : IntKind.i64.wrap (d.size - ((sta + sec : Nat) : Int)) = ((d.size.toNat - (sta + sec) : Nat) : Int) := by rw [w64 (by omega) (by omega)]; omega
  simp only [bestV]
  conv => whnf
  refine ⟨fun h => ?_, fun _ => ?_⟩
  · exfalso
    have : (q : Int) = 0 := by simpa using h
    omega
  conv => whnf
  refine AC.of_pc hstp rfl ?_
  conv => whnf
  rw [hws]
  refine AC.of_pc hrd rfl ?_
  conv => whnf
  refine AC.of_pc hall rfl ?_
  conv => whnf
  refine AC.of_pc hcl rfl ?_
  conv => whnf
  rw [hwb, hwe]
  refine AC.of tabOk mixed (fn := Tryd.f34) (by kernel_rfl) rfl (by kernel_rfl) rfl rfl ?_
  conv => whnf
  refine ⟨by kernel_rfl, ?_⟩
  conv => whnf
  have hz1' := hz1
  rw [← hwz] at hz1'
  refine ⟨_, rfl, hz1', ?_⟩
  conv => whnf
  refine .inr ⟨by kernel_rfl, by kernel_rfl, ?_⟩
  refine AC.of tabOk mixed (fn := Tryd.f66) (by kernel_rfl) rfl (by kernel_rfl) rfl rfl ?_
  conv => whnf
  refine AC.of_pc hw1 rfl ?_
  conv => whnf
  repeat (first | refine ⟨fun _ => ?_, fun h => absurd h (by decide)⟩ | refine ⟨fun h => absurd h (by decide), fun _ => ?_⟩ | refine ⟨fun _ => ?_, fun h => absurd (show true = false from h) (by decide)⟩ | refine ⟨fun h => absurd (show false = true from h) (by decide), fun _ => ?_⟩
          (conv => whnf))
  refine ⟨by kernel_rfl, ?_⟩
  conv => whnf
  have hso' := hso
  rw [← hwq] at hso'
  refine ⟨_, rfl, hso', ?_⟩
  conv => whnf
  refine ⟨_, rfl, hss, ?_⟩
  conv => whnf
  refine ⟨_, rfl, hz2, ?_⟩
  conv => whnf
  refine .inr ⟨by kernel_rfl, by kernel_rfl, ?_⟩
  refine AC.of tabOk mixed (fn := Tryd.f66) (by kernel_rfl) rfl (by kernel_rfl) rfl rfl ?_
  conv => whnf
  refine AC.of_pc hw2 rfl ?_
  conv => whnf
  repeat (first | refine ⟨fun _ => ?_, fun h => absurd h (by decide)⟩ | refine ⟨fun h => absurd h (by decide), fun _ => ?_⟩ | refine ⟨fun _ => ?_, fun h => absurd (show true = false from h) (by decide)⟩ | refine ⟨fun h => absurd (show false = true from h) (by decide), fun _ => ?_⟩
          (conv => whnf))
  refine ⟨by kernel_rfl, ?_⟩
  conv => whnf
  rw [hwn]
  exact SubV.tup (.cons (subW (.refl _) (.nil _ _ _)) (.cons (.refl _) (.cons (.refl _) (.cons (.refl _) .nil))))
end Go.Proofs.YtjhblbipjljojaaDoor


namespace Go.Proofs.YtjhblbipjljojaaDoor
open Go.Am

def spK (w : Gw.Wal.Wal) (k : Nat) : List UInt8 := Gw.Rec.packs (w.waits.take k) ((w.spilled + 1 : Nat) : Int)
theorem spK_succ (w : Gw.Wal.Wal) {k : Nat} (hk : k < w.waits.length) : spK w (k + 1) = spK w k ++ Gw.Rec.packed (w.spilled + 1 + k) w.waits[k] := by
  unfold spK
  rw [List.take_succ_eq_append_getElem hk, Gw.Rec.packs_append, List.length_take, show min k w.waits.length = k by omega]
  simp only [Gw.Rec.packs, List.append_nil]
  congr 2
theorem spK_len (w : Gw.Wal.Wal) (hw : ∀ p ∈ w.waits, p.length ≤ 200) (hn : w.spilled + w.waits.length ≤ 1000000) : ∀ k, k ≤ w.waits.length → (spK w k).length ≤ 800 * k
  | 0, _ => by simp [spK, Gw.Rec.packs]
  | k + 1, hk => by
    have h1 := spK_len w hw hn k (by omega)
    have hp := hw _ (List.getElem_mem (show k < w.waits.length by omega))
    have h2 := many_small (n := w.spilled + 1 + k) (p := w.waits[k]) (by omega) (by omega)
    have h3 := Gw.Rec.packed_len (w.spilled + 1 + k) w.waits[k]
    rw [spK_succ w (by omega), List.length_append]
    omega
def spillV (nl nw : Bool) (w : Gw.Wal.Wal) : V := .tup [encW (if (Gw.Wal.spill w).2 = 0 ∧ w.waits ≠ [] then false else nl) (if (Gw.Wal.spill w).2 = 0 ∧ w.waits ≠ [] then true else nw) (Gw.Wal.spill w).1, .int .i64 ((Gw.Wal.spill w).2 : Nat)]
theorem encSL_get {l : List (List UInt8)} {k : Nat} (hk : k < l.length) : (encSL l)[k]? = some [.str l[k]] := by unfold encSL; rw [List.getElem?_map, List.getElem?_eq_getElem hk]; rfl
set_option maxHeartbeats 2000000 in
theorem spill_pc {w : Gw.Wal.Wal} {R : List (List UInt8)} {st mst : List UInt8} (h : Gw.Wal.Inv w R st mst) (nl nw : Bool) (hn : nl = true → w.disk.loose = []) (hl : w.disk.loose.length ≤ 900000) : PC Tryd.prog 22 [encW nl nw w] (spillV nl nw w) := by
  obtain ⟨N, e1, e2, e3, e4, e5⟩ := wal_sizes h
  have hbig := h.big
  have hnx := h.nxt
  have hb1 := h.base1
  have hrm := h.room
  have hwts := h.wts
  have hel := encSL_len w.waits
  have hsl := spK_len w hwts (by omega)
  have hfl := wflush_pc h nl hn (by omega)
  obtain ⟨p1, p2, p3, p4⟩ := settle_parts h nl hn (by omega)
  have hall : Gw.Wal.spillText w = spK w w.waits.length := by unfold spK Gw.Wal.spillText; rw [List.take_length]
  have hlen := Gw.Wal.spillText_len w
  have hwr := fun (hr : w.end_ + Gw.Wal.secsOf w.waits (w.spilled + 1) ≤ N) => wwrite_pc (if w.dirty = true then true else nl) (Gw.Wal.settle w).disk p1 p3 p4 w.end_ (Gw.Wal.secsOf w.waits (w.spilled + 1)) (Gw.Wal.spillText w) hlen (by rw [p2, e1]; omega)
  have hR1 : w.marked ≠ 0 → spillV nl nw w = .tup [encW nl nw w, .int .i64 140] := fun h1 => by
    have e : Gw.Wal.spill w = (w, 140) := by unfold Gw.Wal.spill; rw [if_pos h1]
    unfold spillV; rw [e]; rfl
  have hR2 : w.marked = 0 → N < w.end_ + Gw.Wal.secsOf w.waits (w.spilled + 1) → spillV nl nw w = .tup [encW nl nw w, .int .i64 120] := fun h1 h2 => by
    have e : Gw.Wal.spill w = (w, 120) := by unfold Gw.Wal.spill; rw [if_neg (show ¬ w.marked ≠ 0 from fun e => e h1), if_pos (by rw [hlen]; omega)]
    unfold spillV; rw [e]; rfl
  have hR3 : w.marked = 0 → ¬ N < w.end_ + Gw.Wal.secsOf w.waits (w.spilled + 1) → w.waits = [] → spillV nl nw w = .tup [encW nl nw w, .int .i64 0] := fun h1 h2 h3 => by
    have e : Gw.Wal.spill w = (w, 0) := by unfold Gw.Wal.spill; rw [if_neg (show ¬ w.marked ≠ 0 from fun e => e h1), if_neg (by rw [hlen]; omega), if_pos h3]
    unfold spillV; rw [e, if_neg (fun e => e.2 h3), if_neg (fun e => e.2 h3)]; rfl
  have hR4 : w.marked = 0 → ¬ N < w.end_ + Gw.Wal.secsOf w.waits (w.spilled + 1) → ¬ w.waits = [] → spillV nl nw w = .tup [encW false true { Gw.Wal.settle w with disk := Gw.Disk.write (Gw.Wal.settle w).disk w.end_ (Gw.Wal.ba (Gw.Wal.spillText w)), end_ := w.end_ + Gw.Wal.secsOf w.waits (w.spilled + 1), spilled := w.next - 1, waits := [] }, .int .i64 0] := fun h1 h2 h3 => by
    have hd : (Gw.Wal.spillText w).length / 16 = Gw.Wal.secsOf w.waits (w.spilled + 1) := by rw [hlen]; omega
    have e : Gw.Wal.spill w = ({ Gw.Wal.settle w with disk := Gw.Disk.write (Gw.Wal.settle w).disk w.end_ (Gw.Wal.ba (Gw.Wal.spillText w)), end_ := w.end_ + Gw.Wal.secsOf w.waits (w.spilled + 1), spilled := w.next - 1, waits := [] }, 0) := by
      unfold Gw.Wal.spill
      rw [hd, if_neg (show ¬ w.marked ≠ 0 from fun e => e h1), if_neg (by omega), if_neg h3]
    unfold spillV; rw [e, if_pos ⟨rfl, h3⟩, if_pos ⟨rfl, h3⟩]; rfl
  generalize spillV nl nw w = RV at *
  have hse : Gw.Wal.settle w = if w.dirty = true then { w with disk := Gw.Disk.flush w.disk, dirty := false } else w := rfl
  refine PC.ofS tabOk mixed (fn := Tryd.f22) (by kernel_rfl) rfl (by kernel_rfl) rfl rfl ?_
  conv => whnf
  refine ⟨fun h1 => ?_, fun h1 => ?_⟩
  · have h1 : w.marked ≠ 0 := by
      intro e; rw [e] at h1; simp at h1
    rw [hR1 h1]
    conv => whnf
    exact SubV.refl _
  have h1 : w.marked = 0 := by simpa using h1
  conv => whnf
  refine AW.rowB 6 5 rfl ?_
  refine AW.loop (fun k : Nat => [(.tmp 1, .v (.ptr 0 0)), (.tmp 2, .v (.ptr 1 0)), (.tmp 4, .v (.ptr 6 0)), (.tmp 17, .v (.lst nw 1 (encSL w.waits) .none)), (.tmp 18, .v (.int .i64 w.waits.length)), (.tmp 19, .v (.int .i64 k)),
    (.blk 0, .box 31 (walC nl nw w)), (.blk 1, .box 31 [.int .i64 0, .str [], .lst true 1 [] .tight, .int .i64 0, .int .i64 0, .int .i64 0, .int .i64 0, .int .i64 0, .int .i64 0, .lst true 1 [] .tight, .ff, .int .i64 0, .int .i64 0, .int .i64 0]),
    (.blk 6, .box 85 [if k = 0 then .nilp else .ptr 6 0, .lst (decide (spK w k = [])) 1 (bytesL (spK w k)) (.brow 11)]), (.row 11, .row 5 1 (spK w k).length)])
    12 (fun k => k ≤ w.waits.length) (fun k => w.waits.length - k) (by decide) 0 (Nat.zero_le _) ⟨rfl, rfl, rfl, rfl, rfl, rfl, rfl, rfl, ?_, rfl, rfl, rfl, rfl, rfl, rfl, rfl, rfl, rfl, rfl, rfl, trivial⟩ ?_
  · show C.v (V.int .i64 (encSL w.waits).length) = _
    rw [hel]
  rintro k hk
  have hsk := hsl k hk
  refine ev_sound tabOk mixed _ _ _ _ ?_
  conv => whnf
  refine ⟨fun h2 => ?_, fun h2 => ?_⟩
  · have h2 := of_decide_eq_true h2
    have hlt : k < w.waits.length := by omega
    have hgt := encSL_get hlt
    have hpl := hwts _ (List.getElem_mem hlt)
    have hsu := spK_succ w hlt
    have hsk1 := hsl (k + 1) hlt
    have hpk := pack_pc ((w.spilled + 1 + k : Nat) : Int) w.waits[k]
    have hmay : Gw.Rec.may ((w.spilled + 1 + k : Nat) : Int) w.waits[k] = true := Gw.Rec.may_iff.2 ⟨by omega, by omega, by omega⟩
    have q1 : Gw.Rec.pack ((w.spilled + 1 + k : Nat) : Int) w.waits[k] = Gw.Rec.packed (w.spilled + 1 + k) w.waits[k] := by unfold Gw.Rec.pack; rw [if_pos hmay, Int.toNat_natCast]
    have q2 : Gw.Rec.packErr ((w.spilled + 1 + k : Nat) : Int) w.waits[k] = 0 := by unfold Gw.Rec.packErr; rw [if_pos hmay]
    rw [q1, q2] at hpk
    have hw1 : IntKind.i64.wrap (IntKind.i64.wrap ((w.spilled : Int) + 1) + (k : Int)) = ((w.spilled + 1 + k : Nat) : Int) := by rw [w64 (x := (w.spilled : Int) + 1) (by omega) (by omega), w64 (by omega) (by omega)]; omega
    rw [← hw1] at hpk
    generalize Gw.Rec.packed (w.spilled + 1 + k) w.waits[k] = P at *
    conv => whnf
    refine ⟨_, ⟨by omega, hgt⟩, ?_⟩
    conv => whnf
    refine AC.of_pc hpk rfl ?_
    conv => whnf
    repeat (first | refine ⟨fun _ => ?_, fun h => absurd h (by decide)⟩ | refine ⟨fun h => absurd h (by decide), fun _ => ?_⟩ | refine ⟨fun _ => ?_, fun h => absurd (show true = false from h) (by decide)⟩ | refine ⟨fun h => absurd (show false = true from h) (by decide), fun _ => ?_⟩
            (conv => whnf))
    refine AC.of tabOk mixed (fn := Tryd.f59) (by kernel_rfl) rfl (by kernel_rfl) rfl rfl ?_
    conv => whnf
    refine AC.selfPtr (enters_of (fn := Tryd.f82) (by kernel_rfl) rfl (by kernel_rfl)) rfl (by split; exact .inl rfl; exact .inr rfl) bld_copy ?_
    conv => whnf
    rw [hsu, List.length_append] at hsk1
    refine ⟨⟨(bytesL_len _).symm, ⟨by rw [bytesL_len, List.length_map]; omega, by rw [bytesL_len, List.length_map]; omega⟩⟩, ?_⟩
    conv => whnf
    refine ⟨k + 1, by omega, by show _ - (k + 1) < _ - k; omega, rfl, rfl, rfl, rfl, rfl, rfl, rfl, rfl, rfl, rfl, ?_, rfl, rfl, rfl, rfl, rfl, ?_, rfl, ?_, rfl, trivial⟩
    · show C.v (V.int .i64 (IntKind.i64.wrap ((k : Int) + 1))) = _
      rw [w64 (by omega) (by omega)]; rfl
    · show C.box _ [V.ptr 6 0, V.lst (decide (spK w k = []) && (P.map fun c => [V.int .u8 c.toNat]).isEmpty) 1 (bytesL (spK w k) ++ P.map fun c => [V.int .u8 c.toNat]) (.brow 11)] = C.box _ [if k + 1 = 0 then V.nilp else V.ptr 6 0, V.lst (decide (spK w (k + 1) = [])) 1 (bytesL (spK w (k + 1))) (.brow 11)]
      rw [hsu, if_neg (Nat.succ_ne_zero k), bytesL, bytesL, List.map_append]
      have e3 : decide (spK w k ++ P = []) = (decide (spK w k = []) && (P.map fun c => [V.int .u8 c.toNat]).isEmpty) := by
        rw [Bool.eq_iff_iff]; simp
      rw [e3]
    · show C.row _ 1 ((bytesL (spK w k)).length + (P.map fun c => [V.int .u8 c.toNat]).length) = C.row _ 1 (spK w (k + 1)).length
      rw [hsu, bytesL_len, List.length_map, List.length_append]
  · have h2 := of_decide_eq_false h2
    obtain rfl : k = w.waits.length := by omega
    rw [← hall] at hsk ⊢
    conv => whnf
    refine AC.of tabOk mixed (fn := Tryd.f60) (by kernel_rfl) rfl (by kernel_rfl) rfl rfl ?_
    conv => whnf
    have hq : IntKind.i64.wrap (((bytesL (Gw.Wal.spillText w)).length : Int).tdiv 16) = (Gw.Wal.secsOf w.waits (w.spilled + 1) : Nat) := by rw [bytesL_len, hlen, tdiv_pos (by omega), w64 (by omega) (by omega)]; omega
    have hs : IntKind.i64.wrap (w.disk.size - (w.end_ : Int)) = w.disk.size - (w.end_ : Int) := w64 (by omega) (by omega)
    generalize Gw.Wal.secsOf w.waits (w.spilled + 1) = S at *
    refine ⟨fun h3 => ?_, fun h3 => ?_⟩
    · have h3 := of_decide_eq_true h3
      rw [hq, hs] at h3
      rw [hR2 h1 (by omega)]
      conv => whnf
      exact SubV.refl _
    have h3 := of_decide_eq_false h3
    rw [hq, hs] at h3
    conv => whnf
    refine ⟨fun h4 => ?_, fun h4 => ?_⟩
    · have h4 : w.waits = [] := by
        have : ((encSL w.waits).length : Int) = 0 := by simpa using h4
        exact List.eq_nil_of_length_eq_zero (by omega)
      rw [hR3 h1 (by omega) h4]
      conv => whnf
      exact SubV.refl _
    have h4 : ¬ w.waits = [] := by
      intro e; rw [e] at h4; simp [encSL] at h4
    rw [hR4 h1 (by omega) h4]
    have hwr := hwr (by omega)
    have hwe : IntKind.i64.wrap ((w.end_ : Int) + IntKind.i64.wrap (((bytesL (Gw.Wal.spillText w)).length : Int).tdiv 16)) = ((w.end_ + S : Nat) : Int) := by rw [hq, w64 (by omega) (by omega)]; omega
    have hwn : IntKind.i64.wrap ((w.next : Int) - 1) = ((w.next - 1 : Nat) : Int) := by rw [w64 (by omega) (by omega)]; omega
    conv => whnf
    refine AC.of tabOk mixed (fn := Tryd.f34) (by kernel_rfl) rfl (by kernel_rfl) rfl rfl ?_
    conv => whnf
    refine AC.of tabOk mixed (fn := Tryd.f58) (by kernel_rfl) rfl (by kernel_rfl) rfl rfl ?_
    conv => whnf
    refine ⟨fun hd => ?_, fun hd => ?_⟩
    · rw [hse, if_pos hd] at hwr
      rw [if_pos hd] at hwr
      rw [hse, if_pos hd]
      conv => whnf
      refine AC.of tabOk mixed (fn := Tryd.f47) (by kernel_rfl) rfl (by kernel_rfl) rfl rfl ?_
      conv => whnf
      refine AC.of_pc hfl rfl ?_
      conv => whnf
      refine .inl ⟨_, _, _, WC.unrow (e := 5) (enters_of (fn := Tryd.f61) (by kernel_rfl) rfl (by kernel_rfl)) (s := Gw.Wal.spillText w) rfl rfl (fun e => decide_eq_true e) (fun _ => bld_nil) (fun h0 => bld_text (Gw.Wal.spillText w) h0 (by omega)), rfl, ?_⟩
      conv => whnf
      refine .inr ⟨by kernel_rfl, by kernel_rfl, ?_⟩
      refine AC.of tabOk mixed (fn := Tryd.f66) (by kernel_rfl) rfl (by kernel_rfl) rfl rfl ?_
      conv => whnf
      refine AC.of_pc hwr rfl ?_
      conv => whnf
      repeat (first | refine ⟨fun _ => ?_, fun h => absurd h (by decide)⟩ | refine ⟨fun h => absurd h (by decide), fun _ => ?_⟩ | refine ⟨fun _ => ?_, fun h => absurd (show true = false from h) (by decide)⟩ | refine ⟨fun h => absurd (show false = true from h) (by decide), fun _ => ?_⟩
              (conv => whnf))
      refine ⟨by kernel_rfl, ?_⟩
      conv => whnf
      repeat (first | refine ⟨fun _ => ?_, fun h => absurd h (by decide)⟩ | refine ⟨fun h => absurd h (by decide), fun _ => ?_⟩ | refine ⟨fun _ => ?_, fun h => absurd (show true = false from h) (by decide)⟩ | refine ⟨fun h => absurd (show false = true from h) (by decide), fun _ => ?_⟩
              (conv => whnf))
      rw [hwe, hwn]
      exact SubV.tup2 (subW (.refl _) (.nil _ _ _)) (.refl _)
    · have hd' : ¬ w.dirty = true := by rw [hd]; simp
      rw [hse, if_neg hd'] at hwr
      rw [if_neg hd'] at hwr
      rw [hse, if_neg hd']
      conv => whnf
      refine .inl ⟨_, _, _, WC.unrow (e := 5) (enters_of (fn := Tryd.f61) (by kernel_rfl) rfl (by kernel_rfl)) (s := Gw.Wal.spillText w) rfl rfl (fun e => decide_eq_true e) (fun _ => bld_nil) (fun h0 => bld_text (Gw.Wal.spillText w) h0 (by omega)), rfl, ?_⟩
      conv => whnf
      refine .inr ⟨by kernel_rfl, by kernel_rfl, ?_⟩
      refine AC.of tabOk mixed (fn := Tryd.f66) (by kernel_rfl) rfl (by kernel_rfl) rfl rfl ?_
      conv => whnf
      refine AC.of_pc hwr rfl ?_
      conv => whnf
      repeat (first | refine ⟨fun _ => ?_, fun h => absurd h (by decide)⟩ | refine ⟨fun h => absurd h (by decide), fun _ => ?_⟩ | refine ⟨fun _ => ?_, fun h => absurd (show true = false from h) (by decide)⟩ | refine ⟨fun h => absurd (show false = true from h) (by decide), fun _ => ?_⟩
              (conv => whnf))
      refine ⟨by kernel_rfl, ?_⟩
      conv => whnf
      repeat (first | refine ⟨fun _ => ?_, fun h => absurd h (by decide)⟩ | refine ⟨fun h => absurd h (by decide), fun _ => ?_⟩ | refine ⟨fun _ => ?_, fun h => absurd (show true = false from h) (by decide)⟩ | refine ⟨fun h => absurd (show false = true from h) (by decide), fun _ => ?_⟩
              (conv => whnf))
      rw [hwe, hwn]
      exact SubV.tup2 (subW (.refl _) (.nil _ _ _)) (.refl _)
end Go.Proofs.YtjhblbipjljojaaDoor


namespace Go.Proofs.YtjhblbipjljojaaDoor
open Go.Am

def encSt (s : Int × List UInt8) : List V := [.int .i64 s.1, .str s.2]
theorem encSt_get {l : List (Int × List UInt8)} {k : Nat} (hk : k < l.length) : (l.map encSt)[k]? = some [.int .i64 l[k].1, .str l[k].2] := by rw [List.getElem?_map, List.getElem?_eq_getElem hk]; rfl
def Fl (nl nw : Bool) (w : Gw.Wal.Wal) : Prop := (nl = true → w.disk.loose = []) ∧ (nw = true → w.waits = [])
theorem openedV_of {d : Gw.Disk.Disk} (h : (Gw.Wal.open_ d).err = 0) : openedV d = .tup [encW false true (Gw.Wal.open_ d).wal, .str (Gw.Wal.open_ d).state, .lst (decide ((Gw.Wal.open_ d).recs = [])) 1 (encSL (Gw.Wal.open_ d).recs) .none, .int .i64 0] := by
  unfold openedV; rw [h]; rfl
/-- A crash, and an opening. -/
theorem crashed_pc {w : Gw.Wal.Wal} {R : List (List UInt8)} {st mst : List UInt8} (h : Gw.Wal.Inv w R st mst) (nl : Bool) (p : List UInt8) (hp : p.length ≤ 1000) (hn : nl = true → w.disk.loose = []) (hl : w.disk.loose.length ≤ 900000) :
    PC Tryd.prog 20 [encD nl w.disk, .str p] (encD true (Gw.Disk.crash w.disk (Gw.Wal.ba p))) ∧
    PC Tryd.prog 12 [encD true (Gw.Disk.crash w.disk (Gw.Wal.ba p))] (.tup [encW false true (Gw.Wal.open_ (Gw.Disk.crash w.disk (Gw.Wal.ba p))).wal, .str (Gw.Wal.open_ (Gw.Disk.crash w.disk (Gw.Wal.ba p))).state, .lst (decide ((Gw.Wal.open_ (Gw.Disk.crash w.disk (Gw.Wal.ba p))).recs = [])) 1 (encSL (Gw.Wal.open_ (Gw.Disk.crash w.disk (Gw.Wal.ba p))).recs) .none, .int .i64 0]) ∧
    (Gw.Wal.open_ (Gw.Disk.crash w.disk (Gw.Wal.ba p))).wal.disk.loose.length ≤ 2000 ∧ Fl false true (Gw.Wal.open_ (Gw.Disk.crash w.disk (Gw.Wal.ba p))).wal := by
  have h0 := h.size0
  have h1 := h.small
  obtain ⟨a1, a2, a3, a4⟩ := h.crashDisk (Gw.Wal.ba p)
  obtain ⟨q, b, s, R', t1, t2⟩ := h.crashed (Gw.Wal.ba p)
  have hc := crash_pc nl w.disk (Gw.Wal.ba p) hn (by unfold I64; omega) (by omega) (by rw [Gw.Wal.ba_size]; omega)
  rw [if_pos h.chk] at hc
  have ho := wopen_pc true (Gw.Disk.crash w.disk (Gw.Wal.ba p)) (fun _ => a3) (by rw [a2]; unfold I64; omega) (by rw [a3]; decide)
  rw [openedV_of t1.err] at ho
  exact ⟨hc, ho, Gw.Wal.open_le a3 (by omega), ⟨(fun e => by cases e), fun _ => t1.waits⟩⟩
set_option maxHeartbeats 1000000 in
theorem do_pc {w : Gw.Wal.Wal} {R : List (List UInt8)} {st mst : List UInt8} (h : Gw.Wal.Inv w R st mst) (nl nw : Bool) (hf : Fl nl nw w) (k : Int) (p : List UInt8) (hp : p.length ≤ 200) (hl : w.disk.loose.length ≤ 890000) :
    ∃ a b, Fl a b (Gw.Wal.step w k p).1 ∧ PC Tryd.prog 18 [encW nl nw w, .agg [.int .i64 k, .str p]] (.tup [encW a b (Gw.Wal.step w k p).1, .int .i64 ((Gw.Wal.step w k p).2 : Nat)]) := by
  have hbig := h.big
  have hnx := h.nxt
  by_cases k1 : k = 1
  · subst k1
    have hc := append_pc nl nw w p (by omega) (by omega)
    have e : Gw.Wal.step w 1 p = ((Gw.Wal.append w p).1, (Gw.Wal.append w p).2.2) := rfl
    rw [e]
    refine ⟨nl, if 40000 < p.length ∨ 1000000 < w.next then nw else false, ⟨?_, ?_⟩, ?_⟩
    rotate_left 2
    · refine PC.of tabOk mixed (fn := Tryd.f18) (by kernel_rfl) rfl (by kernel_rfl) rfl rfl ?_
      conv => whnf
      repeat (first | refine ⟨fun _ => ?_, fun h => absurd h (by decide)⟩ | refine ⟨fun h => absurd h (by decide), fun _ => ?_⟩ | refine ⟨fun _ => ?_, fun h => absurd (show true = false from h) (by decide)⟩ | refine ⟨fun h => absurd (show false = true from h) (by decide), fun _ => ?_⟩
              (conv => whnf))
      refine AC.of_pc hc rfl ?_
      conv => whnf
      rfl
    · show nl = true → (Gw.Wal.append w p).1.disk.loose = []
      unfold Gw.Wal.append
      split <;> exact hf.1
    · show (if 40000 < p.length ∨ 1000000 < w.next then nw else false) = true → (Gw.Wal.append w p).1.waits = []
      unfold Gw.Wal.append
      split
      · exact hf.2
      · intro e; cases e
  by_cases k2 : k = 2
  · subst k2
    have hc := spill_pc h nl nw hf.1 (by omega)
    have e : Gw.Wal.step w 2 p = Gw.Wal.spill w := rfl
    rw [e]
    refine ⟨if (Gw.Wal.spill w).2 = 0 ∧ w.waits ≠ [] then false else nl, if (Gw.Wal.spill w).2 = 0 ∧ w.waits ≠ [] then true else nw, ⟨?_, ?_⟩, ?_⟩
    rotate_left 2
    · refine PC.of tabOk mixed (fn := Tryd.f18) (by kernel_rfl) rfl (by kernel_rfl) rfl rfl ?_
      conv => whnf
      repeat (first | refine ⟨fun _ => ?_, fun h => absurd h (by decide)⟩ | refine ⟨fun h => absurd h (by decide), fun _ => ?_⟩ | refine ⟨fun _ => ?_, fun h => absurd (show true = false from h) (by decide)⟩ | refine ⟨fun h => absurd (show false = true from h) (by decide), fun _ => ?_⟩
              (conv => whnf))
      refine AC.of_pc hc rfl ?_
      conv => whnf
      rfl
    · show (if (Gw.Wal.spill w).2 = 0 ∧ w.waits ≠ [] then false else nl) = true → _
      rcases h.spill with ⟨g1, g2⟩ | ⟨g1, g2, g3, g4⟩ | ⟨g1, g2, g3, g4⟩
      · rw [if_neg (fun e => g1 e.1), g2]; exact hf.1
      · rw [if_neg (fun e => e.2 g2), g4]; exact hf.1
      · by_cases hw : w.waits = []
        · rw [if_neg (fun e => e.2 hw)]
          have : Gw.Wal.spill w = (w, 0) := by
            have := g1
            unfold Gw.Wal.spill at this ⊢
            rw [if_neg (show ¬ w.marked ≠ 0 from fun e => e g2)] at this ⊢
            split at this
            · cases this
            · rename_i h5; rw [if_neg h5, if_pos hw]
          rw [this]; exact hf.1
        · rw [if_pos ⟨g1, hw⟩]; intro e; cases e
    · show (if (Gw.Wal.spill w).2 = 0 ∧ w.waits ≠ [] then true else nw) = true → _
      rcases h.spill with ⟨g1, g2⟩ | ⟨g1, g2, g3, g4⟩ | ⟨g1, g2, g3, g4, _⟩
      · rw [if_neg (fun e => g1 e.1), g2]; exact hf.2
      · rw [if_neg (fun e => e.2 g2), g4]; exact hf.2
      · intro _; exact g4
  by_cases k3 : k = 3
  · subst k3
    have hc := sync_pc h nl nw hf.1 (by omega)
    have e : Gw.Wal.step w 3 p = (Gw.Wal.sync w, 0) := rfl
    rw [e]
    refine ⟨true, nw, ⟨?_, ?_⟩, ?_⟩
    rotate_left 2
    · refine PC.of tabOk mixed (fn := Tryd.f18) (by kernel_rfl) rfl (by kernel_rfl) rfl rfl ?_
      conv => whnf
      repeat (first | refine ⟨fun _ => ?_, fun h => absurd h (by decide)⟩ | refine ⟨fun h => absurd h (by decide), fun _ => ?_⟩ | refine ⟨fun _ => ?_, fun h => absurd (show true = false from h) (by decide)⟩ | refine ⟨fun h => absurd (show false = true from h) (by decide), fun _ => ?_⟩
              (conv => whnf))
      refine AC.of_pc hc rfl ?_
      conv => whnf
      rfl
    · obtain ⟨a1, a2, a3, a4⟩ := h.flushDisk
      intro _
      show (Gw.Wal.sync w).disk.loose = []
      unfold Gw.Wal.sync
      split <;> exact a3
    · show nw = true → (Gw.Wal.sync w).waits = []
      unfold Gw.Wal.sync
      split <;> exact hf.2
  by_cases k4 : k = 4
  · subst k4
    have hc := wmark_pc h nl nw p hp hf.1 (by omega)
    have e : Gw.Wal.step w 4 p = Gw.Wal.mark w p := rfl
    rw [e]
    refine ⟨if markOk w p = true then false else nl, nw, ⟨?_, ?_⟩, ?_⟩
    rotate_left 2
    · refine PC.of tabOk mixed (fn := Tryd.f18) (by kernel_rfl) rfl (by kernel_rfl) rfl rfl ?_
      conv => whnf
      repeat (first | refine ⟨fun _ => ?_, fun h => absurd h (by decide)⟩ | refine ⟨fun h => absurd h (by decide), fun _ => ?_⟩ | refine ⟨fun _ => ?_, fun h => absurd (show true = false from h) (by decide)⟩ | refine ⟨fun h => absurd (show false = true from h) (by decide), fun _ => ?_⟩
              (conv => whnf))
      refine AC.of_pc hc rfl ?_
      conv => whnf
      rfl
    · show (if markOk w p = true then false else nl) = true → _
      split
      · intro e; cases e
      · rename_i hno
        intro e
        have : (Gw.Wal.mark w p).1 = w := by
          unfold Gw.Wal.mark
          split
          · rfl
          split
          · rfl
          split
          · rfl
          rename_i h1 h2 h3
          exact absurd (by unfold markOk; rw [Bool.and_eq_true, Bool.and_eq_true, decide_eq_true_eq, decide_eq_true_eq, decide_eq_true_eq]; omega) hno
        rw [this]; exact hf.1 e
    · rcases h.mark hp with ⟨g1, g2⟩ | ⟨g1, g2, g3, g4, g5, _⟩
      · rw [g2]; exact hf.2
      · rw [g5]; exact hf.2
  by_cases k5 : k = 5
  · subst k5
    have hc := wipe_pc h nl nw hf.1 hf.2 (by omega)
    have e : Gw.Wal.step w 5 p = Gw.Wal.wipe w := rfl
    rw [e]
    refine ⟨if w.marked ≠ 2 then nl else false, nw, ⟨?_, ?_⟩, ?_⟩
    rotate_left 2
    · refine PC.of tabOk mixed (fn := Tryd.f18) (by kernel_rfl) rfl (by kernel_rfl) rfl rfl ?_
      conv => whnf
      repeat (first | refine ⟨fun _ => ?_, fun h => absurd h (by decide)⟩ | refine ⟨fun h => absurd h (by decide), fun _ => ?_⟩ | refine ⟨fun _ => ?_, fun h => absurd (show true = false from h) (by decide)⟩ | refine ⟨fun h => absurd (show false = true from h) (by decide), fun _ => ?_⟩
              (conv => whnf))
      refine AC.of_pc hc rfl ?_
      conv => whnf
      rfl
    · show (if w.marked ≠ 2 then nl else false) = true → _
      split
      · rename_i hm
        have : (Gw.Wal.wipe w).1 = w := by unfold Gw.Wal.wipe; rw [if_pos hm]
        rw [this]; exact hf.1
      · intro e; cases e
    · intro e
      unfold Gw.Wal.wipe
      split
      · exact hf.2 e
      · show w.waits.drop w.markMany = []
        rw [hf.2 e]; exact List.drop_nil
  by_cases k6 : k = 6
  · subst k6
    obtain ⟨c1, c2, c3, c4⟩ := crashed_pc h nl p (by omega) hf.1 (by omega)
    obtain ⟨q, b, s, R', t1, t2⟩ := h.crashed (Gw.Wal.ba p)
    have e : Gw.Wal.step w 6 p = ((Gw.Wal.open_ (Gw.Disk.crash w.disk (Gw.Wal.ba p))).wal, (Gw.Wal.open_ (Gw.Disk.crash w.disk (Gw.Wal.ba p))).err) := rfl
    rw [e, t1.err]
    refine ⟨false, true, c4, ?_⟩
    refine PC.of tabOk mixed (fn := Tryd.f18) (by kernel_rfl) rfl (by kernel_rfl) rfl rfl ?_
    conv => whnf
    repeat (first | refine ⟨fun _ => ?_, fun h => absurd h (by decide)⟩ | refine ⟨fun h => absurd h (by decide), fun _ => ?_⟩ | refine ⟨fun _ => ?_, fun h => absurd (show true = false from h) (by decide)⟩ | refine ⟨fun h => absurd (show false = true from h) (by decide), fun _ => ?_⟩
            (conv => whnf))
    refine AC.of_pc c1 rfl ?_
    conv => whnf
    refine AC.of_pc c2 rfl ?_
    conv => whnf
    rfl
  by_cases k7 : k = 7
  · subst k7
    obtain ⟨c1, c2, c3, c4⟩ := crashed_pc h nl p (by omega) hf.1 (by omega)
    obtain ⟨q, b, s, R', t1, t2⟩ := h.crashed (Gw.Wal.ba p)
    obtain ⟨d1, d2, d3, d4⟩ := crashed_pc t2 false p (by omega) c4.1 (by omega)
    obtain ⟨q', b', s', R'', u1, u2⟩ := t2.crashed (Gw.Wal.ba p)
    have e : Gw.Wal.step w 7 p = ((Gw.Wal.open_ (Gw.Disk.crash (Gw.Wal.open_ (Gw.Disk.crash w.disk (Gw.Wal.ba p))).wal.disk (Gw.Wal.ba p))).wal, (Gw.Wal.open_ (Gw.Disk.crash (Gw.Wal.open_ (Gw.Disk.crash w.disk (Gw.Wal.ba p))).wal.disk (Gw.Wal.ba p))).err) := rfl
    rw [e, u1.err]
    refine ⟨false, true, d4, ?_⟩
    refine PC.of tabOk mixed (fn := Tryd.f18) (by kernel_rfl) rfl (by kernel_rfl) rfl rfl ?_
    conv => whnf
    repeat (first | refine ⟨fun _ => ?_, fun h => absurd h (by decide)⟩ | refine ⟨fun h => absurd h (by decide), fun _ => ?_⟩ | refine ⟨fun _ => ?_, fun h => absurd (show true = false from h) (by decide)⟩ | refine ⟨fun h => absurd (show false = true from h) (by decide), fun _ => ?_⟩
            (conv => whnf))
    refine AC.of_pc c1 rfl ?_
    conv => whnf
    refine AC.of_pc c2 rfl ?_
    conv => whnf
    refine AC.of_pc d1 rfl ?_
    conv => whnf
    refine AC.of_pc d2 rfl ?_
    conv => whnf
    rfl
  have e : Gw.Wal.step w k p = (w, 0) := by
    unfold Gw.Wal.step
    rw [if_neg k1, if_neg k2, if_neg k3, if_neg k4, if_neg k5, if_neg k6, if_neg k7]
  rw [e]
  refine ⟨nl, nw, hf, ?_⟩
  refine PC.of tabOk mixed (fn := Tryd.f18) (by kernel_rfl) rfl (by kernel_rfl) rfl rfl ?_
  conv => whnf
  refine ⟨fun h => absurd (by simpa using h) k1, fun _ => ?_⟩
  conv => whnf
  refine ⟨fun h => absurd (by simpa using h) k2, fun _ => ?_⟩
  conv => whnf
  refine ⟨fun h => absurd (by simpa using h) k3, fun _ => ?_⟩
  conv => whnf
  refine ⟨fun h => absurd (by simpa using h) k4, fun _ => ?_⟩
  conv => whnf
  refine ⟨fun h => absurd (by simpa using h) k5, fun _ => ?_⟩
  conv => whnf
  refine ⟨fun h => absurd (by simpa using h) k6, fun _ => ?_⟩
  conv => whnf
  refine ⟨fun h => absurd (by simpa using h) k7, fun _ => ?_⟩
  conv => whnf
  rfl
/-- At most so many steps, of two hundred bytes. -/
theorem fewSt_pc (nil : Bool) (l : List (Int × List UInt8)) (most : Int) (hl : l.length ≤ 9223372036854775807) : PC Tryd.prog 10 [.lst nil 2 (l.map encSt) .none, .int .i64 most] (.bool (l.all (fun s => decide (s.2.length ≤ 200)) && decide ((l.length : Int) ≤ most))) := by
  have hel : (l.map encSt).length = l.length := List.length_map _
  refine PC.of tabOk mixed (fn := Tryd.f10) (by kernel_rfl) rfl (by kernel_rfl) rfl rfl ?_
  conv => whnf
  refine AW.loop (fun k : Nat => [(.tmp 0, .v (.lst nil 2 (l.map encSt) .none)), (.tmp 1, .v (.int .i64 most)), (.tmp 5, .v (.int .i64 k))]) 0 (fun k => k ≤ l.length ∧ (l.take k).all (fun s => decide (s.2.length ≤ 200)) = true) (fun k => l.length - k) (by decide) 0 ⟨Nat.zero_le _, rfl⟩ ⟨rfl, rfl, rfl, rfl, rfl, rfl, trivial⟩ ?_
  rintro k ⟨hk, hall⟩
  refine ev_sound tabOk mixed _ _ _ _ ?_
  conv => whnf
  refine ⟨fun h2 => ?_, fun h2 => ?_⟩
  · have h2 := of_decide_eq_true h2
    have hlt : k < l.length := by omega
    have htk : l.take (k + 1) = l.take k ++ [l[k]] := List.take_succ_eq_append_getElem hlt
    conv => whnf
    refine ⟨_, ⟨by omega, encSt_get hlt⟩, ?_⟩
    conv => whnf
    refine ⟨fun h3 => ?_, fun h3 => ?_⟩
    · have h3 := of_decide_eq_true h3
      have : l.all (fun s => decide (s.2.length ≤ 200)) = false := by
        rw [Bool.eq_false_iff]
        intro e
        have := of_decide_eq_true (List.all_eq_true.1 e _ (List.getElem_mem hlt))
        omega
      rw [this]
      conv => whnf
      rfl
    · have h3 := of_decide_eq_false h3
      conv => whnf
      refine ⟨k + 1, ⟨by omega, by rw [htk, List.all_append, hall]; simp; omega⟩, by show _ - (k + 1) < _ - k; omega, rfl, rfl, rfl, rfl, ?_, rfl, trivial⟩
      show C.v (V.int .i64 (IntKind.i64.wrap ((k : Int) + 1))) = _
      rw [w64 (by omega) (by omega)]; rfl
  · have h2 := of_decide_eq_false h2
    obtain rfl : k = l.length := by omega
    rw [List.take_length] at hall
    rw [hall]
    conv => whnf
    rw [hel]
    rfl
end Go.Proofs.YtjhblbipjljojaaDoor


namespace Go.Proofs.YtjhblbipjljojaaDoor
open Go.Am

def aw0 : Gw.Wal.Wal := (Gw.Wal.new 20).1
def aw1 : Gw.Wal.Wal := (Gw.Wal.append aw0 [97]).1
def aw2 : Gw.Wal.Wal := (Gw.Wal.spill aw1).1
def aw3 : Gw.Wal.Wal := Gw.Wal.sync aw2
def aw4 : Gw.Wal.Wal := (Gw.Wal.append aw3 [98]).1
def aw5 : Gw.Wal.Wal := (Gw.Wal.spill aw4).1
def aw6 : Gw.Wal.Wal := (Gw.Wal.mark aw5 [115, 116]).1
def aw7 : Gw.Wal.Wal := Gw.Wal.sync aw6
def aw8 : Gw.Wal.Wal := (Gw.Wal.wipe aw7).1
theorem aw_inv0 : Gw.Wal.Inv aw0 [] [] [] := (Gw.Wal.new_inv (by decide) (by kernel_rfl)).1
theorem aw_inv1 : Gw.Wal.Inv aw1 [] [] [] := aw_inv0.appended (by decide)
theorem inv_spill {w : Gw.Wal.Wal} {R : List (List UInt8)} {st mst : List UInt8} (h : Gw.Wal.Inv w R st mst) : ∃ R st mst, Gw.Wal.Inv (Gw.Wal.spill w).1 R st mst := by
  have h1 := h.step 2 (p := []) (by decide)
  have e : Gw.Wal.step w 2 [] = Gw.Wal.spill w := rfl
  rw [e] at h1
  exact h1
theorem inv_mark {w : Gw.Wal.Wal} {R : List (List UInt8)} {st mst : List UInt8} (h : Gw.Wal.Inv w R st mst) (s : List UInt8) (hs : s.length ≤ 200) : ∃ R st mst, Gw.Wal.Inv (Gw.Wal.mark w s).1 R st mst := by
  have h1 := h.step 4 hs
  have e : Gw.Wal.step w 4 s = Gw.Wal.mark w s := rfl
  rw [e] at h1
  exact h1
theorem inv_wipe {w : Gw.Wal.Wal} {R : List (List UInt8)} {st mst : List UInt8} (h : Gw.Wal.Inv w R st mst) : ∃ R st mst, Gw.Wal.Inv (Gw.Wal.wipe w).1 R st mst := by
  have h1 := h.step 5 (p := []) (by decide)
  have e : Gw.Wal.step w 5 [] = Gw.Wal.wipe w := rfl
  rw [e] at h1
  exact h1
theorem aw_inv2 : ∃ R st mst, Gw.Wal.Inv aw2 R st mst := inv_spill aw_inv1
theorem aw_inv3 : ∃ R st mst, Gw.Wal.Inv aw3 R st mst := let ⟨_, _, _, h⟩ := aw_inv2; ⟨_, _, _, h.sync⟩
theorem aw_inv4 : ∃ R st mst, Gw.Wal.Inv aw4 R st mst := let ⟨_, _, _, h⟩ := aw_inv3; ⟨_, _, _, h.appended (by decide)⟩
theorem aw_inv5 : ∃ R st mst, Gw.Wal.Inv aw5 R st mst := let ⟨_, _, _, h⟩ := aw_inv4; inv_spill h
theorem aw_inv6 : ∃ R st mst, Gw.Wal.Inv aw6 R st mst := let ⟨_, _, _, h⟩ := aw_inv5; inv_mark h _ (by decide)
theorem aw_inv7 : ∃ R st mst, Gw.Wal.Inv aw7 R st mst := let ⟨_, _, _, h⟩ := aw_inv6; ⟨_, _, _, h.sync⟩
theorem aw_inv8 : ∃ R st mst, Gw.Wal.Inv aw8 R st mst := let ⟨_, _, _, h⟩ := aw_inv7; inv_wipe h
theorem aw_v0 : newV 20 = .tup [encW true true aw0, .int .i64 0] := by kernel_rfl
theorem aw_v1 : appendV true true aw0 [97] = .tup [encW true false aw1, .int .i64 1, .int .i64 0] := by kernel_rfl
theorem aw_v2 : spillV true false aw1 = .tup [encW false true aw2, .int .i64 0] := by kernel_rfl
theorem aw_v3 : syncV true aw2 = encW true true aw3 := by kernel_rfl
theorem aw_v4 : appendV true true aw3 [98] = .tup [encW true false aw4, .int .i64 2, .int .i64 0] := by kernel_rfl
theorem aw_v5 : spillV true false aw4 = .tup [encW false true aw5, .int .i64 0] := by kernel_rfl
theorem aw_v6 : wmarkV false true aw5 [115, 116] = .tup [encW false true aw6, .int .i64 0] := by kernel_rfl
theorem aw_v6b : wipeV false true aw6 = .tup [encW false true aw6, .int .i64 140] := by kernel_rfl
theorem aw_v7 : syncV true aw6 = encW true true aw7 := by kernel_rfl
theorem aw_v8 : wipeV true true aw7 = .tup [encW false true aw8, .int .i64 0] := by kernel_rfl
theorem aw_n3 : newV 3 = .tup [encW true true Gw.Wal.nowal, .int .i64 120] := by kernel_rfl
theorem aw_l0 : aw0.disk.loose = [] ∧ aw1.disk.loose = [] ∧ aw3.disk.loose = [] ∧ aw4.disk.loose = [] ∧ aw7.disk.loose = [] := ⟨by kernel_rfl, by kernel_rfl, by kernel_rfl, by kernel_rfl, by kernel_rfl⟩
theorem aw_len : aw2.disk.loose.length ≤ 1000 ∧ aw5.disk.loose.length ≤ 1000 ∧ aw6.disk.loose.length ≤ 1000 ∧ aw8.disk.loose.length ≤ 1000 := ⟨of_decide_eq_true (by kernel_rfl), of_decide_eq_true (by kernel_rfl), of_decide_eq_true (by kernel_rfl), of_decide_eq_true (by kernel_rfl)⟩
theorem aw_w : aw2.waits = [] ∧ aw3.waits = [] ∧ aw5.waits = [] ∧ aw6.waits = [] ∧ aw7.waits = [] := ⟨by kernel_rfl, by kernel_rfl, by kernel_rfl, by kernel_rfl, by kernel_rfl⟩
theorem aw_o1 : (Gw.Wal.open_ (Gw.Disk.crash aw5.disk (Gw.Wal.ba []))).state = [] ∧ (Gw.Wal.open_ (Gw.Disk.crash aw5.disk (Gw.Wal.ba []))).recs = [[97]] ∧ (Gw.Wal.open_ (Gw.Disk.crash aw5.disk (Gw.Wal.ba []))).wal.next = 2 := ⟨by kernel_rfl, by kernel_rfl, by kernel_rfl⟩
theorem aw_o2 : (Gw.Wal.open_ aw8.disk).state = [115, 116] ∧ (Gw.Wal.open_ aw8.disk).recs = [] ∧ (Gw.Wal.open_ aw8.disk).err = 0 ∧ aw8.base = 3 ∧ aw8.disk.size = 20 := ⟨by kernel_rfl, by kernel_rfl, by kernel_rfl, by kernel_rfl, by kernel_rfl⟩
theorem aw_o3 : openedV (Gw.Disk.new 20) = .tup [encW true true Gw.Wal.nowal, .str [], .lst true 1 [] .none, .int .i64 140] := by kernel_rfl
set_option maxHeartbeats 2000000 in
theorem awake_pc : PC Tryd.prog 9 [] (.bool true) := by
  obtain ⟨_, _, _, i2⟩ := aw_inv2
  obtain ⟨_, _, _, i3⟩ := aw_inv3
  obtain ⟨_, _, _, i4⟩ := aw_inv4
  obtain ⟨_, _, _, i5⟩ := aw_inv5
  obtain ⟨_, _, _, i6⟩ := aw_inv6
  obtain ⟨_, _, _, i7⟩ := aw_inv7
  obtain ⟨l0, l1, l3, l4, l7⟩ := aw_l0
  obtain ⟨n2, n5, n6, n8⟩ := aw_len
  obtain ⟨w2, w3, w5, w6, w7⟩ := aw_w
  obtain ⟨o1, o2, o3⟩ := aw_o1
  obtain ⟨p1, p2, p3, p4, p5⟩ := aw_o2
  have i0 := aw_inv0
  have i1 := aw_inv1
  have c0 := wnew_pc 20
  rw [aw_v0] at c0
  have c1 := append_pc true true aw0 [97] (by have := i0.big; omega) (by have := i0.big; have := i0.nxt; omega)
  rw [aw_v1] at c1
  have c2 := spill_pc i1 true false (fun _ => l1) (by rw [l1]; decide)
  rw [aw_v2] at c2
  have c3 := sync_pc i2 false true (fun e => by cases e) (by omega)
  rw [aw_v3] at c3
  have c4 := append_pc true true aw3 [98] (by have := i3.big; omega) (by have := i3.big; have := i3.nxt; omega)
  rw [aw_v4] at c4
  have c5 := spill_pc i4 true false (fun _ => l4) (by rw [l4]; decide)
  rw [aw_v5] at c5
  obtain ⟨d1, d2, _, _⟩ := crashed_pc i5 false [] (by decide) (fun e => by cases e) (by omega)
  rw [o1, o2] at d2
  have c6 := wmark_pc i5 false true [115, 116] (by decide) (fun e => by cases e) (by omega)
  rw [aw_v6] at c6
  have c6b := wipe_pc i6 false true (fun e => by cases e) (fun _ => w6) (by omega)
  rw [aw_v6b] at c6b
  have c7 := sync_pc i6 false true (fun e => by cases e) (by omega)
  rw [aw_v7] at c7
  have c8 := wipe_pc i7 true true (fun _ => l7) (fun _ => w7) (by rw [l7]; decide)
  rw [aw_v8] at c8
  have c9 := wopen_pc false aw8.disk (fun e => by cases e) (by rw [p5]; unfold I64; decide) (by omega)
  rw [openedV_of p3, p1, p2] at c9
  have c10 := wnew_pc 3
  rw [aw_n3] at c10
  have c11 := new_pc 20
  have c12 := wopen_pc true (Gw.Disk.new 20) (fun _ => rfl) (by unfold I64; decide) (by decide)
  rw [aw_o3] at c12
  have cs := fun na nb => strSame_pc na nb [[97]] [[97]] (by decide)
  generalize (Gw.Wal.open_ (Gw.Disk.crash aw5.disk (Gw.Wal.ba []))).wal = ow at d2 o3
  generalize aw8 = z at c8 c9 p4
  refine PC.of tabOk mixed (fn := Tryd.f9) (by kernel_rfl) rfl (by kernel_rfl) rfl rfl ?_
  conv => whnf
  refine AC.of_pc c0 rfl ?_
  conv => whnf
  refine AC.of_pc c1 rfl ?_
  conv => whnf
  refine AC.of_pc c2 rfl ?_
  conv => whnf
  refine AC.of_pc c3 rfl ?_
  conv => whnf
  refine AC.of_pc c4 rfl ?_
  conv => whnf
  refine AC.of_pc c5 rfl ?_
  conv => whnf
  refine AC.of_pc d1 rfl ?_
  conv => whnf
  refine AC.of_pc d2 rfl ?_
  conv => whnf
  refine AC.of_pc c6 rfl ?_
  conv => whnf
  refine AC.of_pc c6b rfl ?_
  conv => whnf
  refine AC.of_pc c7 rfl ?_
  conv => whnf
  refine AC.of_pc c8 rfl ?_
  conv => whnf
  refine AC.of_pc c9 rfl ?_
  conv => whnf
  refine AC.of_pc c10 rfl ?_
  conv => whnf
  refine AC.of_pc c11 rfl ?_
  conv => whnf
  refine AC.of_pc c12 rfl ?_
  conv => whnf
  repeat (first | refine ⟨fun _ => ?_, fun h => absurd h (by decide)⟩ | refine ⟨fun h => absurd h (by decide), fun _ => ?_⟩ | refine ⟨fun _ => ?_, fun h => absurd (show true = false from h) (by decide)⟩ | refine ⟨fun h => absurd (show false = true from h) (by decide), fun _ => ?_⟩
          (conv => whnf))
  refine AC.of_pc (cs _ _) rfl ?_
  conv => whnf
  repeat (first | refine ⟨fun _ => ?_, fun h => absurd h (by decide)⟩ | refine ⟨fun h => absurd h (by decide), fun _ => ?_⟩ | refine ⟨fun _ => ?_, fun h => absurd (show true = false from h) (by decide)⟩ | refine ⟨fun h => absurd (show false = true from h) (by decide), fun _ => ?_⟩
          (conv => whnf))
  refine ⟨fun _ => ?_, fun h => absurd h (by rw [o3]; decide)⟩
  conv => whnf
  repeat (first | refine ⟨fun _ => ?_, fun h => absurd h (by decide)⟩ | refine ⟨fun h => absurd h (by decide), fun _ => ?_⟩ | refine ⟨fun _ => ?_, fun h => absurd (show true = false from h) (by decide)⟩ | refine ⟨fun h => absurd (show false = true from h) (by decide), fun _ => ?_⟩
          (conv => whnf))
  refine ⟨fun _ => ?_, fun h => absurd h (by rw [p4]; decide)⟩
  conv => whnf
  repeat (first | refine ⟨fun _ => ?_, fun h => absurd h (by decide)⟩ | refine ⟨fun h => absurd h (by decide), fun _ => ?_⟩ | refine ⟨fun _ => ?_, fun h => absurd (show true = false from h) (by decide)⟩ | refine ⟨fun h => absurd (show false = true from h) (by decide), fun _ => ?_⟩
          (conv => whnf))
  rfl
end Go.Proofs.YtjhblbipjljojaaDoor
