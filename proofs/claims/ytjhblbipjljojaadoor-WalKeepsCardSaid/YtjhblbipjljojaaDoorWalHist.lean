/- What was appended to a log, and its marks, through steps and crashes: plain Lean. -/
import Derived.Test.YtjhblbipjljojaaDoorWalPl
namespace Gw.Wal
open Gw.Disk (Disk)
variable {w : Wal} {R : List (List UInt8)} {st mst : List UInt8}

/-- All that was appended, and the marks' states and bases, beside a log. -/
structure Hist (all : List (List UInt8)) (sts : List (List UInt8)) (bss : List Nat) (w : Wal) : Prop where
  ls : sts.length = 210
  lb : bss.length = 210
  len : all.length + 1 = w.next
  inv : ∃ R st mst, Inv w R st mst ∧ (∃ pre, pre.length + 1 = w.base ∧ all = pre ++ (R ++ w.waits)) ∧ sts[w.seq]? = some st ∧ bss[w.seq]? = some w.base ∧
    (w.marked ≠ 0 → sts[w.seq + 1]? = some mst ∧ bss[w.seq + 1]? = some w.markNext)
variable {all : List (List UInt8)} {sts : List (List UInt8)} {bss : List Nat}

theorem Hist.step (h : Hist all sts bss w) {k : Int} {p : List UInt8} (hp : p.length ≤ 200) (h4 : k = 4 → w.marked = 0 → w.seq < 200 → False) (h6 : k ≠ 6) (h7 : k ≠ 7) :
    Hist (if k = 1 ∧ (Gw.Wal.step w k p).2 = 0 then all ++ [p] else all) sts bss (Gw.Wal.step w k p).1 := by
  obtain ⟨ls, lb, len, R, st, mst, hI, ⟨pre, hpre, hall⟩, hs, hb, hm⟩ := h
  have same : Hist all sts bss w := ⟨ls, lb, len, R, st, mst, hI, ⟨pre, hpre, hall⟩, hs, hb, hm⟩
  by_cases k1 : k = 1
  · subst k1
    have e : Gw.Wal.step w 1 p = ((Gw.Wal.append w p).1, (Gw.Wal.append w p).2.2) := rfl
    have ha := hI.appended hp
    rw [e]
    unfold Gw.Wal.append at ha ⊢
    split
    · rename_i hc
      rw [if_neg (fun e => by cases e.2)]
      exact same
    · rename_i hc
      rw [if_neg hc] at ha
      rw [if_pos ⟨rfl, rfl⟩]
      exact ⟨ls, lb, by simp only [List.length_append, List.length_singleton]; omega, R, st, mst, ha, ⟨pre, hpre, by rw [hall]; simp⟩, hs, hb, hm⟩
  rw [if_neg (fun e => k1 e.1)]
  by_cases k2 : k = 2
  · subst k2
    have e : Gw.Wal.step w 2 p = Gw.Wal.spill w := rfl
    rw [e]
    rcases hI.spill with ⟨_, g⟩ | ⟨_, _, _, g⟩ | ⟨_, g1, g2, g3, g4, g5, g6, g7, g8, g9⟩
    · rw [g]; exact same
    · rw [g]; exact same
    · exact ⟨ls, lb, by rw [g8]; exact len, R ++ w.waits, st, mst, g2, ⟨pre, by rw [g6]; exact hpre, by rw [g3, List.append_nil]; exact hall⟩, by rw [g7]; exact hs, by rw [g7, g6]; exact hb, fun hne => absurd g9 hne⟩
  by_cases k3 : k = 3
  · subst k3
    have hsy := hI.sync
    show Hist all sts bss (Gw.Wal.sync w)
    have e1 : (Gw.Wal.sync w).next = w.next ∧ (Gw.Wal.sync w).base = w.base ∧ (Gw.Wal.sync w).waits = w.waits ∧ (Gw.Wal.sync w).seq = w.seq ∧ (Gw.Wal.sync w).markNext = w.markNext ∧ ((Gw.Wal.sync w).marked ≠ 0 → w.marked ≠ 0) := by
      unfold Gw.Wal.sync
      split
      · exact ⟨rfl, rfl, rfl, rfl, rfl, fun h => h⟩
      · rename_i h; exact ⟨rfl, rfl, rfl, rfl, rfl, fun _ => h⟩
    obtain ⟨f1, f2, f3, f4, f5, f6⟩ := e1
    exact ⟨ls, lb, by rw [f1]; exact len, R, st, mst, hsy, ⟨pre, by rw [f2]; exact hpre, by rw [f3]; exact hall⟩, by rw [f4]; exact hs, by rw [f4, f2]; exact hb, fun hne => by rw [f4, f5]; exact hm (f6 hne)⟩
  by_cases k4 : k = 4
  · subst k4
    have e : Gw.Wal.step w 4 p = Gw.Wal.mark w p := rfl
    rw [e]
    rcases hI.mark hp with ⟨_, g⟩ | ⟨_, g1, g2, _⟩
    · rw [g]; exact same
    · exact absurd (h4 rfl g1 g2) id
  by_cases k5 : k = 5
  · subst k5
    have e : Gw.Wal.step w 5 p = Gw.Wal.wipe w := rfl
    rw [e]
    rcases hI.wipe with ⟨_, g⟩ | ⟨_, g1, g2, g3, g4, g5, g6, g7, g8, g9⟩
    · rw [g]; exact same
    · obtain ⟨m1, m2⟩ := hm (by omega)
      obtain ⟨_, _, k3, k4, _⟩ := hI.mkk (by omega)
      have hsp := hI.spl
      refine ⟨ls, lb, by rw [g6]; exact len, [], mst, [], g2, ⟨pre ++ (R ++ w.waits.take w.markMany), ?_, ?_⟩, by rw [g5]; exact m1, by rw [g5, g4]; exact m2, fun hne => absurd g8 hne⟩
      · rw [g4, k3]; simp only [List.length_append, List.length_take]; omega
      · rw [g3, hall]; simp only [List.nil_append, List.append_assoc, List.take_append_drop]
  have e : Gw.Wal.step w k p = (w, 0) := by
    unfold Gw.Wal.step
    rw [if_neg k1, if_neg k2, if_neg k3, if_neg k4, if_neg k5, if_neg h6, if_neg h7]
  rw [e]
  exact same
theorem Hist.mark (h : Hist all sts bss w) {p : List UInt8} (hp : p.length ≤ 200) (hq : w.seq < 200) :
    Hist all (if (Gw.Wal.mark w p).2 = 0 then sts.set (w.seq + 1) p else sts) (if (Gw.Wal.mark w p).2 = 0 then bss.set (w.seq + 1) w.next else bss) (Gw.Wal.mark w p).1 := by
  obtain ⟨ls, lb, len, R, st, mst, hI, ⟨pre, hpre, hall⟩, hs, hb, hm⟩ := h
  rcases hI.mark hp with ⟨g0, g⟩ | ⟨g0, g1, g2, g3, g4, g5, g6, g7, g8, g9, g10, g11, g12⟩
  · rw [if_neg g0, if_neg g0, g]
    exact ⟨ls, lb, len, R, st, mst, hI, ⟨pre, hpre, hall⟩, hs, hb, hm⟩
  · rw [if_pos g0, if_pos g0]
    refine ⟨by rw [List.length_set]; exact ls, by rw [List.length_set]; exact lb, by rw [g9]; exact len, R, st, p, g3, ⟨pre, by rw [g7]; exact hpre, by rw [g4]; exact hall⟩, ?_, ?_, fun _ => ⟨?_, ?_⟩⟩
    · rw [g8, List.getElem?_set_ne (by omega)]; exact hs
    · rw [g8, g7, List.getElem?_set_ne (by omega)]; exact hb
    · rw [g8, List.getElem?_set_self (by omega)]
    · rw [g8, g11, List.getElem?_set_self (by omega)]
/-- What is told behind a crash. -/
structure Back (all : List (List UInt8)) (sts : List (List UInt8)) (bss : List Nat) (w : Wal) (o : Opened) : Prop where
  hist : Hist (all.take (o.wal.next - 1)) sts bss o.wal
  err : o.err = 0
  base : bss[o.wal.seq]? = some o.wal.base
  state : sts[o.wal.seq]? = some o.state
  next : o.wal.next = o.wal.base + o.recs.length
  kept : w.kept + 1 ≤ o.wal.next
  most : o.wal.next ≤ all.length + 1
  kept' : o.wal.kept + 1 = o.wal.next
  recs : o.recs = (all.take (o.wal.next - 1)).drop (o.wal.base - 1)
theorem Hist.crash (h : Hist all sts bss w) (p : List UInt8) : Back all sts bss w (open_ (Gw.Disk.crash w.disk (ba p))) := by
  obtain ⟨ls, lb, len, R, st, mst, hI, ⟨pre, hpre, hall⟩, hs, hb, hm⟩ := h
  obtain ⟨q, b, s, R', t, hI'⟩ := hI.crashed (ba p)
  have hnx := hI.nxt
  have hsp := hI.spl
  generalize open_ (Gw.Disk.crash w.disk (ba p)) = o at *
  have main : ∀ (pre' rest : List (List UInt8)), pre'.length + 1 = b → all = pre' ++ (R' ++ rest) → sts[q]? = some s → bss[q]? = some b → w.kept + 1 ≤ b + R'.length → Back all sts bss w o := by
    intro pre' rest hp' hr h1 h2 h3
    have hlen := congrArg List.length hr
    simp only [List.length_append] at hlen
    have htk : all.take (o.wal.next - 1) = pre' ++ R' := by
      rw [t.next, hr, ← List.append_assoc, List.take_left' (by rw [List.length_append]; omega)]
    exact {
      hist := ⟨ls, lb, by rw [List.length_take, t.next]; omega, R', s, [], hI', ⟨pre', by rw [t.base]; exact hp', by rw [htk, t.waits, List.append_nil]⟩, by rw [t.seq]; exact h1, by rw [t.seq, t.base]; exact h2, fun hne => absurd t.marked hne⟩
      err := t.err
      base := by rw [t.seq, t.base]; exact h2
      state := by rw [t.seq, t.state]; exact h1
      next := by rw [t.next, t.base, t.recs]
      kept := by rw [t.next]; exact h3
      most := by rw [t.next]; omega
      kept' := by rw [t.kept, t.next]
      recs := by rw [htk, t.recs, t.base, List.drop_left' (by omega)] }
  rcases t.how with ⟨_, rfl, rfl, rfl, m, h1, rfl, h2, _⟩ | ⟨h1, rfl, rfl, rfl, rfl⟩
  · exact main pre (R.drop m ++ w.waits) hpre (by rw [hall, ← List.append_assoc (R.take m), List.take_append_drop]) hs hb (by rw [List.length_take]; omega)
  · obtain ⟨m1, m2⟩ := hm h1
    obtain ⟨_, k2, k3, k4, _⟩ := hI.mkk h1
    have hk : w.kept + 1 ≤ w.markNext := by
      by_cases h2 : w.marked = 2
      · have := hI.kp2 h2; omega
      · have := hI.kp h2; omega
    refine main (pre ++ (R ++ w.waits.take w.markMany)) (w.waits.drop w.markMany) ?_ ?_ m1 m2 (by simpa using hk)
    · simp only [List.length_append, List.length_take]; omega
    · rw [hall]; simp only [List.nil_append, List.append_assoc, List.take_append_drop]
end Gw.Wal
