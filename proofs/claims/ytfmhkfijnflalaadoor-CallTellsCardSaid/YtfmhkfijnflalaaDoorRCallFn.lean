/- What the document's answer for call's Take computes, in plain Lean: it is the program's. -/
import Derived.Test.YtfmhkfijnflalaaDoorCallLaw
namespace Gw.Call
open Gw.Vlq
def rnum (rest : List UInt8) : Nat × List UInt8 := match Gw.Vlq.take rest with | none => (0, []) | some (n, u) => (n, rest.drop u)
def rtxt (rest : List UInt8) : List UInt8 × List UInt8 := match Go.Proofs.YtfmhkfijnflalaaDoor.takeText rest with | none => ([], []) | some (n, u) => ((rest.drop u).take n, rest.drop (u + n))
def oText (b : Bool) (l : List UInt8) : List UInt8 × List UInt8 := bif b then rtxt l else ([], l)
def parseP (p : Parts) (k : Int) (l : List UInt8) : Call := ⟨k, (oText p.path l).1, (oText p.to (oText p.path l).2).1, (oText p.data (oText p.to (oText p.path l).2).2).1, bif p.n then ((rnum (oText p.data (oText p.to (oText p.path l).2).2).2).1 : Int) else 0⟩
/-- The call that bytes may begin with. -/
def parse (b : List UInt8) : Call := parseP ((has ((rnum b).1 : Nat)).getD ⟨false, false, false, false⟩) ((rnum b).1 : Nat) (rnum b).2
theorem tText_o {b : Bool} {l t r : List UInt8} (h : tText b l = some (t, r)) : oText b l = (t, r) := by
  unfold tText at h
  unfold oText rtxt
  cases b with
  | false => rw [if_neg (by decide)] at h; cases h; rfl
  | true =>
    rw [if_pos rfl] at h
    rw [cond_true]
    split at h
    · cases h
    · rename_i n u hh
      rw [hh]
      cases h
      rfl
theorem tNum_o {b : Bool} {l r : List UInt8} {n : Int} (h : tNum b l = some (n, r)) : (bif b then ((rnum l).1 : Int) else 0) = n := by
  unfold tNum at h
  unfold rnum
  cases b with
  | false => rw [if_neg (by decide)] at h; cases h; rfl
  | true =>
    rw [if_pos rfl] at h
    rw [cond_true]
    split at h
    · cases h
    · rename_i n u hh
      rw [hh]
      cases h
      rfl
theorem parse_take {l r : List UInt8} {c : Call} (h : take l = some (c, r)) : parse l = c := by
  unfold take at h
  split at h
  · cases h
  rename_i k u hk
  unfold t0 at h
  split at h
  · cases h
  rename_i p hp
  have e0 : rnum l = (k, l.drop u) := by unfold rnum; rw [hk]
  unfold parse
  rw [e0]
  simp only
  rw [hp, Option.getD_some]
  generalize l.drop u = l0 at *
  unfold t1 at h
  split at h
  · cases h
  rename_i a r1 h1
  unfold t2 at h
  split at h
  · cases h
  rename_i b r2 h2
  unfold t3 at h
  split at h
  · cases h
  rename_i d r3 h3
  unfold t4 at h
  split at h
  · cases h
  rename_i n r4 h4
  unfold done at h
  split at h
  · cases h
    unfold parseP
    rw [tText_o h1]
    simp only
    rw [tText_o h2]
    simp only
    rw [tText_o h3]
    simp only
    rw [tNum_o h4]
  · cases h
theorem rnum_lt (l : List UInt8) : (rnum l).1 < 9223372036854775808 := by
  unfold rnum
  split
  · exact Nat.zero_lt_succ _
  · rename_i n u h; exact (takeF_some _ 0 0 n u (by omega) h).2.2
theorem rnum_len (l : List UInt8) : (rnum l).2.length ≤ l.length := by
  unfold rnum
  split
  · exact Nat.zero_le _
  · simp only [List.length_drop]; omega
theorem oText_len (b : Bool) (l : List UInt8) : (oText b l).1.length ≤ l.length ∧ (oText b l).2.length ≤ l.length := by
  unfold oText rtxt
  cases b with
  | false => exact ⟨Nat.zero_le _, Nat.le_refl _⟩
  | true =>
    rw [cond_true]
    split
    · exact ⟨Nat.zero_le _, Nat.zero_le _⟩
    · simp only [List.length_take, List.length_drop]; omega
theorem parse_n (l : List UInt8) : Nn (parse l) := by
  unfold parse parseP Nn
  simp only
  generalize (has _).getD _ = p
  generalize (oText p.data _).2 = q
  have := rnum_lt q
  cases p.n <;> simp <;> omega
theorem parse_len (l : List UInt8) : (parse l).path.length ≤ l.length ∧ (parse l).to.length ≤ l.length := by
  have h0 := rnum_len l
  unfold parse parseP
  simp only
  generalize (has _).getD _ = p
  have h1 := oText_len p.path (rnum l).2
  have h2 := oText_len p.to (oText p.path (rnum l).2).2
  omega
/-- It is the program's Take. -/
theorem take_ref (b : List UInt8) : take b = if check (parse b) = true ∧ (bytes (parse b)).length ≤ b.length ∧ b.take (bytes (parse b)).length = bytes (parse b) then some (parse b, b.drop (bytes (parse b)).length) else none := by
  split
  · rename_i h
    obtain ⟨h1, h2, h3⟩ := h
    have e : b.take (bytes (parse b)).length ++ b.drop (bytes (parse b)).length = b := List.take_append_drop _ _
    rw [h3] at e
    have ht := take_bytes h1 (parse_n b) (b.drop (bytes (parse b)).length)
    rw [e] at ht
    exact ht
  · rename_i h
    cases ht : take b with
    | none => rfl
    | some p =>
      obtain ⟨o, r⟩ := p
      obtain ⟨h1, h2⟩ := take_own' ht
      have h3 := parse_take ht
      refine absurd ⟨?_, ?_, ?_⟩ h
      · rw [h3]; exact h1
      · rw [h3, h2, List.length_append]; omega
      · rw [h3, h2, List.take_left]
end Gw.Call
