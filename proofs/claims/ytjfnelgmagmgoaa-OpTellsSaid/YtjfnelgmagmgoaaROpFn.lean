/- What the document's answer for op's Take computes, in plain Lean: it is the program's. -/
import Derived.Test.YtjfnelgmagmgoaaOpLaw
namespace Gw.Op
open Gw.Vlq Gw.Stamp
def rnum (rest : List UInt8) : Nat × List UInt8 := match Gw.Vlq.take rest with | none => (0, []) | some (n, u) => (n, rest.drop u)
def rtxt (rest : List UInt8) : List UInt8 := match Go.Proofs.Ytjfnelgmagmgoaa.takeText rest with | none => [] | some (n, u) => (rest.drop u).take n
def rst (b : List UInt8) : Nat → List UInt8
  | 0 => b
  | i + 1 => (rnum (rst b i)).2
def rnm (b : List UInt8) (i : Nat) : Nat := (rnum (rst b i)).1
/-- The operation that bytes may begin with. -/
def parse (b : List UInt8) : Op := if rnm b 2 = 1 then ⟨⟨rnm b 0, rnm b 1⟩, rnm b 2, rnm b 3, rnm b 4, rtxt (rst b 5), []⟩ else ⟨⟨rnm b 0, rnm b 1⟩, rnm b 2, rnm b 3, 0, [], rtxt (rst b 4)⟩
theorem rnum_app {n : Nat} (h : n < 9223372036854775808) (l : List UInt8) : rnum (one n ++ l) = (n, l) := by
  unfold rnum; rw [take_one n h]; simp only [drop_one]
theorem rtxt_app (t r : List UInt8) (h : t.length < 9223372036854775808) : rtxt (one t.length ++ (t ++ r)) = t := by
  unfold rtxt
  rw [takeText_one t r h]
  simp only
  rw [drop_one, List.take_left]
theorem parse_bytes {o : Op} (h : check o = true) (r : List UInt8) : parse (bytes o ++ r) = o := by
  have hn := (text_le h).1
  obtain ⟨hc, hr, hk, hnode, hp⟩ := check_bounds h
  have ec : ((o.at_.c.toNat : Nat) : Int) = o.at_.c := by omega
  have er : ((o.at_.r.toNat : Nat) : Int) = o.at_.r := by omega
  have en : ((o.node.toNat : Nat) : Int) = o.node := by omega
  have ep : ((o.parent.toNat : Nat) : Int) = o.parent := by omega
  obtain ⟨⟨c, rr⟩, kind, node, parent, name, data⟩ := o
  simp only at hc hr hk hnode hp ec er en ep hn
  rcases check_texts h with ⟨rfl, e1⟩ | ⟨rfl, e1, e2, e3⟩
  · simp only at e1
    subst e1
    rw [bytes_move rfl]
    simp only [List.append_assoc]
    generalize hb : one c.toNat ++ _ = b
    have s0 : rnum (rst b 0) = (c.toNat, one rr.toNat ++ (one 1 ++ (one node.toNat ++ (one parent.toNat ++ (one name.length ++ (name ++ r)))))) := by rw [← hb]; exact rnum_app (by omega) _
    have s1 : rnum (rst b 1) = (rr.toNat, one 1 ++ (one node.toNat ++ (one parent.toNat ++ (one name.length ++ (name ++ r))))) := by rw [rst, s0]; exact rnum_app (by omega) _
    have s2 : rnum (rst b 2) = (1, one node.toNat ++ (one parent.toNat ++ (one name.length ++ (name ++ r)))) := by rw [rst, s1]; exact rnum_app (by omega) _
    have s3 : rnum (rst b 3) = (node.toNat, one parent.toNat ++ (one name.length ++ (name ++ r))) := by rw [rst, s2]; exact rnum_app (by omega) _
    have s4 : rnum (rst b 4) = (parent.toNat, one name.length ++ (name ++ r)) := by rw [rst, s3]; exact rnum_app (by omega) _
    have s5 : rtxt (rst b 5) = name := by rw [rst, s4]; exact rtxt_app name r (by omega)
    unfold parse rnm
    rw [s0, s1, s2, s3, s4, s5, if_pos rfl]
    simp only
    rw [ec, er, en, ep]
    rfl
  · simp only at e1 e2 e3
    subst e1 e2
    rw [bytes_write rfl]
    simp only [List.append_assoc]
    generalize hb : one c.toNat ++ _ = b
    have s0 : rnum (rst b 0) = (c.toNat, one rr.toNat ++ (one 2 ++ (one node.toNat ++ (one data.length ++ (data ++ r))))) := by rw [← hb]; exact rnum_app (by omega) _
    have s1 : rnum (rst b 1) = (rr.toNat, one 2 ++ (one node.toNat ++ (one data.length ++ (data ++ r)))) := by rw [rst, s0]; exact rnum_app (by omega) _
    have s2 : rnum (rst b 2) = (2, one node.toNat ++ (one data.length ++ (data ++ r))) := by rw [rst, s1]; exact rnum_app (by omega) _
    have s3 : rnum (rst b 3) = (node.toNat, one data.length ++ (data ++ r)) := by rw [rst, s2]; exact rnum_app (by omega) _
    have s4 : rtxt (rst b 4) = data := by rw [rst, s3]; exact rtxt_app data r (by omega)
    unfold parse rnm
    rw [s0, s1, s2, s3, s4, if_neg (by simp only; omega)]
    simp only
    rw [ec, er, en]
    rfl
/-- It is the program's Take. -/
theorem take_ref (b : List UInt8) : take b = if check (parse b) = true ∧ (bytes (parse b)).length ≤ b.length ∧ b.take (bytes (parse b)).length = bytes (parse b) then some (parse b, b.drop (bytes (parse b)).length) else none := by
  split
  · rename_i h
    obtain ⟨h1, h2, h3⟩ := h
    have e : b.take (bytes (parse b)).length ++ b.drop (bytes (parse b)).length = b := List.take_append_drop _ _
    rw [h3] at e
    have ht := take_bytes h1 (b.drop (bytes (parse b)).length)
    rw [e] at ht
    exact ht
  · rename_i h
    cases ht : take b with
    | none => rfl
    | some p =>
      obtain ⟨o, r⟩ := p
      obtain ⟨h1, h2⟩ := take_own' ht
      have h3 := parse_bytes h1 r
      rw [← h2] at h3
      refine absurd ⟨?_, ?_, ?_⟩ h
      · rw [h3]; exact h1
      · rw [h3, h2, List.length_append]; omega
      · rw [h3, h2, List.take_left]
theorem rst_len (b : List UInt8) : ∀ i, (rst b i).length ≤ b.length
  | 0 => Nat.le_refl _
  | i + 1 => by
    have := rst_len b i
    show (rnum (rst b i)).2.length ≤ _
    unfold rnum
    split
    · exact Nat.zero_le _
    · simp only [List.length_drop]; omega
theorem rnm_lt (b : List UInt8) (i : Nat) : rnm b i < 9223372036854775808 := by
  unfold rnm rnum
  split
  · exact Nat.zero_lt_succ _
  · rename_i n u h; exact (takeF_some _ 0 0 n u (by omega) h).2.2
theorem rtxt_len (s : List UInt8) : (rtxt s).length ≤ s.length := by
  unfold rtxt
  split
  · exact Nat.zero_le _
  · simp only [List.length_take, List.length_drop]; omega
end Gw.Op
