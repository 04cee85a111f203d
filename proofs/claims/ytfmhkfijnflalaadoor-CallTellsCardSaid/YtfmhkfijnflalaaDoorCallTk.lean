/- What the methods of call.source do: numbers and texts are taken from the front, or they panic. No claim of its own. -/
import Derived.Test.YtfmhkfijnflalaaDoorACall2
import Derived.Test.YtfmhkfijnflalaaDoorVlqTake
import Derived.Defers
import Derived.Recover
namespace Go.Proofs.YtfmhkfijnflalaaDoor
open Go.RowKit Go.Am

/-- The bytes that are left lie there. -/
def AtS (b : Nat) (l : List UInt8) (w : World) : Prop := w.heap[b]? = some (.cells [.string ⟨l.toArray⟩].toArray 51 (0, 0))
/-- Nothing has turned but what is left, and what is new. -/
structure Mv (b : Nat) (l : List UInt8) (w w' : World) : Prop where
  os : w'.os = w.os
  tape : w'.tape = w.tape
  output : w'.output = w.output
  size : w.heap.size ≤ w'.heap.size
  block : ∀ k, k < w.heap.size → k ≠ b → w'.heap[k]? = w.heap[k]?
  at_ : AtS b l w'
theorem AtS.lt {b : Nat} {l : List UInt8} {w : World} (h : AtS b l w) : b < w.heap.size := (Array.getElem?_eq_some_iff.1 h).1
theorem AtS.cell {b : Nat} {l : List UInt8} {w : World} (h : AtS b l w) : w.cell? ⟨b, 0, none⟩ = some (.string ⟨l.toArray⟩) := by rw [cell_row h]; rfl
theorem AtS.below {b : Nat} {l : List UInt8} {w w' : World} (h : AtS b l w) (hb : Below w.heap.size w w') : AtS b l w' := (hb.block b h.lt).trans h
theorem AtS.set {b : Nat} {l l' : List UInt8} {w w' : World} (h : AtS b l w) (hb : Below w.heap.size w w') : Mv b l' w (w'.setCell ⟨b, 0, none⟩ (.string ⟨l'.toArray⟩)) := by
  obtain ⟨s1, s2, _, _⟩ := setCells_of_store b 0 [.string ⟨l'.toArray⟩] (h.below hb) (by simp) (fun o _ ho => by simp at ho) (fun u hu => by simp at hu; subst hu; rfl)
  have s1' : Wr b w' (w'.setCell ⟨b, 0, none⟩ (.string ⟨l'.toArray⟩)) := s1
  exact ⟨s1'.os.trans hb.os, s1'.tape.trans hb.tape, s1'.output.trans hb.output, by rw [s1'.size]; exact hb.size, fun k hk hne => (s1'.block k hne).trans (hb.block k hk), s2⟩
theorem ext_drop (l : List UInt8) (u : Nat) : ByteArray.extract ⟨l.toArray⟩ u (ByteArray.size ⟨l.toArray⟩) = ⟨(l.drop u).toArray⟩ := by
  have : (ByteArray.extract ⟨l.toArray⟩ u (ByteArray.size ⟨l.toArray⟩)).data = (l.drop u).toArray := by
    apply Array.toList_inj.1
    show (ByteArray.extract ⟨l.toArray⟩ u l.length).data.toList = _
    simp [ByteArray.data_extract, List.extract_eq_take_drop]
    exact List.take_of_length_le (by simp)
  cases h : ByteArray.extract ⟨l.toArray⟩ u (ByteArray.size ⟨l.toArray⟩) with
  | mk d => rw [h] at this; simp at this; rw [this]

/-- What is told of bytes that are none. -/
abbrev brokenE : PanicEntry := { v := .iface 48 (.agg #[.int .i64 180]), recovered := false }
set_option maxHeartbeats 1000000 in
theorem number_ok (b : Nat) (l : List UInt8) (hl : l.length < 1000000000000) {n u : Nat} (ht : Gw.Vlq.take l = some (n, u)) (w : World) (h : AtS b l w) :
    Calls Tryd.prog 38 #[.pointer (some ⟨b, 0, none⟩)] w fun e w' => e = .returned (.int .i64 n) ∧ Mv b (l.drop u) w w' := by
  have h0 := h.cell
  have hT := take_any ⟨l.toArray⟩ hl w
  rw [takeRes_some ht] at hT
  rw [ext_drop] at hT
  go_enter Tryd.func38, Tryd.ntmps38
  go_wp2_with fail
  refine hT.mono ?_
  rintro e w1 ⟨rfl, hb1⟩
  have hM := h.set (l' := l.drop u) hb1
  have h1 := (h.below hb1).cell
  have h2 : w1.frozen? ⟨b, 0, none⟩ = false := frozen_row (h.below hb1) (by simp)
  go_wp2
  go_ret
  exact ⟨rfl, hM⟩
set_option maxHeartbeats 1000000 in
theorem number_bad (b : Nat) (l : List UInt8) (hl : l.length < 1000000000000) (ht : Gw.Vlq.take l = none) (w : World) (h : AtS b l w) :
    Calls Tryd.prog 38 #[.pointer (some ⟨b, 0, none⟩)] w fun e w' => e = .panicked [brokenE] ∧ Below w.heap.size w w' := by
  have h0 := h.cell
  have hT := take_any ⟨l.toArray⟩ hl w
  rw [takeRes_none ht] at hT
  go_enter Tryd.func38, Tryd.ntmps38
  go_wp2_with fail
  refine hT.mono ?_
  rintro e w1 ⟨rfl, hb1⟩
  go_wp2
  exact ⟨rfl, rfl, hb1⟩
theorem text_some {l : List UInt8} {n u : Nat} (ht : takeText l = some (n, u)) : takeTextRes ⟨l.toArray⟩ = .tuple #[.string ⟨((l.drop u).take n).toArray⟩, .string ⟨(l.drop (u + n)).toArray⟩, .int .i64 0] := by
  unfold takeTextRes
  rw [show takeText (ByteArray.data ⟨l.toArray⟩).toList = some (n, u) from ht]
  show Value.tuple #[.string (ByteArray.extract ⟨l.toArray⟩ u (u + n)), .string (ByteArray.extract ⟨l.toArray⟩ (u + n) (ByteArray.size ⟨l.toArray⟩)), _] = _
  rw [ext_drop]
  have : (ByteArray.extract ⟨l.toArray⟩ u (u + n)).data = ((l.drop u).take n).toArray := by
    apply Array.toList_inj.1
    simp [ByteArray.data_extract, List.extract_eq_take_drop]
  cases h : ByteArray.extract ⟨l.toArray⟩ u (u + n) with
  | mk d => rw [h] at this; simp at this; rw [this]
theorem text_none {l : List UInt8} (ht : takeText l = none) : takeTextRes ⟨l.toArray⟩ = .tuple #[.string ⟨#[]⟩, .string ⟨#[]⟩, .int .i64 40] := by
  unfold takeTextRes
  rw [show takeText (ByteArray.data ⟨l.toArray⟩).toList = none from ht]
set_option maxHeartbeats 1000000 in
theorem text_ok (b : Nat) (l : List UInt8) (hl : l.length < 1000000000000) {n u : Nat} (ht : takeText l = some (n, u)) (w : World) (h : AtS b l w) :
    Calls Tryd.prog 39 #[.pointer (some ⟨b, 0, none⟩)] w fun e w' => e = .returned (.string ⟨((l.drop u).take n).toArray⟩) ∧ Mv b (l.drop (u + n)) w w' := by
  have h0 := h.cell
  have hT := takeText_any ⟨l.toArray⟩ hl w
  rw [text_some ht] at hT
  go_enter Tryd.func39, Tryd.ntmps39
  go_wp2_with fail
  refine hT.mono ?_
  rintro e w1 ⟨rfl, hb1⟩
  have hM := h.set (l' := l.drop (u + n)) hb1
  have h1 := (h.below hb1).cell
  have h2 : w1.frozen? ⟨b, 0, none⟩ = false := frozen_row (h.below hb1) (by simp)
  go_wp2
  go_ret
  exact ⟨rfl, hM⟩
set_option maxHeartbeats 1000000 in
theorem text_bad (b : Nat) (l : List UInt8) (hl : l.length < 1000000000000) (ht : takeText l = none) (w : World) (h : AtS b l w) :
    Calls Tryd.prog 39 #[.pointer (some ⟨b, 0, none⟩)] w fun e w' => e = .panicked [brokenE] ∧ Below w.heap.size w w' := by
  have h0 := h.cell
  have hT := takeText_any ⟨l.toArray⟩ hl w
  rw [text_none ht] at hT
  go_enter Tryd.func39, Tryd.ntmps39
  go_wp2_with fail
  refine hT.mono ?_
  rintro e w1 ⟨rfl, hb1⟩
  go_wp2
  exact ⟨rfl, rfl, hb1⟩
end Go.Proofs.YtfmhkfijnflalaaDoor
