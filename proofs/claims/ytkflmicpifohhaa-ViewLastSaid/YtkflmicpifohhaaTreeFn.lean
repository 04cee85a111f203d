/- Operations on nodes, in plain Lean: no program in sight. -/
import Derived.Test.YtkflmicpifohhaaNodeFn
import Derived.Test.YtkflmicpifohhaaOpFn
namespace Gw.Tree
open Gw.Op (Op)
structure Undo where
  did : Bool
  had : Bool
  was : Node
/-- Would a node be in itself? -/
def loops (l : List Node) (o : Op) : Bool := decide (o.parent = o.node) || (climb l l.length o.parent).contains o.node
def freshN (id : Int) : Node := ⟨id, -1, [], ⟨0, 0⟩, [], ⟨0, 0⟩⟩
def turned (n : Node) (o : Op) : Node := if o.kind = 1 then ⟨n.id, o.parent, o.name, o.at_, n.data, n.wrote⟩ else ⟨n.id, n.parent, n.name, n.moved, o.data, o.at_⟩
/-- Is an operation done? -/
def may (l : List Node) (o : Op) : Bool := check l && (Gw.Op.check o && !(decide (o.kind = 1) && loops l o))
def upto (l : List Node) (id : Int) : Nat := if had l id = true then pos l id + 1 else pos l id
def done (l : List Node) (o : Op) : List Node := if may l o = true then l.take (pos l o.node) ++ [turned ((find l o.node).getD (freshN o.node)) o] ++ l.drop (upto l o.node) else l
def undo (l : List Node) (o : Op) : Undo := if may l o = true then ⟨true, had l o.node, (find l o.node).getD zeroN⟩ else ⟨false, false, zeroN⟩
theorem turned_id (n : Node) (o : Op) : (turned n o).id = n.id := by unfold turned; split <;> rfl
theorem done_mem {l : List Node} {o : Op} {n : Node} (h : n ∈ done l o) : n ∈ l ∨ (may l o = true ∧ n = turned ((find l o.node).getD (freshN o.node)) o ∧ n.id = o.node) := by
  unfold done at h
  split at h
  · rcases List.mem_append.1 h with h | h
    · rcases List.mem_append.1 h with h | h
      · exact .inl (List.mem_of_mem_take h)
      · rw [List.mem_singleton] at h
        refine .inr ⟨by assumption, h, ?_⟩
        rw [h, turned_id]
        cases hf : find l o.node with
        | none => rfl
        | some m => exact (find_some hf).2.1
    · exact .inl (List.mem_of_mem_drop h)
  · exact .inl h
theorem done_len (l : List Node) (o : Op) : (done l o).length ≤ l.length + 1 := by
  unfold done
  split
  · have h1 := pos_le l o.node
    have h2 : pos l o.node ≤ upto l o.node := by unfold upto; split <;> omega
    rw [List.length_append, List.length_append, List.length_take, List.length_drop, List.length_singleton]; omega
  · omega
end Gw.Tree
