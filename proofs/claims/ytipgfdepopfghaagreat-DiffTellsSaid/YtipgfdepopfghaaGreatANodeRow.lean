/- Nodes, as arguments. No claim of its own. -/
import Derived.Test.YtipgfdepopfghaaGreatAmRow
import Derived.Test.YtipgfdepopfghaaGreatATreeM
namespace Go.Proofs.YtipgfdepopfghaaGreat
open Go.Am Go.ChangeShapes Go.WideShapes Go.ChangeAt Go.RowKit

set_option maxRecDepth 20000 in
theorem trod_node {H : Type} {enc : TypeId × Value → H} {W : World} {fuel : Nat} {cs : List Value} {y : DataW H × List MemPlace} (ht : DataW.trod enc Tryz.prog W 0 (fun _ => true) true fuel 53 cs = some y) :
    ∃ (i p mc mr wc wr : Int) (s d : ByteArray), cs = [.int .i64 i, .int .i64 p, .string s, .int .i64 mc, .int .i64 mr, .string d, .int .i64 wc, .int .i64 wr] ∧ I64 i ∧ I64 p ∧ s.size ≤ maxLen ∧ d.size ≤ maxLen := by
  obtain ⟨xs, m, _, rfl, hl, hlen, hf⟩ := DataW.trod_struct Tryz.underlying53 ht
  have hl : cs.length = 8 := hl.trans (by kernel_rfl)
  match xs, hlen, cs, hl with
  | [y0, y1, y2, y3, y4, y5], _, [c0, c1, c2, c3, c4, c5, c6, c7], _ =>
    have h0 : DataW.trod enc Tryz.prog W 0 (fun _ => true) true m 3 (([c0, c1, c2, c3, c4, c5, c6, c7].drop 0).take (Tryz.prog.cellsOf 3)) = some y0 := hf 0 _ rfl
    rw [show Tryz.prog.cellsOf 3 = 1 by kernel_rfl] at h0
    have h0 : DataW.trod enc Tryz.prog W 0 (fun _ => true) true m 3 [c0] = some y0 := h0
    have h1 : DataW.trod enc Tryz.prog W 0 (fun _ => true) true m 3 (([c0, c1, c2, c3, c4, c5, c6, c7].drop 1).take (Tryz.prog.cellsOf 3)) = some y1 := hf 1 _ rfl
    rw [show Tryz.prog.cellsOf 3 = 1 by kernel_rfl] at h1
    have h1 : DataW.trod enc Tryz.prog W 0 (fun _ => true) true m 3 [c1] = some y1 := h1
    have h2 : DataW.trod enc Tryz.prog W 0 (fun _ => true) true m 9 (([c0, c1, c2, c3, c4, c5, c6, c7].drop 2).take (Tryz.prog.cellsOf 9)) = some y2 := hf 2 _ rfl
    rw [show Tryz.prog.cellsOf 9 = 1 by kernel_rfl] at h2
    have h2 : DataW.trod enc Tryz.prog W 0 (fun _ => true) true m 9 [c2] = some y2 := h2
    have h3 : DataW.trod enc Tryz.prog W 0 (fun _ => true) true m 49 (([c0, c1, c2, c3, c4, c5, c6, c7].drop 3).take (Tryz.prog.cellsOf 49)) = some y3 := hf 3 _ rfl
    rw [show Tryz.prog.cellsOf 49 = 2 by kernel_rfl] at h3
    have h3 : DataW.trod enc Tryz.prog W 0 (fun _ => true) true m 49 [c3, c4] = some y3 := h3
    have h4 : DataW.trod enc Tryz.prog W 0 (fun _ => true) true m 9 (([c0, c1, c2, c3, c4, c5, c6, c7].drop 5).take (Tryz.prog.cellsOf 9)) = some y4 := hf 4 _ rfl
    rw [show Tryz.prog.cellsOf 9 = 1 by kernel_rfl] at h4
    have h4 : DataW.trod enc Tryz.prog W 0 (fun _ => true) true m 9 [c5] = some y4 := h4
    have h5 : DataW.trod enc Tryz.prog W 0 (fun _ => true) true m 49 (([c0, c1, c2, c3, c4, c5, c6, c7].drop 6).take (Tryz.prog.cellsOf 49)) = some y5 := hf 5 _ rfl
    rw [show Tryz.prog.cellsOf 49 = 2 by kernel_rfl] at h5
    have h5 : DataW.trod enc Tryz.prog W 0 (fun _ => true) true m 49 [c6, c7] = some y5 := h5
    obtain ⟨a, ha, _, wa⟩ := DataW.trod_int Tryz.underlying3 h0
    obtain ⟨b, hb, _, wb⟩ := DataW.trod_int Tryz.underlying3 h1
    obtain ⟨s, hs, _, ls⟩ := DataW.trod_string Tryz.underlying9 h2
    obtain ⟨z0, z1, k, _, _, g0, g1⟩ := trod_struct2 Tryz.underlying49 h3
    obtain ⟨c, hc, _, _⟩ := DataW.trod_int Tryz.underlying3 (show DataW.trod enc Tryz.prog W 0 (fun _ => true) true k 3 [c3] = some z0 from g0)
    obtain ⟨d, hd, _, _⟩ := DataW.trod_int Tryz.underlying3 (show DataW.trod enc Tryz.prog W 0 (fun _ => true) true k 3 [c4] = some z1 from g1)
    obtain ⟨t, hu, _, lt⟩ := DataW.trod_string Tryz.underlying9 h4
    obtain ⟨z2, z3, k', _, _, g2, g3⟩ := trod_struct2 Tryz.underlying49 h5
    obtain ⟨e, he, _, _⟩ := DataW.trod_int Tryz.underlying3 (show DataW.trod enc Tryz.prog W 0 (fun _ => true) true k' 3 [c6] = some z2 from g2)
    obtain ⟨f, hf', _, _⟩ := DataW.trod_int Tryz.underlying3 (show DataW.trod enc Tryz.prog W 0 (fun _ => true) true k' 3 [c7] = some z3 from g3)
    simp only [List.cons.injEq, and_true] at ha hb hs hc hd hu he hf'
    subst ha hb hs hc hd hu he hf'
    exact ⟨a, b, c, d, e, f, s, t, rfl, bounds_i64 wa, bounds_i64 wb, ls, lt⟩

def nodeQ (n : Gw.Tree.Node) : Prop := I64 n.id ∧ I64 n.parent ∧ n.name.length ≤ maxLen ∧ n.data.length ≤ maxLen
set_option maxRecDepth 20000 in
theorem cells_node {W : World} {i p mc mr wc wr : Int} {s d : ByteArray} : ∀ (j : Nat) (x : V) (v : Value), (cellsN ⟨i, p, s.data.toList, ⟨mc, mr⟩, d.data.toList, ⟨wc, wr⟩⟩)[j]? = some x →
    [Value.int .i64 i, .int .i64 p, .string s, .int .i64 mc, .int .i64 mr, .string d, .int .i64 wc, .int .i64 wr][j]? = some v → PRep W (allF W) x v ∧ v.oneCell' = true
  | 0, _, _, h1, h2 => by cases h1; cases h2; exact ⟨.int _ _, rfl⟩
  | 1, _, _, h1, h2 => by cases h1; cases h2; exact ⟨.int _ _, rfl⟩
  | 2, _, _, h1, h2 => by cases h1; cases h2; exact ⟨.str rfl, rfl⟩
  | 3, _, _, h1, h2 => by cases h1; cases h2; exact ⟨.int _ _, rfl⟩
  | 4, _, _, h1, h2 => by cases h1; cases h2; exact ⟨.int _ _, rfl⟩
  | 5, _, _, h1, h2 => by cases h1; cases h2; exact ⟨.str rfl, rfl⟩
  | 6, _, _, h1, h2 => by cases h1; cases h2; exact ⟨.int _ _, rfl⟩
  | 7, _, _, h1, h2 => by cases h1; cases h2; exact ⟨.int _ _, rfl⟩
  | j + 8, _, _, h1, _ => by cases h1
set_option maxRecDepth 20000 in
/-- Nodes, as an argument. -/
theorem open_nodes {H : Type} {enc : TypeId × Value → H} {W : World} {base : Nat} {v : Value} {d : DataW H} {q : List MemPlace} (hval : Value.okWide Tryz.prog W .any base 22 v) (hd : DataW.Trod enc Tryz.prog W 0 (fun _ => true) true 22 v d q) :
    ∃ (isNil : Bool) (l : List Gw.Tree.Node), PRep W (allF W) (.lst isNil 8 (encN l) .none) v ∧ (isNil = true → l = []) ∧ l.length ≤ maxLen ∧ ∀ a ∈ l, nodeQ a := by
  obtain ⟨a0, len, cap, rfl⟩ := okWide_slice Tryz.underlying22 hval
  obtain ⟨fuel, hf⟩ := hd
  refine open_lst (α := Gw.Tree.Node) Tryz.underlying22 (sz := 8) (by kernel_rfl) (by decide) cellsN nodeQ (fun n cs y hcs ht => ?_) hf
  obtain ⟨i, p, mc, mr, wc, wr, s, d, rfl, b1, b2, b3, b4⟩ := trod_node ht
  exact ⟨⟨i, p, s.data.toList, ⟨mc, mr⟩, d.data.toList, ⟨wc, wr⟩⟩, ⟨b1, b2, b3, b4⟩, rfl, cells_node⟩
end Go.Proofs.YtipgfdepopfghaaGreat
