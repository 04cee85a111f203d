/- An operation, and operations, as arguments. No claim of its own. -/
import Derived.Test.YtipgfdepopfghaaGreatAmRow
import Derived.Test.YtipgfdepopfghaaGreatASortM
namespace Go.Proofs.YtipgfdepopfghaaGreat
open Go.Am Go.ChangeShapes Go.WideShapes Go.ChangeAt Go.RowKit

set_option maxRecDepth 20000 in
theorem trod_op {H : Type} {enc : TypeId × Value → H} {W : World} {fuel : Nat} {cs : List Value} {y : DataW H × List MemPlace} (ht : DataW.trod enc Tryz.prog W 0 (fun _ => true) true fuel 51 cs = some y) :
    ∃ (c r k n p : Int) (s d : ByteArray), cs = [.int .i64 c, .int .i64 r, .int .i64 k, .int .i64 n, .int .i64 p, .string s, .string d] ∧
      y.1 = .agg [.agg [.lit (.int .i64 c), .lit (.int .i64 r)], .lit (.int .i64 k), .lit (.int .i64 n), .lit (.int .i64 p), .lit (.string s.data.toList), .lit (.string d.data.toList)] ∧
      I64 n ∧ I64 p ∧ s.size ≤ maxLen ∧ d.size ≤ maxLen ∧ I64 c := by
  obtain ⟨xs, m, _, rfl, hl, hlen, hf⟩ := DataW.trod_struct Tryz.underlying51 ht
  have hl : cs.length = 7 := hl.trans (by kernel_rfl)
  match xs, hlen, cs, hl with
  | [y0, y1, y2, y3, y4, y5], _, [c0, c1, c2, c3, c4, c5, c6], _ =>
    have h0 : DataW.trod enc Tryz.prog W 0 (fun _ => true) true m 49 (([c0, c1, c2, c3, c4, c5, c6].drop 0).take (Tryz.prog.cellsOf 49)) = some y0 := hf 0 _ rfl
    rw [show Tryz.prog.cellsOf 49 = 2 by kernel_rfl] at h0
    have h0 : DataW.trod enc Tryz.prog W 0 (fun _ => true) true m 49 [c0, c1] = some y0 := h0
    have h1 : DataW.trod enc Tryz.prog W 0 (fun _ => true) true m 3 (([c0, c1, c2, c3, c4, c5, c6].drop 2).take (Tryz.prog.cellsOf 3)) = some y1 := hf 1 _ rfl
    rw [show Tryz.prog.cellsOf 3 = 1 by kernel_rfl] at h1
    have h1 : DataW.trod enc Tryz.prog W 0 (fun _ => true) true m 3 [c2] = some y1 := h1
    have h2 : DataW.trod enc Tryz.prog W 0 (fun _ => true) true m 3 (([c0, c1, c2, c3, c4, c5, c6].drop 3).take (Tryz.prog.cellsOf 3)) = some y2 := hf 2 _ rfl
    rw [show Tryz.prog.cellsOf 3 = 1 by kernel_rfl] at h2
    have h2 : DataW.trod enc Tryz.prog W 0 (fun _ => true) true m 3 [c3] = some y2 := h2
    have h3 : DataW.trod enc Tryz.prog W 0 (fun _ => true) true m 3 (([c0, c1, c2, c3, c4, c5, c6].drop 4).take (Tryz.prog.cellsOf 3)) = some y3 := hf 3 _ rfl
    rw [show Tryz.prog.cellsOf 3 = 1 by kernel_rfl] at h3
    have h3 : DataW.trod enc Tryz.prog W 0 (fun _ => true) true m 3 [c4] = some y3 := h3
    have h4 : DataW.trod enc Tryz.prog W 0 (fun _ => true) true m 9 (([c0, c1, c2, c3, c4, c5, c6].drop 5).take (Tryz.prog.cellsOf 9)) = some y4 := hf 4 _ rfl
    rw [show Tryz.prog.cellsOf 9 = 1 by kernel_rfl] at h4
    have h4 : DataW.trod enc Tryz.prog W 0 (fun _ => true) true m 9 [c5] = some y4 := h4
    have h5 : DataW.trod enc Tryz.prog W 0 (fun _ => true) true m 9 (([c0, c1, c2, c3, c4, c5, c6].drop 6).take (Tryz.prog.cellsOf 9)) = some y5 := hf 5 _ rfl
    rw [show Tryz.prog.cellsOf 9 = 1 by kernel_rfl] at h5
    have h5 : DataW.trod enc Tryz.prog W 0 (fun _ => true) true m 9 [c6] = some y5 := h5
    obtain ⟨z0, z1, k, rfl, _, g0, g1⟩ := trod_struct2 Tryz.underlying49 h0
    obtain ⟨a, ha, ea, wa⟩ := DataW.trod_int Tryz.underlying3 (show DataW.trod enc Tryz.prog W 0 (fun _ => true) true k 3 [c0] = some z0 from g0)
    obtain ⟨b, hb, eb, _⟩ := DataW.trod_int Tryz.underlying3 (show DataW.trod enc Tryz.prog W 0 (fun _ => true) true k 3 [c1] = some z1 from g1)
    obtain ⟨c, hc, rfl, _⟩ := DataW.trod_int Tryz.underlying3 h1
    obtain ⟨d, hd, rfl, hw⟩ := DataW.trod_int Tryz.underlying3 h2
    obtain ⟨e, he, rfl, hw'⟩ := DataW.trod_int Tryz.underlying3 h3
    obtain ⟨s, hs, rfl, ls⟩ := DataW.trod_string Tryz.underlying9 h4
    obtain ⟨t, hu, rfl, lt⟩ := DataW.trod_string Tryz.underlying9 h5
    simp only [List.cons.injEq, and_true] at ha hb hc hd he hs hu
    subst ha hb hc hd he hs hu ea eb
    exact ⟨a, b, c, d, e, s, t, rfl, rfl, bounds_i64 hw, bounds_i64 hw', ls, lt, bounds_i64 wa⟩

def opQ (o : Gw.Op.Op) : Prop := I64 o.node ∧ I64 o.parent ∧ o.name.length ≤ maxLen ∧ o.data.length ≤ maxLen ∧ I64 o.at_.c

set_option maxRecDepth 20000 in
theorem cells_op {W : World} {c r k n p : Int} {s d : ByteArray} : ∀ (j : Nat) (x : V) (v : Value), (cellsO ⟨⟨c, r⟩, k, n, p, s.data.toList, d.data.toList⟩)[j]? = some x →
    [Value.int .i64 c, .int .i64 r, .int .i64 k, .int .i64 n, .int .i64 p, .string s, .string d][j]? = some v → PRep W (allF W) x v ∧ v.oneCell' = true
  | 0, _, _, h1, h2 => by cases h1; cases h2; exact ⟨.int _ _, rfl⟩
  | 1, _, _, h1, h2 => by cases h1; cases h2; exact ⟨.int _ _, rfl⟩
  | 2, _, _, h1, h2 => by cases h1; cases h2; exact ⟨.int _ _, rfl⟩
  | 3, _, _, h1, h2 => by cases h1; cases h2; exact ⟨.int _ _, rfl⟩
  | 4, _, _, h1, h2 => by cases h1; cases h2; exact ⟨.int _ _, rfl⟩
  | 5, _, _, h1, h2 => by cases h1; cases h2; exact ⟨.str rfl, rfl⟩
  | 6, _, _, h1, h2 => by cases h1; cases h2; exact ⟨.str rfl, rfl⟩
  | j + 7, _, _, h1, _ => by cases h1

set_option maxRecDepth 20000 in
/-- An operation, as an argument. -/
theorem open_op {H : Type} {enc : TypeId × Value → H} {W : World} {base : Nat} {v : Value} {d : DataW H} {q : List MemPlace}
    (hval : Value.okWide Tryz.prog W .any base 51 v) (hd : DataW.Trod enc Tryz.prog W 0 (fun _ => true) true 51 v d q) :
    ∃ (o : Gw.Op.Op), PRep W (allF W) (encO o) v ∧ opQ o ∧ d = .agg [.agg [.lit (.int .i64 o.at_.c), .lit (.int .i64 o.at_.r)], .lit (.int .i64 o.kind), .lit (.int .i64 o.node), .lit (.int .i64 o.parent), .lit (.string o.name), .lit (.string o.data)] := by
  obtain ⟨cs, rfl, hsz⟩ := okWide_struct Tryz.underlying51 hval
  obtain ⟨fuel, hf⟩ := hd
  obtain ⟨c, r, k, n, p, s, t, e1, e2, b1, b2, b3, b4, b5⟩ := trod_op hf
  obtain ⟨l⟩ := cs
  obtain rfl : l = [.int .i64 c, .int .i64 r, .int .i64 k, .int .i64 n, .int .i64 p, .string s, .string t] := e1
  exact ⟨⟨⟨c, r⟩, k, n, p, s.data.toList, t.data.toList⟩, .agg rfl fun i x v h1 h2 => (cells_op i x v h1 h2).1, ⟨b1, b2, b3, b4, b5⟩, e2⟩

set_option maxRecDepth 20000 in
/-- Operations, as an argument. -/
theorem open_ops {H : Type} {enc : TypeId × Value → H} {W : World} {base : Nat} {v : Value} {d : DataW H} {q : List MemPlace} (hval : Value.okWide Tryz.prog W .any base 35 v) (hd : DataW.Trod enc Tryz.prog W 0 (fun _ => true) true 35 v d q) :
    ∃ (isNil : Bool) (l : List Gw.Op.Op), PRep W (allF W) (.lst isNil 7 (encOs l) .none) v ∧ (isNil = true → l = []) ∧ l.length ≤ maxLen ∧ ∀ a ∈ l, opQ a := by
  obtain ⟨a0, len, cap, rfl⟩ := okWide_slice Tryz.underlying35 hval
  obtain ⟨fuel, hf⟩ := hd
  refine open_lst (α := Gw.Op.Op) Tryz.underlying35 (sz := 7) (by kernel_rfl) (by decide) cellsO opQ (fun n cs y hcs ht => ?_) hf
  obtain ⟨c, r, k, n, p, s, t, rfl, _, b1, b2, b3, b4, b5⟩ := trod_op ht
  exact ⟨⟨⟨c, r⟩, k, n, p, s.data.toList, t.data.toList⟩, ⟨b1, b2, b3, b4, b5⟩, rfl, cells_op⟩
end Go.Proofs.YtipgfdepopfghaaGreat
