/- A call, and calls, as arguments. No claim of its own. -/
import Derived.Test.YtfmhkfijnflalaaDoorAmRow
import Derived.Test.YtfmhkfijnflalaaDoorCallLaw
import Derived.Test.YtfmhkfijnflalaaDoorACall3
namespace Go.Proofs.YtfmhkfijnflalaaDoor
open Go.Am Go.ChangeShapes Go.WideShapes Go.ChangeAt Go.RowKit

set_option maxRecDepth 4000
def B64 (x : Int) : Prop := -9223372036854775808 ≤ x ∧ x ≤ 9223372036854775807
theorem B64.nn {k : Int} {a b c : List UInt8} {x : Int} (h : B64 x) : Gw.Call.Nn ⟨k, a, b, c, x⟩ := by unfold B64 at h; show x < _; omega
theorem trod_call {H : Type} {enc : TypeId × Value → H} {W : World} {fuel : Nat} {cs : List Value} {y : DataW H × List MemPlace} (ht : DataW.trod enc Tryd.prog W 0 (fun _ => true) true fuel 23 cs = some y) :
    ∃ (k : Int) (p s d : ByteArray) (n : Int), cs = [.int .i64 k, .string p, .string s, .string d, .int .i64 n] ∧
      y.1 = .agg [.lit (.int .i64 k), .lit (.string p.data.toList), .lit (.string s.data.toList), .lit (.string d.data.toList), .lit (.int .i64 n)] ∧
      p.size ≤ maxLen ∧ s.size ≤ maxLen ∧ d.size ≤ maxLen ∧ B64 n := by
  obtain ⟨xs, m, _, rfl, hl, hlen, hf⟩ := DataW.trod_struct Tryd.underlying23 ht
  have hl : cs.length = 5 := hl.trans (by kernel_rfl)
  match xs, hlen, cs, hl with
  | [y0, y1, y2, y3, y4], _, [c0, c1, c2, c3, c4], _ =>
    have h0 : DataW.trod enc Tryd.prog W 0 (fun _ => true) true m 3 (([c0, c1, c2, c3, c4].drop 0).take (Tryd.prog.cellsOf 3)) = some y0 := hf 0 _ rfl
    rw [show Tryd.prog.cellsOf 3 = 1 by kernel_rfl] at h0
    have h0 : DataW.trod enc Tryd.prog W 0 (fun _ => true) true m 3 [c0] = some y0 := h0
    have h1 : DataW.trod enc Tryd.prog W 0 (fun _ => true) true m 9 (([c0, c1, c2, c3, c4].drop 1).take (Tryd.prog.cellsOf 9)) = some y1 := hf 1 _ rfl
    rw [show Tryd.prog.cellsOf 9 = 1 by kernel_rfl] at h1
    have h1 : DataW.trod enc Tryd.prog W 0 (fun _ => true) true m 9 [c1] = some y1 := h1
    have h2 : DataW.trod enc Tryd.prog W 0 (fun _ => true) true m 9 (([c0, c1, c2, c3, c4].drop 2).take (Tryd.prog.cellsOf 9)) = some y2 := hf 2 _ rfl
    rw [show Tryd.prog.cellsOf 9 = 1 by kernel_rfl] at h2
    have h2 : DataW.trod enc Tryd.prog W 0 (fun _ => true) true m 9 [c2] = some y2 := h2
    have h3 : DataW.trod enc Tryd.prog W 0 (fun _ => true) true m 9 (([c0, c1, c2, c3, c4].drop 3).take (Tryd.prog.cellsOf 9)) = some y3 := hf 3 _ rfl
    rw [show Tryd.prog.cellsOf 9 = 1 by kernel_rfl] at h3
    have h3 : DataW.trod enc Tryd.prog W 0 (fun _ => true) true m 9 [c3] = some y3 := h3
    have h4 : DataW.trod enc Tryd.prog W 0 (fun _ => true) true m 3 (([c0, c1, c2, c3, c4].drop 4).take (Tryd.prog.cellsOf 3)) = some y4 := hf 4 _ rfl
    rw [show Tryd.prog.cellsOf 3 = 1 by kernel_rfl] at h4
    have h4 : DataW.trod enc Tryd.prog W 0 (fun _ => true) true m 3 [c4] = some y4 := h4
    obtain ⟨a, ha, rfl, _⟩ := DataW.trod_int Tryd.underlying3 h0
    obtain ⟨p, hp, rfl, lp⟩ := DataW.trod_string Tryd.underlying9 h1
    obtain ⟨s, hs, rfl, ls⟩ := DataW.trod_string Tryd.underlying9 h2
    obtain ⟨t, hu, rfl, lt⟩ := DataW.trod_string Tryd.underlying9 h3
    obtain ⟨n, hn, rfl, wn⟩ := DataW.trod_int Tryd.underlying3 h4
    simp only [List.cons.injEq, and_true] at ha hp hs hu hn
    subst ha hp hs hu hn
    exact ⟨a, p, s, t, n, rfl, rfl, lp, ls, lt, bounds_i64 wn⟩

def callQ (o : Gw.Call.Call) : Prop := Gw.Call.Nn o ∧ o.path.length ≤ maxLen ∧ o.to.length ≤ maxLen ∧ o.data.length ≤ maxLen

theorem cells_call {W : World} {k n : Int} {p s d : ByteArray} : ∀ (j : Nat) (x : V) (v : Value), (cellsK ⟨k, p.data.toList, s.data.toList, d.data.toList, n⟩)[j]? = some x →
    [Value.int .i64 k, .string p, .string s, .string d, .int .i64 n][j]? = some v → PRep W (allF W) x v ∧ v.oneCell' = true
  | 0, _, _, h1, h2 => by cases h1; cases h2; exact ⟨.int _ _, rfl⟩
  | 1, _, _, h1, h2 => by cases h1; cases h2; exact ⟨.str rfl, rfl⟩
  | 2, _, _, h1, h2 => by cases h1; cases h2; exact ⟨.str rfl, rfl⟩
  | 3, _, _, h1, h2 => by cases h1; cases h2; exact ⟨.str rfl, rfl⟩
  | 4, _, _, h1, h2 => by cases h1; cases h2; exact ⟨.int _ _, rfl⟩
  | j + 5, _, _, h1, _ => by cases h1

/-- A call, as an argument. -/
theorem open_call {H : Type} {enc : TypeId × Value → H} {W : World} {base : Nat} {v : Value} {d : DataW H} {q : List MemPlace}
    (hval : Value.okWide Tryd.prog W .any base 23 v) (hd : DataW.Trod enc Tryd.prog W 0 (fun _ => true) true 23 v d q) :
    ∃ (o : Gw.Call.Call), PRep W (allF W) (encK o) v ∧ callQ o ∧ d = .agg [.lit (.int .i64 o.kind), .lit (.string o.path), .lit (.string o.to), .lit (.string o.data), .lit (.int .i64 o.n)] := by
  obtain ⟨cs, rfl, hsz⟩ := okWide_struct Tryd.underlying23 hval
  obtain ⟨fuel, hf⟩ := hd
  obtain ⟨k, p, s, t, n, e1, e2, b1, b2, b3, b4⟩ := trod_call hf
  obtain ⟨l⟩ := cs
  obtain rfl : l = [.int .i64 k, .string p, .string s, .string t, .int .i64 n] := e1
  exact ⟨⟨k, p.data.toList, s.data.toList, t.data.toList, n⟩, .agg rfl fun i x v h1 h2 => (cells_call i x v h1 h2).1, ⟨b4.nn, b1, b2, b3⟩, e2⟩

/-- Calls, as an argument. -/
theorem open_callsL {H : Type} {enc : TypeId × Value → H} {W : World} {base : Nat} {v : Value} {d : DataW H} {q : List MemPlace} (hval : Value.okWide Tryd.prog W .any base 24 v) (hd : DataW.Trod enc Tryd.prog W 0 (fun _ => true) true 24 v d q) :
    ∃ (isNil : Bool) (l : List Gw.Call.Call), PRep W (allF W) (.lst isNil 5 (encKs l) .none) v ∧ (isNil = true → l = []) ∧ l.length ≤ maxLen ∧ ∀ a ∈ l, callQ a := by
  obtain ⟨a0, len, cap, rfl⟩ := okWide_slice Tryd.underlying24 hval
  obtain ⟨fuel, hf⟩ := hd
  refine open_lst (α := Gw.Call.Call) Tryd.underlying24 (sz := 5) (by kernel_rfl) (by decide) cellsK callQ (fun n cs y hcs ht => ?_) hf
  obtain ⟨k, p, s, t, n, rfl, _, b1, b2, b3, b4⟩ := trod_call ht
  exact ⟨⟨k, p.data.toList, s.data.toList, t.data.toList, n⟩, ⟨b4.nn, b1, b2, b3⟩, rfl, cells_call⟩
end Go.Proofs.YtfmhkfijnflalaaDoor
