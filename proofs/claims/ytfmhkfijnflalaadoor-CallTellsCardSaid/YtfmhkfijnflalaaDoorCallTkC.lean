/- source.call, walked: a call is taken from the front, or it panics (written by mkcalltk.py). No claim of its own. -/
import Derived.Test.YtfmhkfijnflalaaDoorCallTk2
namespace Go.Proofs.YtfmhkfijnflalaaDoor
open Go.RowKit Go.Am

set_option maxHeartbeats 4000000 in
theorem call_p2 (b : Nat) (l : List UInt8) (hl0 : l.length ≤ 1048576) (w : World) (h : AtS b l w) {k u : Nat} (ht : Gw.Vlq.take l = some (k, u)) (hh : Gw.Call.has (k : Int) = some ⟨true, false, false, true⟩) :
    Calls Tryd.prog 26 #[.pointer (some ⟨b, 0, none⟩)] w (CallEnd b (Gw.Call.t0 k (l.drop u)) w) := by
  have hr0 := Five.new w (.int .i64 0) (.string ⟨#[]⟩) (.string ⟨#[]⟩) (.string ⟨#[]⟩) (.int .i64 0)
  have ha0 := h.alloc (.cells #[.int .i64 0, .string ⟨#[]⟩, .string ⟨#[]⟩, .string ⟨#[]⟩, .int .i64 0] 23)
  have ho0 := (Ho.refl b w).alloc (.cells #[.int .i64 0, .string ⟨#[]⟩, .string ⟨#[]⟩, .string ⟨#[]⟩, .int .i64 0] 23)
  have hrb : w.heap.size ≠ b := by have := h.lt; omega
  have hl : l.length < 1000000000000 := by omega
  have hl1 : (l.drop u).length ≤ 1048576 := by rw [List.length_drop]; omega
  have hN := number_ok b l hl ht
  generalize l.drop u = l1 at hl1 hN
  have hH := has_calls k
  rw [hh] at hH
  go_enter Tryd.func26, Tryd.ntmps26
  go_wp2_with fail
  refine (hN _ ha0).mono ?_
  rintro e w1 ⟨rfl, m1⟩
  have hr1 := hr0.mv hrb m1
  have ho1 := ho0.mv m1
  have hc1 := Five.new w1 (.int .i64 k) (.string ⟨#[]⟩) (.string ⟨#[]⟩) (.string ⟨#[]⟩) (.int .i64 0)
  have hrc : w.heap.size ≠ w1.heap.size := by have h1 := m1.size; have h2 := hr0.lt; omega
  have hcb : w1.heap.size ≠ b := by have h1 := m1.size; have h2 := ha0.lt; omega
  go_wp2_with fail
  refine (hH _).mono ?_
  rintro e w2 ⟨rfl, hb2⟩
  have ho2 := (ho1.alloc _).below hb2
  have hr2 := (hr1.alloc _).below hb2
  have hc2 := hc1.below hb2
  have ha2 := (m1.at_.alloc _).below hb2
  obtain ⟨p0, p1, p2, p3, p4, f0, f1, f2, f3, f4⟩ := hc2.cells
  go_wp2_with fail
  have hl13 : l1.length < 1000000000000 := by omega
  cases ht3 : takeText l1 with
  | none =>
    have hres : Gw.Call.t0 k l1 = none := (t0_some hh).trans (t1_bad (tText_bad ht3))
    refine (text_bad b l1 hl13 ht3 _ ha2).mono ?_
    rintro e w8 ⟨rfl, hb8⟩
    have ho8 := ho2.below hb8
    go_wp2_with fail
    exact ⟨rfl, rfl, ho8⟩
  | some nu3 =>
    obtain ⟨n3, u3⟩ := nu3
    obtain ⟨T3, L3, hT3, hTl3, hLl3, hX3⟩ := text_more b l1 hl13 ht3
    clear ht3
    refine (hX3 _ ha2).mono ?_
    rintro e v3 ⟨rfl, m3⟩
    have xo3 := ho2.mv m3
    have xr3 := hr2.mv hrb m3
    have xc3 := hc2.mv hcb m3
    obtain ⟨_, p1, p2, p3, p4, _, f1, f2, f3, f4⟩ := xc3.cells
    go_wp2_with fail
    have ho3 := xo3.set (c := w1.heap.size) (j := 1) (v := (.string ⟨T3.toArray⟩)) ho1.size
    have hr3 := xr3.other (d := w1.heap.size) (j := 1) (v := (.string ⟨T3.toArray⟩)) hrc
    have hc3 := xc3.set1 (v := (.string ⟨T3.toArray⟩))
    have ha3 := m3.at_.set_other (c := w1.heap.size) (j := 1) (v := (.string ⟨T3.toArray⟩)) hcb.symm
    clear p1 p2 p3 p4 f1 f2 f3 f4
    obtain ⟨p0, p1, p2, p3, p4, f0, f1, f2, f3, f4⟩ := xc3.cells
    have hl14 : L3.length < 1000000000000 := by omega
    cases ht4 : Gw.Vlq.take L3 with
    | none =>
      have hres : Gw.Call.t0 k l1 = none := (t0_some hh).trans ((t1_ok hT3).trans ((t2_ok tText_off).trans ((t3_ok tText_off).trans (t4_bad (tNum_bad ht4)))))
      refine (number_bad b L3 hl14 ht4 _ ha3).mono ?_
      rintro e w8 ⟨rfl, hb8⟩
      have ho8 := ho3.below hb8
      go_wp2_with fail
      exact ⟨rfl, rfl, ho8⟩
    | some nu4 =>
      obtain ⟨n4, u4⟩ := nu4
      obtain ⟨L4, hT4, hLl4, hX4⟩ := number_more b L3 hl14 ht4
      clear ht4
      refine (hX4 _ ha3).mono ?_
      rintro e v4 ⟨rfl, m4⟩
      have xo4 := ho3.mv m4
      have xr4 := hr3.mv hrb m4
      have xc4 := hc3.mv hcb m4
      obtain ⟨_, p1, p2, p3, p4, _, f1, f2, f3, f4⟩ := xc4.cells
      go_wp2_with fail
      have ho4 := xo4.set (c := w1.heap.size) (j := 4) (v := (.int .i64 (n4 : Int))) ho1.size
      have hr4 := xr4.other (d := w1.heap.size) (j := 4) (v := (.int .i64 (n4 : Int))) hrc
      have hc4 := xc4.set4 (v := (.int .i64 (n4 : Int)))
      have ha4 := m4.at_.set_other (c := w1.heap.size) (j := 4) (v := (.int .i64 (n4 : Int))) hcb.symm
      clear p1 p2 p3 p4 f1 f2 f3 f4
      obtain ⟨p0, p1, p2, p3, p4, f0, f1, f2, f3, f4⟩ := xc4.cells
      have hck := check_calls (⟨k, T3, [], [], (n4 : Int)⟩ : Gw.Call.Call) (by simp only; first | (simp; done) | omega) (by simp only; first | (simp; done) | omega)
      cases hcq : Gw.Call.check (⟨k, T3, [], [], (n4 : Int)⟩ : Gw.Call.Call) with
      | false =>
        rw [hcq] at hck
        have hres : Gw.Call.t0 k l1 = none := (t0_some hh).trans ((t1_ok hT3).trans ((t2_ok tText_off).trans ((t3_ok tText_off).trans ((t4_ok hT4).trans (done_bad hcq)))))
        refine (hck _).mono ?_
        rintro e w9 ⟨rfl, hb9⟩
        have ho9 := ho4.below hb9
        go_wp2_with fail
        exact ⟨rfl, rfl, ho9⟩
      | true =>
        rw [hcq] at hck
        have hres : Gw.Call.t0 k l1 = some ((⟨k, T3, [], [], (n4 : Int)⟩ : Gw.Call.Call), L4) := (t0_some hh).trans ((t1_ok hT3).trans ((t2_ok tText_off).trans ((t3_ok tText_off).trans ((t4_ok hT4).trans (done_ok hcq)))))
        refine (hck _).mono ?_
        rintro e w9 ⟨rfl, hb9⟩
        have ho9 := ho4.below hb9
        have ha9 := ha4.below hb9
        have hr9 := hr4.below hb9
        have hc9 := hc4.below hb9
        obtain ⟨p0, p1, p2, p3, p4, f0, f1, f2, f3, f4⟩ := hc9.cells
        obtain ⟨q0, q1, q2, q3, q4, g0, g1, g2, g3, g4⟩ := hr9.cells
        go_wp2_with fail
        have hR := ((((hr9.set0 (v := .int .i64 k)).set1 (v := .string ⟨(T3).toArray⟩)).set2 (v := .string ⟨([]).toArray⟩)).set3 (v := .string ⟨([]).toArray⟩)).set4 (v := .int .i64 (n4 : Int))
        obtain ⟨z0, z1, z2, z3, z4, _⟩ := hR.cells
        have hO := ((((ho9.set (c := w.heap.size) (j := 0) (v := .int .i64 k) (Nat.le_refl _)).set (c := w.heap.size) (j := 1) (v := .string ⟨(T3).toArray⟩) (Nat.le_refl _)).set (c := w.heap.size) (j := 2) (v := .string ⟨([]).toArray⟩) (Nat.le_refl _)).set (c := w.heap.size) (j := 3) (v := .string ⟨([]).toArray⟩) (Nat.le_refl _)).set (c := w.heap.size) (j := 4) (v := .int .i64 (n4 : Int)) (Nat.le_refl _)
        have hA := ((((ha9.set_other (c := w.heap.size) (j := 0) (v := .int .i64 k) hrb.symm).set_other (c := w.heap.size) (j := 1) (v := .string ⟨(T3).toArray⟩) hrb.symm).set_other (c := w.heap.size) (j := 2) (v := .string ⟨([]).toArray⟩) hrb.symm).set_other (c := w.heap.size) (j := 3) (v := .string ⟨([]).toArray⟩) hrb.symm).set_other (c := w.heap.size) (j := 4) (v := .int .i64 (n4 : Int)) hrb.symm
        rw [hres]
        exact call_ret z0 z1 z2 z3 z4 hO hA rfl
set_option maxHeartbeats 4000000 in
theorem call_p3 (b : Nat) (l : List UInt8) (hl0 : l.length ≤ 1048576) (w : World) (h : AtS b l w) {k u : Nat} (ht : Gw.Vlq.take l = some (k, u)) (hh : Gw.Call.has (k : Int) = some ⟨true, true, false, false⟩) :
    Calls Tryd.prog 26 #[.pointer (some ⟨b, 0, none⟩)] w (CallEnd b (Gw.Call.t0 k (l.drop u)) w) := by
  have hr0 := Five.new w (.int .i64 0) (.string ⟨#[]⟩) (.string ⟨#[]⟩) (.string ⟨#[]⟩) (.int .i64 0)
  have ha0 := h.alloc (.cells #[.int .i64 0, .string ⟨#[]⟩, .string ⟨#[]⟩, .string ⟨#[]⟩, .int .i64 0] 23)
  have ho0 := (Ho.refl b w).alloc (.cells #[.int .i64 0, .string ⟨#[]⟩, .string ⟨#[]⟩, .string ⟨#[]⟩, .int .i64 0] 23)
  have hrb : w.heap.size ≠ b := by have := h.lt; omega
  have hl : l.length < 1000000000000 := by omega
  have hl1 : (l.drop u).length ≤ 1048576 := by rw [List.length_drop]; omega
  have hN := number_ok b l hl ht
  generalize l.drop u = l1 at hl1 hN
  have hH := has_calls k
  rw [hh] at hH
  go_enter Tryd.func26, Tryd.ntmps26
  go_wp2_with fail
  refine (hN _ ha0).mono ?_
  rintro e w1 ⟨rfl, m1⟩
  have hr1 := hr0.mv hrb m1
  have ho1 := ho0.mv m1
  have hc1 := Five.new w1 (.int .i64 k) (.string ⟨#[]⟩) (.string ⟨#[]⟩) (.string ⟨#[]⟩) (.int .i64 0)
  have hrc : w.heap.size ≠ w1.heap.size := by have h1 := m1.size; have h2 := hr0.lt; omega
  have hcb : w1.heap.size ≠ b := by have h1 := m1.size; have h2 := ha0.lt; omega
  go_wp2_with fail
  refine (hH _).mono ?_
  rintro e w2 ⟨rfl, hb2⟩
  have ho2 := (ho1.alloc _).below hb2
  have hr2 := (hr1.alloc _).below hb2
  have hc2 := hc1.below hb2
  have ha2 := (m1.at_.alloc _).below hb2
  obtain ⟨p0, p1, p2, p3, p4, f0, f1, f2, f3, f4⟩ := hc2.cells
  go_wp2_with fail
  have hl13 : l1.length < 1000000000000 := by omega
  cases ht3 : takeText l1 with
  | none =>
    have hres : Gw.Call.t0 k l1 = none := (t0_some hh).trans (t1_bad (tText_bad ht3))
    refine (text_bad b l1 hl13 ht3 _ ha2).mono ?_
    rintro e w8 ⟨rfl, hb8⟩
    have ho8 := ho2.below hb8
    go_wp2_with fail
    exact ⟨rfl, rfl, ho8⟩
  | some nu3 =>
    obtain ⟨n3, u3⟩ := nu3
    obtain ⟨T3, L3, hT3, hTl3, hLl3, hX3⟩ := text_more b l1 hl13 ht3
    clear ht3
    refine (hX3 _ ha2).mono ?_
    rintro e v3 ⟨rfl, m3⟩
    have xo3 := ho2.mv m3
    have xr3 := hr2.mv hrb m3
    have xc3 := hc2.mv hcb m3
    obtain ⟨_, p1, p2, p3, p4, _, f1, f2, f3, f4⟩ := xc3.cells
    go_wp2_with fail
    have ho3 := xo3.set (c := w1.heap.size) (j := 1) (v := (.string ⟨T3.toArray⟩)) ho1.size
    have hr3 := xr3.other (d := w1.heap.size) (j := 1) (v := (.string ⟨T3.toArray⟩)) hrc
    have hc3 := xc3.set1 (v := (.string ⟨T3.toArray⟩))
    have ha3 := m3.at_.set_other (c := w1.heap.size) (j := 1) (v := (.string ⟨T3.toArray⟩)) hcb.symm
    clear p1 p2 p3 p4 f1 f2 f3 f4
    obtain ⟨p0, p1, p2, p3, p4, f0, f1, f2, f3, f4⟩ := xc3.cells
    have hl14 : L3.length < 1000000000000 := by omega
    cases ht4 : takeText L3 with
    | none =>
      have hres : Gw.Call.t0 k l1 = none := (t0_some hh).trans ((t1_ok hT3).trans (t2_bad (tText_bad ht4)))
      refine (text_bad b L3 hl14 ht4 _ ha3).mono ?_
      rintro e w8 ⟨rfl, hb8⟩
      have ho8 := ho3.below hb8
      go_wp2_with fail
      exact ⟨rfl, rfl, ho8⟩
    | some nu4 =>
      obtain ⟨n4, u4⟩ := nu4
      obtain ⟨T4, L4, hT4, hTl4, hLl4, hX4⟩ := text_more b L3 hl14 ht4
      clear ht4
      refine (hX4 _ ha3).mono ?_
      rintro e v4 ⟨rfl, m4⟩
      have xo4 := ho3.mv m4
      have xr4 := hr3.mv hrb m4
      have xc4 := hc3.mv hcb m4
      obtain ⟨_, p1, p2, p3, p4, _, f1, f2, f3, f4⟩ := xc4.cells
      go_wp2_with fail
      have ho4 := xo4.set (c := w1.heap.size) (j := 2) (v := (.string ⟨T4.toArray⟩)) ho1.size
      have hr4 := xr4.other (d := w1.heap.size) (j := 2) (v := (.string ⟨T4.toArray⟩)) hrc
      have hc4 := xc4.set2 (v := (.string ⟨T4.toArray⟩))
      have ha4 := m4.at_.set_other (c := w1.heap.size) (j := 2) (v := (.string ⟨T4.toArray⟩)) hcb.symm
      clear p1 p2 p3 p4 f1 f2 f3 f4
      obtain ⟨p0, p1, p2, p3, p4, f0, f1, f2, f3, f4⟩ := xc4.cells
      have hck := check_calls (⟨k, T3, T4, [], 0⟩ : Gw.Call.Call) (by simp only; first | (simp; done) | omega) (by simp only; first | (simp; done) | omega)
      cases hcq : Gw.Call.check (⟨k, T3, T4, [], 0⟩ : Gw.Call.Call) with
      | false =>
        rw [hcq] at hck
        have hres : Gw.Call.t0 k l1 = none := (t0_some hh).trans ((t1_ok hT3).trans ((t2_ok hT4).trans ((t3_ok tText_off).trans ((t4_ok tNum_off).trans (done_bad hcq)))))
        refine (hck _).mono ?_
        rintro e w9 ⟨rfl, hb9⟩
        have ho9 := ho4.below hb9
        go_wp2_with fail
        exact ⟨rfl, rfl, ho9⟩
      | true =>
        rw [hcq] at hck
        have hres : Gw.Call.t0 k l1 = some ((⟨k, T3, T4, [], 0⟩ : Gw.Call.Call), L4) := (t0_some hh).trans ((t1_ok hT3).trans ((t2_ok hT4).trans ((t3_ok tText_off).trans ((t4_ok tNum_off).trans (done_ok hcq)))))
        refine (hck _).mono ?_
        rintro e w9 ⟨rfl, hb9⟩
        have ho9 := ho4.below hb9
        have ha9 := ha4.below hb9
        have hr9 := hr4.below hb9
        have hc9 := hc4.below hb9
        obtain ⟨p0, p1, p2, p3, p4, f0, f1, f2, f3, f4⟩ := hc9.cells
        obtain ⟨q0, q1, q2, q3, q4, g0, g1, g2, g3, g4⟩ := hr9.cells
        go_wp2_with fail
        have hR := ((((hr9.set0 (v := .int .i64 k)).set1 (v := .string ⟨(T3).toArray⟩)).set2 (v := .string ⟨(T4).toArray⟩)).set3 (v := .string ⟨([]).toArray⟩)).set4 (v := .int .i64 0)
        obtain ⟨z0, z1, z2, z3, z4, _⟩ := hR.cells
        have hO := ((((ho9.set (c := w.heap.size) (j := 0) (v := .int .i64 k) (Nat.le_refl _)).set (c := w.heap.size) (j := 1) (v := .string ⟨(T3).toArray⟩) (Nat.le_refl _)).set (c := w.heap.size) (j := 2) (v := .string ⟨(T4).toArray⟩) (Nat.le_refl _)).set (c := w.heap.size) (j := 3) (v := .string ⟨([]).toArray⟩) (Nat.le_refl _)).set (c := w.heap.size) (j := 4) (v := .int .i64 0) (Nat.le_refl _)
        have hA := ((((ha9.set_other (c := w.heap.size) (j := 0) (v := .int .i64 k) hrb.symm).set_other (c := w.heap.size) (j := 1) (v := .string ⟨(T3).toArray⟩) hrb.symm).set_other (c := w.heap.size) (j := 2) (v := .string ⟨(T4).toArray⟩) hrb.symm).set_other (c := w.heap.size) (j := 3) (v := .string ⟨([]).toArray⟩) hrb.symm).set_other (c := w.heap.size) (j := 4) (v := .int .i64 0) hrb.symm
        rw [hres]
        exact call_ret z0 z1 z2 z3 z4 hO hA rfl
end Go.Proofs.YtfmhkfijnflalaaDoor
