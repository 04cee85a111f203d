/- source.call, walked: a call is taken from the front, or it panics (written by mkcalltk.py). No claim of its own. -/
import Derived.Test.YtfmhkfijnflalaaDoorCallTk2
namespace Go.Proofs.YtfmhkfijnflalaaDoor
open Go.RowKit Go.Am

set_option maxHeartbeats 2000000 in
theorem call_k0 (b : Nat) (l : List UInt8) (hl0 : l.length ≤ 1048576) (w : World) (h : AtS b l w) (ht : Gw.Vlq.take l = none) :
    Calls Tryd.prog 26 #[.pointer (some ⟨b, 0, none⟩)] w (CallEnd b none w) := by
  have hr0 := Five.new w (.int .i64 0) (.string ⟨#[]⟩) (.string ⟨#[]⟩) (.string ⟨#[]⟩) (.int .i64 0)
  have ha0 := h.alloc (.cells #[.int .i64 0, .string ⟨#[]⟩, .string ⟨#[]⟩, .string ⟨#[]⟩, .int .i64 0] 23)
  have ho0 := (Ho.refl b w).alloc (.cells #[.int .i64 0, .string ⟨#[]⟩, .string ⟨#[]⟩, .string ⟨#[]⟩, .int .i64 0] 23)
  have hrb : w.heap.size ≠ b := by have := h.lt; omega
  have hl : l.length < 1000000000000 := by omega
  go_enter Tryd.func26, Tryd.ntmps26
  go_wp2_with fail
  refine (number_bad b l hl ht _ ha0).mono ?_
  rintro e w1 ⟨rfl, hb1⟩
  go_wp2_with fail
  exact ⟨rfl, rfl, ho0.below hb1⟩
set_option maxHeartbeats 2000000 in
theorem call_k1 (b : Nat) (l : List UInt8) (hl0 : l.length ≤ 1048576) (w : World) (h : AtS b l w) {k u : Nat} (ht : Gw.Vlq.take l = some (k, u)) (hh : Gw.Call.has (k : Int) = none) :
    Calls Tryd.prog 26 #[.pointer (some ⟨b, 0, none⟩)] w (CallEnd b none w) := by
  have hr0 := Five.new w (.int .i64 0) (.string ⟨#[]⟩) (.string ⟨#[]⟩) (.string ⟨#[]⟩) (.int .i64 0)
  have ha0 := h.alloc (.cells #[.int .i64 0, .string ⟨#[]⟩, .string ⟨#[]⟩, .string ⟨#[]⟩, .int .i64 0] 23)
  have ho0 := (Ho.refl b w).alloc (.cells #[.int .i64 0, .string ⟨#[]⟩, .string ⟨#[]⟩, .string ⟨#[]⟩, .int .i64 0] 23)
  have hrb : w.heap.size ≠ b := by have := h.lt; omega
  have hl : l.length < 1000000000000 := by omega
  have hl1 : (l.drop u).length ≤ 1048576 := by rw [List.length_drop]; omega
  have hN := number_ok b l hl ht
  generalize l.drop u = l1 at hl1 hN
  have hH := has_calls k
  rw [hh] at hH
  go_enter Tryd.func26, Tryd.ntmps26
  go_wp2_with fail
  refine (hN _ ha0).mono ?_
  rintro e w1 ⟨rfl, m1⟩
  have ho1 := ho0.mv m1
  go_wp2_with fail
  refine (hH _).mono ?_
  rintro e w2 ⟨rfl, hb2⟩
  have ho2 := (ho1.alloc _).below hb2
  go_wp2_with fail
  exact ⟨rfl, rfl, ho2⟩
set_option maxHeartbeats 4000000 in
theorem call_p0 (b : Nat) (l : List UInt8) (hl0 : l.length ≤ 1048576) (w : World) (h : AtS b l w) {k u : Nat} (ht : Gw.Vlq.take l = some (k, u)) (hh : Gw.Call.has (k : Int) = some ⟨true, false, false, false⟩) :
    Calls Tryd.prog 26 #[.pointer (some ⟨b, 0, none⟩)] w (CallEnd b (Gw.Call.t0 k (l.drop u)) w) := by
  have hr0 := Five.new w (.int .i64 0) (.string ⟨#[]⟩) (.string ⟨#[]⟩) (.string ⟨#[]⟩) (.int .i64 0)
  have ha0 := h.alloc (.cells #[.int .i64 0, .string ⟨#[]⟩, .string ⟨#[]⟩, .string ⟨#[]⟩, .int .i64 0] 23)
  have ho0 := (Ho.refl b w).alloc (.cells #[.int .i64 0, .string ⟨#[]⟩, .string ⟨#[]⟩, .string ⟨#[]⟩, .int .i64 0] 23)
  have hrb : w.heap.size ≠ b := by have := h.lt; omega
  have hl : l.length < 1000000000000 := by omega
  have hl1 : (l.drop u).length ≤ 1048576 := by rw [List.length_drop]; omega
  have hN := number_ok b l hl ht
  generalize l.drop u = l1 at hl1 hN
  have hH := has_calls k
  rw [hh] at hH
  go_enter Tryd.func26, Tryd.ntmps26
  go_wp2_with fail
  refine (hN _ ha0).mono ?_
  rintro e w1 ⟨rfl, m1⟩
  have hr1 := hr0.mv hrb m1
  have ho1 := ho0.mv m1
  have hc1 := Five.new w1 (.int .i64 k) (.string ⟨#[]⟩) (.string ⟨#[]⟩) (.string ⟨#[]⟩) (.int .i64 0)
  have hrc : w.heap.size ≠ w1.heap.size := by have h1 := m1.size; have h2 := hr0.lt; omega
  have hcb : w1.heap.size ≠ b := by have h1 := m1.size; have h2 := ha0.lt; omega
  go_wp2_with fail
  refine (hH _).mono ?_
  rintro e w2 ⟨rfl, hb2⟩
  have ho2 := (ho1.alloc _).below hb2
  have hr2 := (hr1.alloc _).below hb2
  have hc2 := hc1.below hb2
  have ha2 := (m1.at_.alloc _).below hb2
  obtain ⟨p0, p1, p2, p3, p4, f0, f1, f2, f3, f4⟩ := hc2.cells
  go_wp2_with fail
  have hl13 : l1.length < 1000000000000 := by omega
  cases ht3 : takeText l1 with
  | none =>
    have hres : Gw.Call.t0 k l1 = none := (t0_some hh).trans (t1_bad (tText_bad ht3))
    refine (text_bad b l1 hl13 ht3 _ ha2).mono ?_
    rintro e w8 ⟨rfl, hb8⟩
    have ho8 := ho2.below hb8
    go_wp2_with fail
    exact ⟨rfl, rfl, ho8⟩
  | some nu3 =>
    obtain ⟨n3, u3⟩ := nu3
    obtain ⟨T3, L3, hT3, hTl3, hLl3, hX3⟩ := text_more b l1 hl13 ht3
    clear ht3
    refine (hX3 _ ha2).mono ?_
    rintro e v3 ⟨rfl, m3⟩
    have xo3 := ho2.mv m3
    have xr3 := hr2.mv hrb m3
    have xc3 := hc2.mv hcb m3
    obtain ⟨_, p1, p2, p3, p4, _, f1, f2, f3, f4⟩ := xc3.cells
    go_wp2_with fail
    have ho3 := xo3.set (c := w1.heap.size) (j := 1) (v := (.string ⟨T3.toArray⟩)) ho1.size
    have hr3 := xr3.other (d := w1.heap.size) (j := 1) (v := (.string ⟨T3.toArray⟩)) hrc
    have hc3 := xc3.set1 (v := (.string ⟨T3.toArray⟩))
    have ha3 := m3.at_.set_other (c := w1.heap.size) (j := 1) (v := (.string ⟨T3.toArray⟩)) hcb.symm
    clear p1 p2 p3 p4 f1 f2 f3 f4
    obtain ⟨p0, p1, p2, p3, p4, f0, f1, f2, f3, f4⟩ := xc3.cells
    have hck := check_calls (⟨k, T3, [], [], 0⟩ : Gw.Call.Call) (by simp only; first | (simp; done) | omega) (by simp only; first | (simp; done) | omega)
    cases hcq : Gw.Call.check (⟨k, T3, [], [], 0⟩ : Gw.Call.Call) with
    | false =>
      rw [hcq] at hck
      have hres : Gw.Call.t0 k l1 = none := (t0_some hh).trans ((t1_ok hT3).trans ((t2_ok tText_off).trans ((t3_ok tText_off).trans ((t4_ok tNum_off).trans (done_bad hcq)))))
      refine (hck _).mono ?_
      rintro e w9 ⟨rfl, hb9⟩
      have ho9 := ho3.below hb9
      go_wp2_with fail
      exact ⟨rfl, rfl, ho9⟩
    | true =>
      rw [hcq] at hck
      have hres : Gw.Call.t0 k l1 = some ((⟨k, T3, [], [], 0⟩ : Gw.Call.Call), L3) := (t0_some hh).trans ((t1_ok hT3).trans ((t2_ok tText_off).trans ((t3_ok tText_off).trans ((t4_ok tNum_off).trans (done_ok hcq)))))
      refine (hck _).mono ?_
      rintro e w9 ⟨rfl, hb9⟩
      have ho9 := ho3.below hb9
      have ha9 := ha3.below hb9
      have hr9 := hr3.below hb9
      have hc9 := hc3.below hb9
      obtain ⟨p0, p1, p2, p3, p4, f0, f1, f2, f3, f4⟩ := hc9.cells
      obtain ⟨q0, q1, q2, q3, q4, g0, g1, g2, g3, g4⟩ := hr9.cells
      go_wp2_with fail
      have hR := ((((hr9.set0 (v := .int .i64 k)).set1 (v := .string ⟨(T3).toArray⟩)).set2 (v := .string ⟨([]).toArray⟩)).set3 (v := .string ⟨([]).toArray⟩)).set4 (v := .int .i64 0)
      obtain ⟨z0, z1, z2, z3, z4, _⟩ := hR.cells
      have hO := ((((ho9.set (c := w.heap.size) (j := 0) (v := .int .i64 k) (Nat.le_refl _)).set (c := w.heap.size) (j := 1) (v := .string ⟨(T3).toArray⟩) (Nat.le_refl _)).set (c := w.heap.size) (j := 2) (v := .string ⟨([]).toArray⟩) (Nat.le_refl _)).set (c := w.heap.size) (j := 3) (v := .string ⟨([]).toArray⟩) (Nat.le_refl _)).set (c := w.heap.size) (j := 4) (v := .int .i64 0) (Nat.le_refl _)
      have hA := ((((ha9.set_other (c := w.heap.size) (j := 0) (v := .int .i64 k) hrb.symm).set_other (c := w.heap.size) (j := 1) (v := .string ⟨(T3).toArray⟩) hrb.symm).set_other (c := w.heap.size) (j := 2) (v := .string ⟨([]).toArray⟩) hrb.symm).set_other (c := w.heap.size) (j := 3) (v := .string ⟨([]).toArray⟩) hrb.symm).set_other (c := w.heap.size) (j := 4) (v := .int .i64 0) hrb.symm
      rw [hres]
      exact call_ret z0 z1 z2 z3 z4 hO hA rfl
set_option maxHeartbeats 4000000 in
theorem call_p4 (b : Nat) (l : List UInt8) (hl0 : l.length ≤ 1048576) (w : World) (h : AtS b l w) {k u : Nat} (ht : Gw.Vlq.take l = some (k, u)) (hh : Gw.Call.has (k : Int) = some ⟨false, false, false, true⟩) :
    Calls Tryd.prog 26 #[.pointer (some ⟨b, 0, none⟩)] w (CallEnd b (Gw.Call.t0 k (l.drop u)) w) := by
  have hr0 := Five.new w (.int .i64 0) (.string ⟨#[]⟩) (.string ⟨#[]⟩) (.string ⟨#[]⟩) (.int .i64 0)
  have ha0 := h.alloc (.cells #[.int .i64 0, .string ⟨#[]⟩, .string ⟨#[]⟩, .string ⟨#[]⟩, .int .i64 0] 23)
  have ho0 := (Ho.refl b w).alloc (.cells #[.int .i64 0, .string ⟨#[]⟩, .string ⟨#[]⟩, .string ⟨#[]⟩, .int .i64 0] 23)
  have hrb : w.heap.size ≠ b := by have := h.lt; omega
  have hl : l.length < 1000000000000 := by omega
  have hl1 : (l.drop u).length ≤ 1048576 := by rw [List.length_drop]; omega
  have hN := number_ok b l hl ht
  generalize l.drop u = l1 at hl1 hN
  have hH := has_calls k
  rw [hh] at hH
  go_enter Tryd.func26, Tryd.ntmps26
  go_wp2_with fail
  refine (hN _ ha0).mono ?_
  rintro e w1 ⟨rfl, m1⟩
  have hr1 := hr0.mv hrb m1
  have ho1 := ho0.mv m1
  have hc1 := Five.new w1 (.int .i64 k) (.string ⟨#[]⟩) (.string ⟨#[]⟩) (.string ⟨#[]⟩) (.int .i64 0)
  have hrc : w.heap.size ≠ w1.heap.size := by have h1 := m1.size; have h2 := hr0.lt; omega
  have hcb : w1.heap.size ≠ b := by have h1 := m1.size; have h2 := ha0.lt; omega
  go_wp2_with fail
  refine (hH _).mono ?_
  rintro e w2 ⟨rfl, hb2⟩
  have ho2 := (ho1.alloc _).below hb2
  have hr2 := (hr1.alloc _).below hb2
  have hc2 := hc1.below hb2
  have ha2 := (m1.at_.alloc _).below hb2
  obtain ⟨p0, p1, p2, p3, p4, f0, f1, f2, f3, f4⟩ := hc2.cells
  go_wp2_with fail
  have hl13 : l1.length < 1000000000000 := by omega
  cases ht3 : Gw.Vlq.take l1 with
  | none =>
    have hres : Gw.Call.t0 k l1 = none := (t0_some hh).trans ((t1_ok tText_off).trans ((t2_ok tText_off).trans ((t3_ok tText_off).trans (t4_bad (tNum_bad ht3)))))
    refine (number_bad b l1 hl13 ht3 _ ha2).mono ?_
    rintro e w8 ⟨rfl, hb8⟩
    have ho8 := ho2.below hb8
    go_wp2_with fail
    exact ⟨rfl, rfl, ho8⟩
  | some nu3 =>
    obtain ⟨n3, u3⟩ := nu3
    obtain ⟨L3, hT3, hLl3, hX3⟩ := number_more b l1 hl13 ht3
    clear ht3
    refine (hX3 _ ha2).mono ?_
    rintro e v3 ⟨rfl, m3⟩
    have xo3 := ho2.mv m3
    have xr3 := hr2.mv hrb m3
    have xc3 := hc2.mv hcb m3
    obtain ⟨_, p1, p2, p3, p4, _, f1, f2, f3, f4⟩ := xc3.cells
    go_wp2_with fail
    have ho3 := xo3.set (c := w1.heap.size) (j := 4) (v := (.int .i64 (n3 : Int))) ho1.size
    have hr3 := xr3.other (d := w1.heap.size) (j := 4) (v := (.int .i64 (n3 : Int))) hrc
    have hc3 := xc3.set4 (v := (.int .i64 (n3 : Int)))
    have ha3 := m3.at_.set_other (c := w1.heap.size) (j := 4) (v := (.int .i64 (n3 : Int))) hcb.symm
    clear p1 p2 p3 p4 f1 f2 f3 f4
    obtain ⟨p0, p1, p2, p3, p4, f0, f1, f2, f3, f4⟩ := xc3.cells
    have hck := check_calls (⟨k, [], [], [], (n3 : Int)⟩ : Gw.Call.Call) (by simp only; first | (simp; done) | omega) (by simp only; first | (simp; done) | omega)
    cases hcq : Gw.Call.check (⟨k, [], [], [], (n3 : Int)⟩ : Gw.Call.Call) with
    | false =>
      rw [hcq] at hck
      have hres : Gw.Call.t0 k l1 = none := (t0_some hh).trans ((t1_ok tText_off).trans ((t2_ok tText_off).trans ((t3_ok tText_off).trans ((t4_ok hT3).trans (done_bad hcq)))))
      refine (hck _).mono ?_
      rintro e w9 ⟨rfl, hb9⟩
      have ho9 := ho3.below hb9
      go_wp2_with fail
      exact ⟨rfl, rfl, ho9⟩
    | true =>
      rw [hcq] at hck
      have hres : Gw.Call.t0 k l1 = some ((⟨k, [], [], [], (n3 : Int)⟩ : Gw.Call.Call), L3) := (t0_some hh).trans ((t1_ok tText_off).trans ((t2_ok tText_off).trans ((t3_ok tText_off).trans ((t4_ok hT3).trans (done_ok hcq)))))
      refine (hck _).mono ?_
      rintro e w9 ⟨rfl, hb9⟩
      have ho9 := ho3.below hb9
      have ha9 := ha3.below hb9
      have hr9 := hr3.below hb9
      have hc9 := hc3.below hb9
      obtain ⟨p0, p1, p2, p3, p4, f0, f1, f2, f3, f4⟩ := hc9.cells
      obtain ⟨q0, q1, q2, q3, q4, g0, g1, g2, g3, g4⟩ := hr9.cells
      go_wp2_with fail
      have hR := ((((hr9.set0 (v := .int .i64 k)).set1 (v := .string ⟨([]).toArray⟩)).set2 (v := .string ⟨([]).toArray⟩)).set3 (v := .string ⟨([]).toArray⟩)).set4 (v := .int .i64 (n3 : Int))
      obtain ⟨z0, z1, z2, z3, z4, _⟩ := hR.cells
      have hO := ((((ho9.set (c := w.heap.size) (j := 0) (v := .int .i64 k) (Nat.le_refl _)).set (c := w.heap.size) (j := 1) (v := .string ⟨([]).toArray⟩) (Nat.le_refl _)).set (c := w.heap.size) (j := 2) (v := .string ⟨([]).toArray⟩) (Nat.le_refl _)).set (c := w.heap.size) (j := 3) (v := .string ⟨([]).toArray⟩) (Nat.le_refl _)).set (c := w.heap.size) (j := 4) (v := .int .i64 (n3 : Int)) (Nat.le_refl _)
      have hA := ((((ha9.set_other (c := w.heap.size) (j := 0) (v := .int .i64 k) hrb.symm).set_other (c := w.heap.size) (j := 1) (v := .string ⟨([]).toArray⟩) hrb.symm).set_other (c := w.heap.size) (j := 2) (v := .string ⟨([]).toArray⟩) hrb.symm).set_other (c := w.heap.size) (j := 3) (v := .string ⟨([]).toArray⟩) hrb.symm).set_other (c := w.heap.size) (j := 4) (v := .int .i64 (n3 : Int)) hrb.symm
      rw [hres]
      exact call_ret z0 z1 z2 z3 z4 hO hA rfl
set_option maxHeartbeats 4000000 in
theorem call_p6 (b : Nat) (l : List UInt8) (hl0 : l.length ≤ 1048576) (w : World) (h : AtS b l w) {k u : Nat} (ht : Gw.Vlq.take l = some (k, u)) (hh : Gw.Call.has (k : Int) = some ⟨false, false, false, false⟩) :
    Calls Tryd.prog 26 #[.pointer (some ⟨b, 0, none⟩)] w (CallEnd b (Gw.Call.t0 k (l.drop u)) w) := by
  have hr0 := Five.new w (.int .i64 0) (.string ⟨#[]⟩) (.string ⟨#[]⟩) (.string ⟨#[]⟩) (.int .i64 0)
  have ha0 := h.alloc (.cells #[.int .i64 0, .string ⟨#[]⟩, .string ⟨#[]⟩, .string ⟨#[]⟩, .int .i64 0] 23)
  have ho0 := (Ho.refl b w).alloc (.cells #[.int .i64 0, .string ⟨#[]⟩, .string ⟨#[]⟩, .string ⟨#[]⟩, .int .i64 0] 23)
  have hrb : w.heap.size ≠ b := by have := h.lt; omega
  have hl : l.length < 1000000000000 := by omega
  have hl1 : (l.drop u).length ≤ 1048576 := by rw [List.length_drop]; omega
  have hN := number_ok b l hl ht
  generalize l.drop u = l1 at hl1 hN
  have hH := has_calls k
  rw [hh] at hH
  go_enter Tryd.func26, Tryd.ntmps26
  go_wp2_with fail
  refine (hN _ ha0).mono ?_
  rintro e w1 ⟨rfl, m1⟩
  have hr1 := hr0.mv hrb m1
  have ho1 := ho0.mv m1
  have hc1 := Five.new w1 (.int .i64 k) (.string ⟨#[]⟩) (.string ⟨#[]⟩) (.string ⟨#[]⟩) (.int .i64 0)
  have hrc : w.heap.size ≠ w1.heap.size := by have h1 := m1.size; have h2 := hr0.lt; omega
  have hcb : w1.heap.size ≠ b := by have h1 := m1.size; have h2 := ha0.lt; omega
  go_wp2_with fail
  refine (hH _).mono ?_
  rintro e w2 ⟨rfl, hb2⟩
  have ho2 := (ho1.alloc _).below hb2
  have hr2 := (hr1.alloc _).below hb2
  have hc2 := hc1.below hb2
  have ha2 := (m1.at_.alloc _).below hb2
  obtain ⟨p0, p1, p2, p3, p4, f0, f1, f2, f3, f4⟩ := hc2.cells
  go_wp2_with fail
  have hck := check_calls (⟨k, [], [], [], 0⟩ : Gw.Call.Call) (by simp only; first | (simp; done) | omega) (by simp only; first | (simp; done) | omega)
  cases hcq : Gw.Call.check (⟨k, [], [], [], 0⟩ : Gw.Call.Call) with
  | false =>
    rw [hcq] at hck
    have hres : Gw.Call.t0 k l1 = none := (t0_some hh).trans ((t1_ok tText_off).trans ((t2_ok tText_off).trans ((t3_ok tText_off).trans ((t4_ok tNum_off).trans (done_bad hcq)))))
    refine (hck _).mono ?_
    rintro e w9 ⟨rfl, hb9⟩
    have ho9 := ho2.below hb9
    go_wp2_with fail
    exact ⟨rfl, rfl, ho9⟩
  | true =>
    rw [hcq] at hck
    have hres : Gw.Call.t0 k l1 = some ((⟨k, [], [], [], 0⟩ : Gw.Call.Call), l1) := (t0_some hh).trans ((t1_ok tText_off).trans ((t2_ok tText_off).trans ((t3_ok tText_off).trans ((t4_ok tNum_off).trans (done_ok hcq)))))
    refine (hck _).mono ?_
    rintro e w9 ⟨rfl, hb9⟩
    have ho9 := ho2.below hb9
    have ha9 := ha2.below hb9
    have hr9 := hr2.below hb9
    have hc9 := hc2.below hb9
    obtain ⟨p0, p1, p2, p3, p4, f0, f1, f2, f3, f4⟩ := hc9.cells
    obtain ⟨q0, q1, q2, q3, q4, g0, g1, g2, g3, g4⟩ := hr9.cells
    go_wp2_with fail
    have hR := ((((hr9.set0 (v := .int .i64 k)).set1 (v := .string ⟨([]).toArray⟩)).set2 (v := .string ⟨([]).toArray⟩)).set3 (v := .string ⟨([]).toArray⟩)).set4 (v := .int .i64 0)
    obtain ⟨z0, z1, z2, z3, z4, _⟩ := hR.cells
    have hO := ((((ho9.set (c := w.heap.size) (j := 0) (v := .int .i64 k) (Nat.le_refl _)).set (c := w.heap.size) (j := 1) (v := .string ⟨([]).toArray⟩) (Nat.le_refl _)).set (c := w.heap.size) (j := 2) (v := .string ⟨([]).toArray⟩) (Nat.le_refl _)).set (c := w.heap.size) (j := 3) (v := .string ⟨([]).toArray⟩) (Nat.le_refl _)).set (c := w.heap.size) (j := 4) (v := .int .i64 0) (Nat.le_refl _)
    have hA := ((((ha9.set_other (c := w.heap.size) (j := 0) (v := .int .i64 k) hrb.symm).set_other (c := w.heap.size) (j := 1) (v := .string ⟨([]).toArray⟩) hrb.symm).set_other (c := w.heap.size) (j := 2) (v := .string ⟨([]).toArray⟩) hrb.symm).set_other (c := w.heap.size) (j := 3) (v := .string ⟨([]).toArray⟩) hrb.symm).set_other (c := w.heap.size) (j := 4) (v := .int .i64 0) hrb.symm
    rw [hres]
    exact call_ret z0 z1 z2 z3 z4 hO hA rfl
end Go.Proofs.YtfmhkfijnflalaaDoor
