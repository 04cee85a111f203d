/- strings.Builder: what Grow does to one that is new. No claim of its own. -/
import Derived.Test.YtgbahdoiogcpiaaDoorABld
import Derived.Lib.MakeNoZero
namespace Go.Am
open Go.RowKit
variable {P : Program} {σ : St}

/-- A function that lays room for a row behind an empty slice in a box of the call's own. -/
theorem AC.growB {f : FuncId} (hE : Enters P f) {k n : Nat} {bt e : TypeId} {m : Int} {K : V → St → Nat → Prop} (hs : σ (.blk k) = .box bt [.nilp, .lst true 1 [] .tight])
    (hc : ∀ (w : World) (c : Nat), w.heap[c]? = some (.cells [.pointer none, .slice none 0 0].toArray bt (0, 0)) →
      Calls P f #[.pointer (some ⟨c, 0, none⟩), .int .i64 m] w fun ed w' => ed = .returned (.tuple #[]) ∧ ∃ (w1 : World) (arr : List Value), Below w.heap.size w w1 ∧ w1.heap = w.heap.push (.cells arr.toArray e (0, 0)) ∧ Wr c w1 w' ∧
        w'.heap[c]? = some (.cells [.pointer (some ⟨c, 0, none⟩), .slice (some ⟨w.heap.size, 0, none⟩) 0 arr.length].toArray bt (0, 0)))
    (hk : K (.tup []) (upd (upd σ (.row n) (.row e 1 0)) (.blk k) (.box bt [.ptr k 0, .lst false 1 [] (.brow n)])) (n + 1)) : AC P f [.ptr k 0, .int .i64 m] σ n K := by
  refine ⟨hE, fun b g w vals h hl hv => ?_⟩
  match vals, hl with
  | [v, u], _ =>
    obtain ⟨c, hc', ev⟩ := (hv 0 _ v rfl rfl).ptr_inv
    subst ev
    obtain rfl := (hv 1 _ u rfl rfl).int_inv
    obtain ⟨arr0, ha1, ha2, ha3⟩ := h.box k bt _ c hs hc'
    match arr0, ha2 with
    | [p, q], _ =>
      obtain rfl := (ha3 0 _ p rfl rfl).nilp_inv
      obtain ⟨ad, cap, rfl, h5, h6⟩ := (ha3 1 _ q rfl rfl).lst_inv
      obtain rfl : cap = 0 := h6
      obtain rfl : ad = none := by
        cases h5 with
        | lst _ hnl _ _ _ _ _ =>
          cases ad with
          | none => rfl
          | some a => cases hnl
      refine (hc w c ha1).mono ?_
      rintro ed w' ⟨rfl, w1, arr, hb1, hh1, hw, hcell⟩
      obtain ⟨k1, k2⟩ := h.grow0 hb1
      have hnew : w1.heap[w.heap.size]? = some (.cells arr.toArray e (0, 0)) := by rw [hh1]; simp
      have hsz : w1.heap.size = w.heap.size + 1 := by rw [hh1]; simp
      obtain ⟨r1, r2, r3⟩ := k1.rowDone (id := n) (c := w.heap.size) (sz := 1) (N := 0) (cap := arr.length) (t := e) (z := (0, 0)) (arr := arr) (els := []) rfl
        (fun bk M hh => by rw [h.fresh.2] at hh; cases hh) h.below.size (by omega) (fun o ho => absurd (h.flt _ _ ho) (Nat.lt_irrefl _)) (fun id hl hc => absurd (h.ownsz _ _ hc) (Nat.lt_irrefl _))
        (fun id t sz N N' _ _ hr => absurd (h.rowsz _ _ _ hr) (Nat.lt_irrefl _)) hnew (fun o _ ho => by simp at ho) (by omega) (Nat.zero_le _) (by simp) (fun i x v hx => by simp at hx) (fun i x v hx => by simp at hx)
      have r1' : HSim b (upd σ (.row n) (.row e 1 0)) (· < n + 1) (g.setRow n w.heap.size 0 1) w1 := r1.widen (fun i hi => by rcases hi with hi | hi <;> omega)
      have hbk : (upd σ (.row n) (.row e 1 0)) (.blk k) = .box bt [.nilp, .lst true 1 [] .tight] := by rw [upd_ne (by intro e; cases e)]; exact hs
      have hlive : ((upd σ (.row n) (.row e 1 0)) (.blk k)).isBlk = true := by rw [hbk]; rfl
      have hck : (g.setRow n w.heap.size 0 1).own k = some c := hc'
      have hEv : Ev (g.setRow n w.heap.size 0 1) w1 (g.setRow n w.heap.size 0 1) w' := Ev.write hw (fun o => by obtain ⟨c', q1, _, _, q2⟩ := r1'.live k hlive; rw [hck] at q1; cases q1; exact q2 o)
      obtain ⟨z1, z2⟩ := r1'.write (X := .box bt [.ptr k 0, .lst false 1 [] (.brow n)]) hlive hck hw (fun _ => ⟨_, hcell, rfl, fun i x v hx hv => by
        match i, hx with
        | 0, hx => simp at hx hv; subst hx hv; exact .ptr hck
        | 1, hx => simp at hx hv; subst hx hv; exact r3.mono hEv
        | i + 2, hx => simp at hx⟩)
      exact ⟨_, _, _, n + 1, _, rfl, hk, Nat.le_succ _, .tup rfl (fun i x v hx => by simp at hx), z1, (k2.trans r2).trans z2⟩
end Go.Am

namespace Go.Proofs.YtgbahdoiogcpiaaDoor
open Go.RowKit Go.Am

set_option maxHeartbeats 1000000 in
set_option maxRecDepth 100000 in
theorem bld_grow0 (b n : Nat) (w : World) (hbk : w.heap[b]? = some (.cells #[.pointer (some ⟨b, 0, none⟩), .slice none 0 0] 60 (0, 0))) (hn : n ≤ 281474976710656) :
    Calls Tryd.prog 49 #[.pointer (some ⟨b, 0, none⟩), .int .i64 n] w fun e w' => e = .returned (.tuple #[]) ∧ ∃ (w1 : World) (arr : List Value), Below w.heap.size w w1 ∧ w1.heap = w.heap.push (.cells arr.toArray 5 (0, 0)) ∧ Wr b w1 w' ∧
        w'.heap[b]? = some (.cells [.pointer (some ⟨b, 0, none⟩), .slice (some ⟨w.heap.size, 0, none⟩) 0 arr.length].toArray 60 (0, 0)) := by
  obtain ⟨cs, hrun, hle, hmax⟩ := Lib.run_makeNoZero (P := Tryd.prog) w.drew #[3] 58 5 Tryd.underlying58 n hn
  have hw : IntKind.i64.wrap (IntKind.i64.wrap 0 + (n : Int)) = n := by
    rw [IntKind.wrap_i64, IntKind.wrap_i64]
    omega
  have hcall : (callFunc 56 #[.int .i64 (IntKind.i64.wrap (IntKind.i64.wrap 0 + (n : Int)))]).run Tryd.prog w.drew = .ok (.value (.slice (some ⟨w.drew.heap.size, 0, none⟩) n cs.size)) (w.drew.drew.drew.alloc (.cells cs 5)) := by
    rw [hw, run_callFunc_extern Tryd.func56 (by kernel_rfl) (by kernel_rfl) (by kernel_rfl) (e := Extern.BytealgMakeNoZero.makeNoZero #[3] #[58]) (by kernel_rfl), hrun]
    rfl
  have hlt : b < w.heap.size := (Array.getElem?_eq_some_iff.1 hbk).1
  have hbk1 : (w.alloc (.cells cs 5)).heap[b]? = some (.cells [.pointer (some ⟨b, 0, none⟩), .slice none 0 0].toArray 60 (0, 0)) := by
    show (w.heap.push _)[b]? = _
    rw [Array.getElem?_push_lt hlt, ← Array.getElem?_eq_getElem hlt]
    exact hbk
  have c1 : w.drew.cell? ⟨b, 1, none⟩ = some (.slice none 0 0) := by rw [cell_row (w := w.drew) (arr := [.pointer (some ⟨b, 0, none⟩), .slice none 0 0]) hbk]; rfl
  have c2 : (w.alloc (.cells cs 5)).cell? ⟨b, 1, none⟩ = some (.slice none 0 0) := by rw [cell_row hbk1]; rfl
  have f2 : (w.alloc (.cells cs 5)).frozen? ⟨b, 1, none⟩ = false := frozen_row hbk1 (by simp)
  have hcopy : ∀ W : World, (Builtin.copy_ #[58, 58] 3 #[.slice (some ⟨w.heap.size, 0, none⟩) 0 cs.size, .slice none 0 0]).run Tryd.prog W = .ok (goInt 0) W :=
    fun W => run_copy_none W 58 58 3 5 _ _ 0 cs.size 0 0 Tryd.underlying58 (by kernel_rfl) rfl
  obtain ⟨s1, s2, _, _⟩ := setCells_of_store b 1 [.slice (some ⟨w.heap.size, 0, none⟩) 0 cs.size] hbk1 (by simp) (fun o _ ho => by simp at ho) (fun u hu => by simp at hu; subst hu; rfl)
  have hfin : Below w.heap.size w (w.alloc (.cells cs 5)) ∧ (w.alloc (.cells cs 5)).heap = w.heap.push (.cells cs.toList.toArray 5 (0, 0)) ∧
      Wr b (w.alloc (.cells cs 5)) ((w.alloc (.cells cs 5)).setCell ⟨b, 1, none⟩ (.slice (some ⟨w.heap.size, 0, none⟩) 0 cs.size)).drew.drew.drew ∧
      ((w.alloc (.cells cs 5)).setCell ⟨b, 1, none⟩ (.slice (some ⟨w.heap.size, 0, none⟩) 0 cs.size)).drew.drew.drew.heap[b]? = some (.cells [.pointer (some ⟨b, 0, none⟩), .slice (some ⟨w.heap.size, 0, none⟩) 0 cs.toList.length].toArray 60 (0, 0)) := by
    refine ⟨(Below.refl _ w).alloc (Nat.le_refl _) _, rfl, ⟨s1.os, s1.tape, s1.output, s1.size, s1.block, s1.shape, s1.dfr⟩, ?_⟩
    rw [Array.length_toList]
    exact s2
  have hcm : (w.setCell ⟨b, 1, none⟩ (.slice (some ⟨w.heap.size, 0, none⟩) 0 cs.size)).alloc (.cells cs 5) = (w.alloc (.cells cs 5)).setCell ⟨b, 1, none⟩ (.slice (some ⟨w.heap.size, 0, none⟩) 0 cs.size) := (World.setCell_alloc_past _ _ _ _ hlt).symm
  rw [← hcm] at hfin
  clear hw s1 s2 hcm
  go_enter Tryd.func49, Tryd.ntmps49
  go_wp2
  go_region
  all_goals (go_wp2; go_end0; exact ⟨rfl, _, _, hfin⟩)

set_option maxHeartbeats 1000000 in
set_option maxRecDepth 100000 in
theorem bld_grow (n : Nat) (h0 : 0 < n) (hn : n ≤ 281474976710656) (w : World) (b : Nat) (hbk : w.heap[b]? = some (.cells [.pointer none, .slice none 0 0].toArray 60 (0, 0))) :
    Calls Tryd.prog 37 #[.pointer (some ⟨b, 0, none⟩), .int .i64 n] w fun e w' => e = .returned (.tuple #[]) ∧ ∃ (w1 : World) (arr : List Value), Below w.heap.size w w1 ∧ w1.heap = w.heap.push (.cells arr.toArray 5 (0, 0)) ∧ Wr b w1 w' ∧
        w'.heap[b]? = some (.cells [.pointer (some ⟨b, 0, none⟩), .slice (some ⟨w.heap.size, 0, none⟩) 0 arr.length].toArray 60 (0, 0)) := by
  have h0' : w.cell? ⟨b, 0, none⟩ = some (.pointer none) := by rw [cell_row hbk]; rfl
  have hsh : w.shape? b = some (60, 2) := by unfold World.shape?; rw [hbk]; rfl
  have hfz : w.frozen? ⟨b, 0, none⟩ = false := frozen_row hbk (by simp)
  have hcc := bld_fresh b w h0' hsh hfz
  obtain ⟨s1, s2, _, _⟩ := setCells_of_store b 0 [.pointer (some ⟨b, 0, none⟩)] hbk (by simp) (fun o _ ho => by simp at ho) (fun u hu => by simp at hu; subst hu; rfl)
  have s1' : Wr b w (w.setCell ⟨b, 0, none⟩ (.pointer (some ⟨b, 0, none⟩))) := s1
  have s2' : (w.setCell ⟨b, 0, none⟩ (.pointer (some ⟨b, 0, none⟩))).heap[b]? = some (.cells [.pointer (some ⟨b, 0, none⟩), .slice none 0 0].toArray 60 (0, 0)) := s2
  clear s1 s2
  have c1 : (w.setCell ⟨b, 0, none⟩ (.pointer (some ⟨b, 0, none⟩))).drew.cell? ⟨b, 1, none⟩ = some (.slice none 0 0) := by rw [cell_row (w := (w.setCell ⟨b, 0, none⟩ (.pointer (some ⟨b, 0, none⟩))).drew) s2']; rfl
  have hgr := bld_grow0 b n (w.setCell ⟨b, 0, none⟩ (.pointer (some ⟨b, 0, none⟩))).drew s2' hn
  have hgt : decide ((0 : Int) < (n : Int)) = true := decide_eq_true (by omega)
  go_enter Tryd.func37, Tryd.ntmps37
  go_wp2_with fail
  refine hcc.mono ?_
  rintro e w' ⟨rfl, rfl⟩
  go_wp2_with fail
  go_region
  all_goals (
    go_wp2_with fail
    refine hgr.mono ?_
    rintro e w' ⟨rfl, w1, arr, hb1, hh1, hw1, hcell⟩
    go_wp2_with fail
    go_end0
    have hlt : b < w.heap.size := (Array.getElem?_eq_some_iff.1 hbk).1
    have hsz : (w.setCell ⟨b, 0, none⟩ (.pointer (some ⟨b, 0, none⟩))).drew.heap.size = w.heap.size := s1'.size
    rw [hsz] at hcell
    have hp : ∀ k, k ≠ b → ((w.setCell ⟨b, 0, none⟩ (.pointer (some ⟨b, 0, none⟩))).drew.heap.push (.cells arr.toArray 5 (0, 0)))[k]? = (w.heap.push (.cells arr.toArray 5 (0, 0)))[k]? := fun k hk => by
      have := s1'.block k hk
      rw [Array.getElem?_push, Array.getElem?_push, hsz]
      split
      · rfl
      · exact this
    refine ⟨rfl, w.alloc (.cells arr.toArray 5 (0, 0)), arr, (Below.refl _ w).alloc (Nat.le_refl _) _, rfl, ⟨hw1.os.trans (hb1.os.trans s1'.os), hw1.tape.trans (hb1.tape.trans s1'.tape), hw1.output.trans (hb1.output.trans s1'.output), ?_, fun k hk => ?_, ?_, fun ds hd => ?_⟩, hcell⟩
    · rw [hw1.size, hh1, Array.size_push, hsz]; simp
    · rw [hw1.block k hk, hh1]; exact hp k hk
    · unfold World.shape?
      rw [hcell, show (w.alloc (.cells arr.toArray 5 (0, 0))).heap[b]? = w.heap[b]? from Below.heap_alloc w _ b hlt, hbk]; rfl
    · rw [show (w.alloc (.cells arr.toArray 5 (0, 0))).heap[b]? = w.heap[b]? from Below.heap_alloc w _ b hlt, hbk] at hd; cases hd)
end Go.Proofs.YtgbahdoiogcpiaaDoor
