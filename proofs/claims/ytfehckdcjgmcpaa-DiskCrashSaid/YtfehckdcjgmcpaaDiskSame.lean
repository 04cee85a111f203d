/- The walks of slices.Clone of patches and disk.same. -/
import Derived.Test.YtfehckdcjgmcpaaDiskMem
import Derived.Test.YtfehckdcjgmcpaaMake
import Derived.Lib.SliceRun
namespace Go.Proofs.Ytfehckdcjgmcpaa
open Go.RowKit

set_option maxRecDepth 1000000 in
set_option maxHeartbeats 400000 in
theorem clone_any (ps : List (Int × ByteArray)) (hl : ps.length ≤ 1000000000) (sl : Value) (w : World) (hp : PatchesAt w sl ps) :
    Calls Try.prog 31 #[sl] w fun e w' => ∃ sl', e = .returned sl' ∧ Own w' w.heap.size 2 sl' ps.length (pcells ps) ∧ Below w.heap.size w w' := by
  obtain ⟨ao, cap, rfl⟩ := hp.form
  cases ao with
  | none =>
    have hps : ps = [] := by
      rcases hp with ⟨h, _⟩ | ⟨b, off, c, h, _⟩
      · exact h
      · cases h
    subst hps
    have heq := Lib.run_eql_slice_nil (P := Try.prog) w 22 40 none 0 cap 0 0 Try.underlying22
    go_enter Try.func31, Try.ntmps31
    go_wp2_with fail
    go_ret
    exact ⟨_, rfl, Own.nil _ _ _, Below.refl _ _⟩
  | some ad =>
    have heq := Lib.run_eql_slice_nil (P := Try.prog) w 22 40 (some ad) ps.length cap 0 0 Try.underlying22
    have hown : Own (w.alloc (.cells #[] 40)) w.heap.size 2 (.slice (some ⟨w.heap.size, 0, none⟩) 0 0) 0 [] :=
      ⟨rfl, .inr ⟨w.heap.size, 0, 0, rfl, Nat.le_refl _, by simp, Nat.le_refl _, Nat.zero_le _, fun j hj => by simp at hj, fun j u hu => by simp at hu⟩⟩
    have HOWN := Lib.hid hown
    have HSRC := Lib.hid ((hp.below ((Below.refl w.heap.size w).new (.cells #[] 40)) (Nat.le_refl _)).src (P := Try.prog) (tx := 22) (e := 40) Try.underlying22)
    have HL := Lib.hid hl
    clear hown hp hl
    go_enter Try.func31, Try.ntmps31
    go_wp2_with (at_builtin; refine wpList_append_own rfl _ _ 22 22 rfl w.heap.size 40 (.agg #[.int .i64 0, .string ⟨#[]⟩]) 2 24 Try.underlying22 (by kernel_rfl) rfl _ _ _ rfl HOWN.out _ ps.length (pcells ps) rfl HSRC.out (by have := HL.out; unfold maxLen; omega) (by have := HL.out; omega) (by simp) (fun h => by cases h) ?_; intro v' w2 hown' hgr' hform; have HO' := Lib.hid hown'; have HG' := Lib.hid hgr'; clear hown' hgr' hform)
    go_ret
    rw [Nat.zero_add] at HO'
    have hb := ((Below.refl w.heap.size w).new (.cells #[] 40)).grown HG'.out (by simp) (fun k hk => by cases hk; exact Nat.le_refl _)
    exact ⟨_, rfl, HO'.out, hb⟩

set_option maxRecDepth 1000000 in
set_option maxHeartbeats 400000 in
theorem same_any (d : Gw.Disk.Disk) (hl : d.loose.length ≤ 1000000000) (sl : Value) (w : World) (hp : PatchesAt w sl d.loose) :
    Calls Try.prog 25 #[diskV d sl] w (SaidDisk d w) := by
  obtain ⟨size, firm, ps⟩ := d
  simp only at hl hp
  unfold diskV
  simp only
  have hb0 := ((Below.refl w.heap.size w).new (.cells #[.int .i64 size, .string firm, sl] 24)).alloc (by simp) (.cells #[.int .i64 0, .string ⟨#[]⟩, .slice none 0 0] 24)
  have H := Lib.hid (clone_any ps hl sl _ (hp.below hb0 (Nat.le_refl _)))
  clear hp hl
  go_enter Try.func25, Try.ntmps25
  go_wp2_with fail
  refine (H.out).mono ?_
  rintro e w2 ⟨sl', rfl, hp2, hb2⟩
  obtain ⟨ao2, cap2, rfl⟩ := hp2.form
  rw [World.size_alloc, World.size_alloc] at hb2 hp2
  have l0 : w.heap.size < w.heap.size + 1 + 1 := by omega
  have l1 : w.heap.size + 1 < w.heap.size + 1 + 1 := by omega
  have c00 := hb2.cell (p := ⟨w.heap.size, 0, none⟩) l0
  have c01 := hb2.cell (p := ⟨w.heap.size, 1, none⟩) l0
  have c02 := hb2.cell (p := ⟨w.heap.size, 2, none⟩) l0
  have f02 := hb2.frozen (p := ⟨w.heap.size, 2, none⟩) l0
  have c10 := hb2.cell (p := ⟨w.heap.size + 1, 0, none⟩) l1
  have c11 := hb2.cell (p := ⟨w.heap.size + 1, 1, none⟩) l1
  have c12 := hb2.cell (p := ⟨w.heap.size + 1, 2, none⟩) l1
  have f10 := hb2.frozen (p := ⟨w.heap.size + 1, 0, none⟩) l1
  have f11 := hb2.frozen (p := ⟨w.heap.size + 1, 1, none⟩) l1
  have f12 := hb2.frozen (p := ⟨w.heap.size + 1, 2, none⟩) l1
  simp at c00 c01 c02 f02 c10 c11 c12 f10 f11 f12
  have HB := Lib.hid (hb0.trans (hb2.mono (by omega)))
  have HP := Lib.hid hp2
  clear hb0 hb2 hp2
  go_wp2_with fail
  refine bodyPost_ret (v := .agg #[.int .i64 size, .string firm, .slice ao2 ps.length cap2]) (by simp [results, Try.results25, go_sem, c10, c11, c12]) rfl ⟨.slice ao2 ps.length cap2, rfl, ?_, ?_⟩
  · exact ((((HP.out.setBelow _ _ l0).setBelow _ _ l1).setBelow _ _ l1).setBelow _ _ l1).mono (by omega)
  · exact (((HB.out.setCell (p := ⟨w.heap.size, 2, none⟩) (Nat.le_refl _) _).setCell (p := ⟨w.heap.size + 1, 0, none⟩) (Nat.le_succ _) _).setCell (p := ⟨w.heap.size + 1, 1, none⟩) (Nat.le_succ _) _).setCell (p := ⟨w.heap.size + 1, 2, none⟩) (Nat.le_succ _) _
end Go.Proofs.Ytfehckdcjgmcpaa
