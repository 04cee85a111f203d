/- What the document's answer for stamps computes: told without addresses. No claim of its own. -/
import Derived.Test.YtipgfdepopfghaaGreatATreeM
namespace Go.Proofs.YtipgfdepopfghaaGreat
open Go.Am

theorem rstampCheck_pc (s : Gw.Stamp.Stamp) : PC Tryz.prog 123 [encS s] (.bool (Gw.Stamp.check s)) := by
  obtain ⟨c, r⟩ := s
  show PC Tryz.prog _ [.agg [.int .i64 c, .int .i64 r]] (.bool (decide (1 ≤ c) && (decide (c ≤ 1048576) && (decide (0 ≤ r) && decide (r ≤ 63)))))
  refine PC.of tabOk mixed (fn := Tryz.f123) (by kernel_rfl) rfl (by kernel_rfl) rfl rfl ?_
  conv => whnf
  refine ⟨fun h1 => ?_, fun h1 => ?_⟩
  · rw [h1]
    conv => whnf
    refine ⟨fun h2 => ?_, fun h2 => ?_⟩
    · rw [h2]
      conv => whnf
      refine ⟨fun h3 => ?_, fun h3 => ?_⟩
      · rw [h3]
        conv => whnf
        rfl
      · rw [h3]
        conv => whnf
        rfl
    · rw [h2]
      conv => whnf
      rfl
  · rw [h1]
    conv => whnf
    rfl

theorem rless_pc (a b : Gw.Stamp.Stamp) : PC Tryz.prog 125 [encS a, encS b] (.bool (Gw.Stamp.less a b)) := by
  obtain ⟨c, r⟩ := a
  obtain ⟨d, q⟩ := b
  show PC Tryz.prog _ [.agg [.int .i64 c, .int .i64 r], .agg [.int .i64 d, .int .i64 q]] (.bool (decide (c < d) || (decide (c = d) && decide (r < q))))
  refine PC.of tabOk mixed (fn := Tryz.f125) (by kernel_rfl) rfl (by kernel_rfl) rfl rfl ?_
  conv => whnf
  refine ⟨fun h1 => ?_, fun h1 => ?_⟩
  · rw [h1]
    conv => whnf
    rfl
  · rw [h1]
    conv => whnf
    refine ⟨fun h2 => ?_, fun h2 => ?_⟩
    · conv => whnf
      have h2 : c = d := by simpa using h2
      rw [decide_eq_true h2]; rfl
    · conv => whnf
      have h2 : ¬ c = d := by simpa using h2
      rw [decide_eq_false h2]; rfl

theorem rof_pc (id : Int) (hi : I64 id) : PC Tryz.prog 112 [.int .i64 id] (.tup [encS (Gw.Stamp.of id), .bool (Gw.Stamp.file id), .bool (Gw.Stamp.ok id)]) := by
  unfold I64 at hi
  refine PC.of tabOk mixed (fn := Tryz.f112) (by kernel_rfl) rfl (by kernel_rfl) rfl rfl ?_
  conv => whnf
  refine ⟨fun h1 => ?_, fun h1 => ?_⟩
  · have h1 := of_decide_eq_true h1
    have e : Gw.Stamp.ok id = false := by simp [Gw.Stamp.ok]; omega
    conv => whnf
    rw [Gw.Stamp.of, Gw.Stamp.file, e, if_neg (by decide)]; rfl
  have h1 := of_decide_eq_false h1
  conv => whnf
  refine ⟨fun h2 => ?_, fun h2 => ?_⟩
  · have h2 := of_decide_eq_true h2
    have e : Gw.Stamp.ok id = false := by simp [Gw.Stamp.ok]; omega
    conv => whnf
    rw [Gw.Stamp.of, Gw.Stamp.file, e, if_neg (by decide)]; rfl
  have h2 := of_decide_eq_false h2
  have e : Gw.Stamp.ok id = true := by simp [Gw.Stamp.ok]; omega
  have e1 : id.tdiv 128 = id / 128 := tdiv_pos (by omega)
  have e2 : id.tmod 128 = id % 128 := tmod_pos (by omega)
  have e3 : (id % 128).tdiv 2 = id % 128 / 2 := tdiv_pos (by omega)
  have e4 : id.tmod 2 = id % 2 := tmod_pos (by omega)
  have w1 : IntKind.i64.wrap (id / 128) = id / 128 := w64 (by omega) (by omega)
  have w2 : IntKind.i64.wrap (id % 128 / 2) = id % 128 / 2 := w64 (by omega) (by omega)
  unfold Gw.Stamp.of Gw.Stamp.file
  rw [e, if_pos rfl, Bool.true_and]
  conv => whnf
  rw [e1, e2, e3, w1, w2, e4]
  rfl

theorem rdir_pc (id : Int) (hi : I64 id) : PC Tryz.prog 85 [.int .i64 id] (.bool (Gw.Stamp.dir id)) := by
  have h1 := rof_pc id hi
  unfold Gw.Stamp.dir
  refine PC.of tabOk mixed (fn := Tryz.f85) (by kernel_rfl) rfl (by kernel_rfl) rfl rfl ?_
  conv => whnf
  refine AC.of_pc h1 rfl ?_
  generalize Gw.Stamp.ok id = q
  conv => whnf
  refine ⟨fun h3 => ?_, fun h3 => ?_⟩
  · have h3 : id = 0 := by simpa using h3
    conv => whnf
    rw [decide_eq_true h3]; rfl
  have h3 : ¬ id = 0 := by simpa using h3
  rw [decide_eq_false h3]
  conv => whnf
  refine ⟨fun h4 => ?_, fun h4 => ?_⟩
  · have h4 : id = 2 := by simpa using h4
    conv => whnf
    rw [decide_eq_true h4]; rfl
  have h4 : ¬ id = 2 := by simpa using h4
  rw [decide_eq_false h4]
  conv => whnf
  refine ⟨fun h5 => ?_, fun h5 => ?_⟩
  · conv => whnf
    rw [h5]; rfl
  · conv => whnf
    rw [h5]; rfl
end Go.Proofs.YtipgfdepopfghaaGreat
