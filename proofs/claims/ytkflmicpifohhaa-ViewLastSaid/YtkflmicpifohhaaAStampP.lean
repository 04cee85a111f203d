/- What the functions of the package stamp compute: told without addresses. No claim of its own. -/
import Derived.Test.YtkflmicpifohhaaAmTab
import Derived.Test.YtkflmicpifohhaaStampFn
namespace Go.Proofs.Ytkflmicpifohhaa
open Go.Am

def I64 (x : Int) : Prop := -9223372036854775808 ≤ x ∧ x ≤ 9223372036854775807
def encS (s : Gw.Stamp.Stamp) : V := .agg [.int .i64 s.c, .int .i64 s.r]

theorem stampCheck_pc (s : Gw.Stamp.Stamp) : PC Try.prog 25 [encS s] (.bool (Gw.Stamp.check s)) := by
  obtain ⟨c, r⟩ := s
  show PC Try.prog _ [.agg [.int .i64 c, .int .i64 r]] (.bool (decide (1 ≤ c) && (decide (c ≤ 1048576) && (decide (0 ≤ r) && decide (r ≤ 63)))))
  refine PC.of tabOk mixed (fn := Try.f25) (by kernel_rfl) rfl (by kernel_rfl) rfl rfl ?_
  conv => whnf
  refine ⟨fun h1 => ?_, fun h1 => ?_⟩
  · rw [h1]
    conv => whnf
    refine ⟨fun h2 => ?_, fun h2 => ?_⟩
    · rw [h2]
      conv => whnf
      refine ⟨fun h3 => ?_, fun h3 => ?_⟩
      · rw [h3]
        conv => whnf
        rfl
      · rw [h3]
        conv => whnf
        rfl
    · rw [h2]
      conv => whnf
      rfl
  · rw [h1]
    conv => whnf
    rfl

theorem less_pc (a b : Gw.Stamp.Stamp) : PC Try.prog 16 [encS a, encS b] (.bool (Gw.Stamp.less a b)) := by
  obtain ⟨c, r⟩ := a
  obtain ⟨d, q⟩ := b
  show PC Try.prog _ [.agg [.int .i64 c, .int .i64 r], .agg [.int .i64 d, .int .i64 q]] (.bool (decide (c < d) || (decide (c = d) && decide (r < q))))
  refine PC.of tabOk mixed (fn := Try.f16) (by kernel_rfl) rfl (by kernel_rfl) rfl rfl ?_
  conv => whnf
  refine ⟨by kernel_rfl, ?_⟩
  conv => whnf
  refine ⟨fun h1 => ?_, fun h1 => ?_⟩
  · conv => whnf
    have h1 : c = d ∧ r = q := by simpa using h1
    congr 1
    simp; omega
  · have h1 : ¬ (c = d ∧ r = q) := by simpa using h1
    conv => whnf
    refine ⟨fun h2 => ?_, fun h2 => ?_⟩
    · have h2 : ¬ c = d := by simpa using h2
      conv => whnf
      rw [decide_eq_false h2, Bool.false_and, Bool.or_false]
    · have h2 : c = d := by simpa using h2
      conv => whnf
      rw [decide_eq_true h2, Bool.true_and, decide_eq_false (by omega : ¬ c < d), Bool.false_or]

theorem of_pc (id : Int) (hi : I64 id) : PC Try.prog 38 [.int .i64 id] (.tup [encS (Gw.Stamp.of id), .bool (Gw.Stamp.file id), .bool (Gw.Stamp.ok id)]) := by
  unfold I64 at hi
  have hck := stampCheck_pc ⟨id.tdiv 128, (id.tmod 128).tdiv 2⟩
  refine PC.of tabOk mixed (fn := Try.f38) (by kernel_rfl) rfl (by kernel_rfl) rfl rfl ?_
  conv => whnf
  refine ⟨fun h1 => ?_, fun h1 => ?_⟩
  · have h1 := of_decide_eq_true h1
    have e : Gw.Stamp.ok id = false := by simp [Gw.Stamp.ok]; omega
    conv => whnf
    rw [Gw.Stamp.of, Gw.Stamp.file, e, if_neg (by decide)]; rfl
  have h1 := of_decide_eq_false h1
  have e1 : id.tdiv 128 = id / 128 := tdiv_pos (by omega)
  have e2 : id.tmod 128 = id % 128 := tmod_pos (by omega)
  have e3 : (id % 128).tdiv 2 = id % 128 / 2 := tdiv_pos (by omega)
  have e4 : id.tmod 2 = id % 2 := tmod_pos (by omega)
  have w1 : IntKind.i64.wrap (id / 128) = id / 128 := w64 (by omega) (by omega)
  have w2 : IntKind.i64.wrap (id % 128 / 2) = id % 128 / 2 := w64 (by omega) (by omega)
  rw [e1, e2, e3] at hck
  have hok : Gw.Stamp.check ⟨id / 128, id % 128 / 2⟩ = Gw.Stamp.ok id := by
    rw [Bool.eq_iff_iff]
    simp only [Gw.Stamp.check, Gw.Stamp.ok, Bool.and_eq_true, decide_eq_true_eq]
    omega
  rw [hok] at hck
  conv => whnf
  rw [e1, e2, e3, w1, w2]
  refine AC.of_pc hck rfl ?_
  unfold Gw.Stamp.of Gw.Stamp.file
  generalize Gw.Stamp.ok id = q
  conv => whnf
  refine ⟨fun h2 => ?_, fun h2 => ?_⟩
  · have h2 : q = false := by simpa using h2
    conv => whnf
    rw [h2]; rfl
  · have h2 : q = true := by simpa using h2
    conv => whnf
    rw [h2, e4, if_pos rfl, Bool.true_and]
    rfl

theorem later_pc (s : Gw.Stamp.Stamp) (id : Int) (hi : I64 id) : PC Try.prog 48 [encS s, .int .i64 id] (.bool (Gw.Stamp.later s id)) := by
  have h1 := of_pc id hi
  have h2 := less_pc s (Gw.Stamp.of id)
  unfold Gw.Stamp.later
  generalize Gw.Stamp.of id = o at h1 h2 ⊢
  refine PC.of tabOk mixed (fn := Try.f48) (by kernel_rfl) rfl (by kernel_rfl) rfl rfl ?_
  conv => whnf
  refine AC.of_pc h1 rfl ?_
  generalize Gw.Stamp.ok id = q
  conv => whnf
  refine ⟨fun h3 => ?_, fun h3 => ?_⟩
  · conv => whnf
    refine AC.of_pc h2 rfl ?_
    conv => whnf
    rw [h3]; rfl
  · conv => whnf
    rw [h3]; rfl

theorem dir_pc (id : Int) (hi : I64 id) : PC Try.prog 14 [.int .i64 id] (.bool (Gw.Stamp.dir id)) := by
  have h1 := of_pc id hi
  unfold Gw.Stamp.dir
  refine PC.of tabOk mixed (fn := Try.f14) (by kernel_rfl) rfl (by kernel_rfl) rfl rfl ?_
  conv => whnf
  refine ⟨fun h3 => ?_, fun h3 => ?_⟩
  · have h3 : id = 0 := by simpa using h3
    conv => whnf
    rw [decide_eq_true h3]; rfl
  have h3 : ¬ id = 0 := by simpa using h3
  rw [decide_eq_false h3]
  conv => whnf
  refine ⟨fun h4 => ?_, fun h4 => ?_⟩
  · have h4 : id = 2 := by simpa using h4
    conv => whnf
    rw [decide_eq_true h4]; rfl
  have h4 : ¬ id = 2 := by simpa using h4
  rw [decide_eq_false h4]
  conv => whnf
  refine AC.of_pc h1 rfl ?_
  generalize Gw.Stamp.ok id = q
  conv => whnf
  refine ⟨fun h5 => ?_, fun h5 => ?_⟩
  · conv => whnf
    rw [h5]; rfl
  · conv => whnf
    rw [h5]; rfl
end Go.Proofs.Ytkflmicpifohhaa
