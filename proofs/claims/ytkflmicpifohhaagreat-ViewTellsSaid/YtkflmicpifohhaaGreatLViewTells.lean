/- ViewTells: THE STATEMENT HOLDS: for every input that can be read the call returns true, and each argument reads as it did. It has no condition of its own. -/
import Derived.Test.YtkflmicpifohhaaGreatLawKit
import Derived.Test.YtkflmicpifohhaaGreatATellsV
import Derived.SizedLaws
import Derived.Test.YtkflmicpifohhaaGreatANodeRow
import Derived.Test.YtkflmicpifohhaaGreatStrsRow
namespace Go.Proofs.YtkflmicpifohhaaGreat.lnViewTells
open Go.ChangeShapes Go.WideShapes Go.ChangeAt Go.RowKit
open Go.ChangeMaps (open_string)

theorem own : ownKnob Tryz.prog.godebug = none := by kernel_rfl
theorem laidOut : laidOutB Tryz.prog = true := by kernel_rfl
theorem lst_weight {H : Type} {enc : TypeId × Value → H} {W : World} {F : Nat → Nat → Prop} {fuel : Nat} {t e : TypeId} {v : Value} {x : DataW H × List MemPlace} (ht : Tryz.prog.underlying t = some (.slice e)) {isNil : Bool} {sz : Nat} {els : List (List Go.Am.V)} (hp : Go.Am.PRep W F (.lst isNil sz els .none) v)
    (hf : DataW.trod enc Tryz.prog W 0 (fun _ => true) true fuel t v.cells.toList = some x) : els.length = 0 ∨ ∃ E S, x.1 = .slice E S ∧ els.length = E.length := by
  cases hp with
  | lst vals hnil hc hsz ha hone h =>
    rcases Go.Deep.open_slice ht hf with ⟨hcs, _⟩ | ⟨a, len, cap, m, n, D, Pl, hcs, _, _, _, _, hx, _⟩
    · simp [Value.cells] at hcs
      exact .inl (by simpa using hcs.2.1)
    · simp [Value.cells] at hcs
      exact .inr ⟨_, _, by rw [hx], by rw [hcs.2.1]; simp⟩
theorem reads_all : ∀ t ∈ Tryz.f3.params.toList, Tryz.prog.readableRec t = true ∧ t < Tryz.prog.types.size := by
  rw [Tryz.params3]
  intro t ht
  have h0 : Tryz.prog.readableRec 22 = true ∧ 22 < Tryz.prog.types.size := ⟨by kernel_rfl, of_decide_eq_true (by kernel_rfl)⟩
  have h1 : Tryz.prog.readableRec 3 = true ∧ 3 < Tryz.prog.types.size := ⟨by kernel_rfl, of_decide_eq_true (by kernel_rfl)⟩
  have h2 : Tryz.prog.readableRec 9 = true ∧ 9 < Tryz.prog.types.size := ⟨by kernel_rfl, of_decide_eq_true (by kernel_rfl)⟩
  have h3 : Tryz.prog.readableRec 23 = true ∧ 23 < Tryz.prog.types.size := ⟨by kernel_rfl, of_decide_eq_true (by kernel_rfl)⟩
  simp only [List.mem_cons, List.not_mem_nil, or_false] at ht
  rcases ht with rfl | rfl | rfl | rfl
  · exact h0
  · exact h1
  · exact h2
  · exact h3

set_option maxRecDepth 20000 in
theorem contract (H : Type) (enc : TypeId × Value → H) (W : World) (base : Nat) (args : Array Value) (ds gs : List (DataW H)) (before : List MemPlace)
    (hval : ∀ (j : Nat) t v, Tryz.f3.params[j]? = some t → args[j]? = some v → Value.okWide Tryz.prog W .any base t v)
    (hW : DataW.Whole enc Tryz.prog Tryz.f3.params.toList Rows.viewTellsSpec.vars false W args.toList ds gs before) (hS : (DataW.weightsEach Tryz.prog (Tryz.f3.params.toList ++ Rows.viewTellsSpec.plain.varTypes Tryz.prog) (ds ++ gs)).all (· ≤ reachBytes) = true) :
    Calls Tryz.prog 3 args W fun e W' => ∃ v, e = .returned v ∧ Rows.viewTellsSpec.post enc Tryz.prog Tryz.f3 false true false false W args v W' := by
  have hW' := hW
  obtain ⟨p, q, hA0, hV, rfl, hfz, hnd⟩ := hW
  have hA : DataW.TrodAll enc Tryz.prog W 0 (fun _ => true) true Tryz.f3.params.toList args.toList ds p := hA0
  rw [Tryz.params3] at hA hval
  obtain ⟨v0, vs0, d0, ds0, p0, q0, hargs, rfl, rfl, g0, r0⟩ := trodAll_cons hA
  obtain ⟨v1, vs1, d1, ds1, p1, q1, rfl, rfl, rfl, g1, r1⟩ := trodAll_cons r0
  obtain ⟨v2, vs2, d2, ds2, p2, q2, rfl, rfl, rfl, g2, r2⟩ := trodAll_cons r1
  obtain ⟨v3, vs3, d3, ds3, p3, q3, rfl, rfl, rfl, g3, r3⟩ := trodAll_cons r2
  obtain ⟨rfl, rfl, rfl⟩ := trodAll_nil r3
  obtain rfl : args = #[v0, v1, v2, v3] := by cases args; simp_all
  obtain ⟨rfl, rfl⟩ := trodVars_none hV
  clear hA0
  obtain ⟨nil0, l, hp0, hn0, hl0, hq0⟩ := open_nodes (hval 0 22 v0 rfl rfl) g0
  obtain ⟨dir, rfl, rfl, rfl, wfdir⟩ := open_int Tryz.underlying3 (hval 1 3 v1 rfl rfl) g1
  have hdir := bounds_i64 wfdir
  obtain ⟨s, rfl, rfl, rfl, hs⟩ := open_string Tryz.underlying9 (hval 2 9 v2 rfl rfl) g2
  obtain ⟨nil3, names, hp3, hn3, hl3⟩ := open_strs (hval 3 23 v3 rfl rfl) g3
  have hS3 : (names.length + 1) * 16 ≤ 140737488355328 := by
    obtain ⟨fuel, hf⟩ := g3
    have hle : (names.map fun t => [Go.Am.V.str t]).length = names.length := List.length_map _
    rcases lst_weight Tryz.underlying23 hp3 hf with h | ⟨E, S, h1, h2⟩
    · omega
    · simp only at h1
      subst h1
      have h3 := sized_slice hS (j := 3) (t := 23) (elems := E) (spare := S) (by rw [Tryz.params3]; rfl) rfl Tryz.underlying23
      rw [show Tryz.prog.bytesOf 9 = 16 by kernel_rfl] at h3
      unfold reachBytes at h3
      omega
  refine (pc_calls (gok_free (by kernel_rfl) W) (vals := [v0, .int .i64 dir, .string s, v3]) (viewTells_pc nil0 nil3 l dir s.data.toList names (fun n hn => (hq0 n hn).1) (by unfold maxLen at hl0; omega) hS3) rfl (reps_cons hp0 (reps_cons rep_int (reps_cons (rep_str s) (reps_cons hp3 reps_nil))))).mono fun e W' ⟨he, hb⟩ => ⟨.bool true, he, ?_⟩
  exact law_post hW' rfl rfl (by kernel_rfl) Tryz.underlying4 laidOut reads_all hb

set_option maxRecDepth 100000 in
theorem lifted (os : Os) (started : os.Started) (H : Type) (enc : TypeId × Value → H) :
    ReturnsInHanded {} Tryz.checked os 3 .any (Rows.viewTellsSpec.pre6 enc Tryz.prog Tryz.f3 Rows.viewTellsRow.domain false) (Rows.viewTellsSpec.post enc Tryz.prog Tryz.f3 false true false false) := by
  refine returnsInHanded_of_change_sized (C := Tryz.checked) own started (by kernel_rfl) Tryz.func3
    (ChangeSpec.witness6 (enc := enc) (C := Tryz.checked) (os := os) false ⟨#[], #[.slice none 0 0, .int .i64 0, .string ⟨#[]⟩, .slice none 0 0], []⟩ 8 (by kernel_rfl) (by kernel_rfl) (by kernel_rfl) (by kernel_rfl)) ?_
  intro W base args ds gs before hval hW hcnd hS _
  exact contract H enc W base args ds gs before hval hW hS

theorem said : Rows.ViewTellsSaid :=
  OpenClaim.holds_of_wide 3 Tryz.f3 rfl rfl rfl rfl rfl rfl rfl ⟨rfl, rfl, rfl, rfl, rfl⟩ rfl rfl rfl rfl rfl (by kernel_rfl) Tryz.func3 (by kernel_rfl)
    (of_decide_eq_true (by kernel_rfl)) (by unfold Func.isWrapper; first | (rw [if_pos (by decide +kernel)]; kernel_rfl) | (rw [if_neg (by decide +kernel)]; exact ⟨rfl, rfl⟩))
    (fun os started H enc _ => lifted os started H enc)
#print axioms said
end Go.Proofs.YtkflmicpifohhaaGreat.lnViewTells
