/- OpTells: THE STATEMENT HOLDS: for every input that can be read the call returns true, and each argument reads as it did. It has no condition of its own. -/
import Derived.Test.YtjfnelgmagmgoaaLawKit
import Derived.Test.YtjfnelgmagmgoaaAROp4
import Derived.SizedLaws
import Derived.Test.YtjfnelgmagmgoaaAOpRow
namespace Go.Proofs.Ytjfnelgmagmgoaa.lnOpTells
open Go.ChangeShapes Go.WideShapes Go.ChangeAt Go.RowKit
open Go.ChangeMaps (open_string)

theorem own : ownKnob Try.prog.godebug = none := by kernel_rfl
theorem laidOut : laidOutB Try.prog = true := by kernel_rfl
theorem lst_weight {H : Type} {enc : TypeId × Value → H} {W : World} {F : Nat → Nat → Prop} {fuel : Nat} {t e : TypeId} {v : Value} {x : DataW H × List MemPlace} (ht : Try.prog.underlying t = some (.slice e)) {isNil : Bool} {sz : Nat} {els : List (List Go.Am.V)} (hp : Go.Am.PRep W F (.lst isNil sz els .none) v)
    (hf : DataW.trod enc Try.prog W 0 (fun _ => true) true fuel t v.cells.toList = some x) : els.length = 0 ∨ ∃ E S, x.1 = .slice E S ∧ els.length = E.length := by
  cases hp with
  | lst vals hnil hc hsz ha hone h =>
    rcases Go.Deep.open_slice ht hf with ⟨hcs, _⟩ | ⟨a, len, cap, m, n, D, Pl, hcs, _, _, _, _, hx, _⟩
    · simp [Value.cells] at hcs
      exact .inl (by simpa using hcs.2.1)
    · simp [Value.cells] at hcs
      exact .inr ⟨_, _, by rw [hx], by rw [hcs.2.1]; simp⟩
theorem reads_all : ∀ t ∈ Try.f3.params.toList, Try.prog.readableRec t = true ∧ t < Try.prog.types.size := by
  rw [Try.params3]
  intro t ht
  have h0 : Try.prog.readableRec 25 = true ∧ 25 < Try.prog.types.size := ⟨by kernel_rfl, of_decide_eq_true (by kernel_rfl)⟩
  have h1 : Try.prog.readableRec 26 = true ∧ 26 < Try.prog.types.size := ⟨by kernel_rfl, of_decide_eq_true (by kernel_rfl)⟩
  have h2 : Try.prog.readableRec 9 = true ∧ 9 < Try.prog.types.size := ⟨by kernel_rfl, of_decide_eq_true (by kernel_rfl)⟩
  simp only [List.mem_cons, List.not_mem_nil, or_false] at ht
  rcases ht with rfl | rfl | rfl | rfl
  · exact h0
  · exact h0
  · exact h1
  · exact h2

theorem contract (H : Type) (enc : TypeId × Value → H) (W : World) (base : Nat) (args : Array Value) (ds gs : List (DataW H)) (before : List MemPlace)
    (hval : ∀ (j : Nat) t v, Try.f3.params[j]? = some t → args[j]? = some v → Value.okWide Try.prog W .any base t v)
    (hW : DataW.Whole enc Try.prog Try.f3.params.toList Rows.opTellsSpec.vars false W args.toList ds gs before) (hS : (DataW.weightsEach Try.prog (Try.f3.params.toList ++ Rows.opTellsSpec.plain.varTypes Try.prog) (ds ++ gs)).all (· ≤ reachBytes) = true) :
    Calls Try.prog 3 args W fun e W' => ∃ v, e = .returned v ∧ Rows.opTellsSpec.post enc Try.prog Try.f3 false true false false W args v W' := by
  have hW' := hW
  obtain ⟨p, q, hA0, hV, rfl, hfz, hnd⟩ := hW
  have hA : DataW.TrodAll enc Try.prog W 0 (fun _ => true) true Try.f3.params.toList args.toList ds p := hA0
  rw [Try.params3] at hA hval
  obtain ⟨v0, vs0, d0, ds0, p0, q0, hargs, rfl, rfl, g0, r0⟩ := trodAll_cons hA
  obtain ⟨v1, vs1, d1, ds1, p1, q1, rfl, rfl, rfl, g1, r1⟩ := trodAll_cons r0
  obtain ⟨v2, vs2, d2, ds2, p2, q2, rfl, rfl, rfl, g2, r2⟩ := trodAll_cons r1
  obtain ⟨v3, vs3, d3, ds3, p3, q3, rfl, rfl, rfl, g3, r3⟩ := trodAll_cons r2
  obtain ⟨rfl, rfl, rfl⟩ := trodAll_nil r3
  obtain rfl : args = #[v0, v1, v2, v3] := by cases args; simp_all
  obtain ⟨rfl, rfl⟩ := trodVars_none hV
  clear hA0
  obtain ⟨o, hp0, hq0, hd0⟩ := open_op (hval 0 25 v0 rfl rfl) g0
  obtain ⟨p, hp1, hq1, hd1⟩ := open_op (hval 1 25 v1 rfl rfl) g1
  obtain ⟨nil2, l, hp2, hn2, hl2, hq2⟩ := open_ops (hval 2 26 v2 rfl rfl) g2
  obtain ⟨b, rfl, rfl, rfl, hb⟩ := open_string Try.underlying9 (hval 3 9 v3 rfl rfl) g3
  have hS2 : (l.length + 2) * 72 ≤ 140737488355328 := by
    obtain ⟨fuel, hf⟩ := g2
    have hle := encOs_len l
    rcases lst_weight Try.underlying26 hp2 hf with h | ⟨E, S, h1, h2⟩
    · omega
    · simp only at h1
      subst h1
      have h3 := sized_slice hS (j := 2) (t := 26) (elems := E) (spare := S) (by rw [Try.params3]; rfl) rfl Try.underlying26
      rw [show Try.prog.bytesOf 25 = 72 by kernel_rfl] at h3
      unfold reachBytes at h3
      omega
  refine (pc_calls (gok_free (by kernel_rfl) W) (vals := [v0, v1, v2, .string b]) (tells_pc nil2 o p l b.data.toList ⟨hq0.1, hq0.2.1⟩ ⟨hq1.1, hq1.2.1⟩ (fun o ho => ⟨(hq2 o ho).1, (hq2 o ho).2.1⟩) hS2) rfl (reps_cons hp0 (reps_cons hp1 (reps_cons hp2 (reps_cons (rep_str b) reps_nil))))).mono fun e W' ⟨he, hb⟩ => ⟨.bool true, he, ?_⟩
  exact law_post hW' rfl rfl (by kernel_rfl) Try.underlying4 laidOut reads_all hb

set_option maxRecDepth 100000 in
theorem lifted (os : Os) (started : os.Started) (H : Type) (enc : TypeId × Value → H) :
    ReturnsInHanded {} Try.checked os 3 .any (Rows.opTellsSpec.pre6 enc Try.prog Try.f3 Rows.opTellsRow.domain false) (Rows.opTellsSpec.post enc Try.prog Try.f3 false true false false) := by
  refine returnsInHanded_of_change_sized (C := Try.checked) own started (by kernel_rfl) Try.func3
    (ChangeSpec.witness6 (enc := enc) (C := Try.checked) (os := os) false ⟨#[], #[.agg #[.int .i64 0, .int .i64 0, .int .i64 0, .int .i64 0, .int .i64 0, .string ⟨#[]⟩, .string ⟨#[]⟩], .agg #[.int .i64 0, .int .i64 0, .int .i64 0, .int .i64 0, .int .i64 0, .string ⟨#[]⟩, .string ⟨#[]⟩], .slice none 0 0, .string ⟨#[]⟩], []⟩ 8 (by kernel_rfl) (by kernel_rfl) (by kernel_rfl) (by kernel_rfl)) ?_
  intro W base args ds gs before hval hW hcnd hS _
  exact contract H enc W base args ds gs before hval hW hS

theorem said : Rows.OpTellsSaid :=
  OpenClaim.holds_of_wide 3 Try.f3 rfl rfl rfl rfl rfl rfl rfl ⟨rfl, rfl, rfl, rfl, rfl⟩ rfl rfl rfl rfl rfl (by kernel_rfl) Try.func3 (by kernel_rfl)
    (of_decide_eq_true (by kernel_rfl)) (by unfold Func.isWrapper; first | (rw [if_pos (by decide +kernel)]; kernel_rfl) | (rw [if_neg (by decide +kernel)]; exact ⟨rfl, rfl⟩))
    (fun os started H enc _ => lifted os started H enc)
#print axioms said
end Go.Proofs.Ytjfnelgmagmgoaa.lnOpTells
