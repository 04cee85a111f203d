/- Whether two lists of texts are the same: told without addresses. No claim of its own. -/
import Derived.Test.YtipgfdepopfghaaGreatAmTab
namespace Go.Proofs.YtipgfdepopfghaaGreat
open Go.Am

def encT (l : List (List UInt8)) : List (List V) := l.map fun t => [.str t]
theorem encT_len (l : List (List UInt8)) : (encT l).length = l.length := by simp [encT]
theorem encT_get {l : List (List UInt8)} {k : Nat} (h : k < l.length) : (encT l)[k]? = some [.str l[k]] := by unfold encT; rw [List.getElem?_map, List.getElem?_eq_getElem h]; rfl
theorem rsameT_pc (n1 n2 : Bool) (a b : List (List UInt8)) (ha : a.length ≤ 4611686018427387904) : PC Tryz.prog 17 [.lst n1 1 (encT a) .none, .lst n2 1 (encT b) .none] (.bool (decide (a = b))) := by
  have hla := encT_len a
  have hlb := encT_len b
  refine PC.of tabOk mixed (fn := Tryz.f17) (by kernel_rfl) rfl (by kernel_rfl) rfl rfl ?_
  conv => whnf
  refine ⟨fun h => ?_, fun h => ?_⟩
  · have h : ((encT a).length : Int) ≠ ((encT b).length : Int) := by simpa using h
    rw [decide_eq_false (fun e => h (by rw [e]))]
    conv => whnf
  have h : ((encT a).length : Int) = ((encT b).length : Int) := by
    have h : (((encT a).length : Int) != ((encT b).length : Int)) = false := h
    simpa using h
  conv => whnf
  refine AW.loop (fun k : Nat => [(.tmp 0, .v (.lst n1 1 (encT a) .none)), (.tmp 1, .v (.lst n2 1 (encT b) .none)), (.tmp 5, .v (.int .i64 k))])
    0 (fun k => k ≤ a.length ∧ a.take k = b.take k) (fun k => a.length - k) (by decide) 0 ⟨Nat.zero_le _, rfl⟩ ⟨rfl, rfl, rfl, rfl, rfl, rfl, trivial⟩ ?_
  rintro k ⟨hk, he⟩
  refine ev_sound tabOk mixed _ _ _ _ ?_
  conv => whnf
  refine ⟨fun h => ?_, fun h => ?_⟩
  · have h := of_decide_eq_true h
    have hlt : k < a.length := by omega
    have hlt2 : k < b.length := by omega
    conv => whnf
    refine ⟨_, ⟨by omega, encT_get hlt⟩, ?_⟩
    conv => whnf
    refine ⟨_, ⟨by omega, encT_get hlt2⟩, ?_⟩
    conv => whnf
    refine ⟨by kernel_rfl, ?_⟩
    conv => whnf
    refine ⟨fun h4 => ?_, fun h4 => ?_⟩
    · have h4 : ¬ a[k] = b[k] := by simpa using h4
      rw [show decide (a = b) = false from decide_eq_false (fun e => h4 (by subst e; rfl))]
      conv => whnf
    · have h4 : a[k] = b[k] := by simpa using h4
      conv => whnf
      refine ⟨k + 1, ⟨by omega, by rw [List.take_succ_eq_append_getElem hlt, List.take_succ_eq_append_getElem hlt2, he, h4]⟩, by show a.length - (k + 1) < a.length - k; omega, rfl, rfl, rfl, rfl, ?_, rfl, trivial⟩
      show C.v (V.int .i64 (IntKind.i64.wrap ((k : Int) + 1))) = C.v (V.int .i64 ((k + 1 : Nat) : Int))
      rw [w64 (by omega) (by omega)]; rfl
  · have h := of_decide_eq_false h
    have e : a = b := by
      rw [List.take_of_length_le (by omega), List.take_of_length_le (by omega)] at he
      exact he
    rw [decide_eq_true e]
    conv => whnf
end Go.Proofs.YtipgfdepopfghaaGreat
