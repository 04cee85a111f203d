/- What rec.All computes: told without addresses. No claim of its own. -/
import Derived.Test.YtkempcjemeipnaaDoorARec3
namespace Go.Proofs.YtkempcjemeipnaaDoor
open Go.Am

def encSL (l : List (List UInt8)) : List (List V) := l.map fun t => [.str t]
theorem encSL_len (l : List (List UInt8)) : (encSL l).length = l.length := by simp [encSL]
def allV (r : List (List UInt8) × Nat) : V := .tup [.lst (decide (r.1 = [])) 1 (encSL r.1) .none, .int .i64 (r.2 : Int)]
theorem may_le {lsn : Int} {p : List UInt8} (h : Gw.Rec.may lsn p = true) : 1 ≤ lsn ∧ lsn ≤ 1000000 := by
  unfold Gw.Rec.may at h
  simp only [Bool.and_eq_true, decide_eq_true_eq] at h
  exact ⟨h.1, h.2.1⟩
theorem recAll_pc (s : List UInt8) (lsn : Int) (hs : s.length ≤ 1048576) : PC Tryd.prog 14 [.str s, .int .i64 lsn] (allV (Gw.Rec.all s lsn)) := by
  refine PC.ofS tabOk mixed (fn := Tryd.f14) (by kernel_rfl) rfl (by kernel_rfl) rfl rfl ?_
  conv => whnf
  refine AW.row 6 9 1 rfl rfl (.inr rfl) ?_
  refine AW.loop (X := List (List UInt8) × Nat × Int) (fun x => [(.tmp 0, .v (.str s)), (.tmp 1, .v (.int .i64 x.2.2)), (.tmp 6, .v (.lst (decide (x.1 = [])) 1 (encSL x.1) (.row 4))), (.tmp 7, .v (.int .i64 (x.2.1 : Nat))), (.row 4, .row 9 1 x.1.length)]) 5
    (fun x => 16 * x.2.1 ≤ s.length ∧ x.1.length ≤ x.2.1 ∧ ∃ f, s.length < f + x.2.1 ∧ Gw.Rec.all s lsn = Gw.Rec.allF f s x.2.2 x.1 x.2.1) (fun x => s.length - x.2.1) (by decide) ([], 0, lsn) ⟨Nat.zero_le _, Nat.le_refl _, s.length + 1, by simp, rfl⟩
    ⟨rfl, rfl, rfl, rfl, rfl, rfl, rfl, rfl, rfl, rfl, trivial⟩ ?_
  rintro ⟨acc, n, ls⟩ ⟨h1, h2, f, hf, hr⟩
  simp only at h1 h2 hf hr
  have hal := encSL_len acc
  have e1 : IntKind.i64.wrap ((n : Int) * 16) = ((16 * n : Nat) : Int) := by rw [w64 (by omega) (by omega)]; omega
  obtain ⟨f, rfl⟩ : ∃ g, f = g + 1 := ⟨f - 1, by omega⟩
  rw [Gw.Rec.allF] at hr
  have c := recTake_pc (s.drop (16 * n)) ls (by rw [List.length_drop]; omega)
  refine ev_sound tabOk mixed _ _ _ _ ?_
  conv => whnf
  rw [e1]
  refine ⟨⟨by omega, by rw [Int.toNat_natCast]; exact h1⟩, ?_⟩
  rw [Int.toNat_natCast]
  rcases ht : Gw.Rec.take (s.drop (16 * n)) ls with _ | ⟨p, k⟩
  · rw [ht] at c hr
    simp only at hr
    refine AC.of_pc c rfl ?_
    conv => whnf
    repeat (first | refine ⟨fun _ => ?_, fun h => absurd h (by decide)⟩ | refine ⟨fun h => absurd h (by decide), fun _ => ?_⟩ | refine ⟨fun _ => ?_, fun h => absurd (show true = false from h) (by decide)⟩ | refine ⟨fun h => absurd (show false = true from h) (by decide), fun _ => ?_⟩
            (conv => whnf))
    rw [hr]
    exact SubV.refl _
  · have hb := Gw.Rec.take_bound ht
    have hm := may_le (Gw.Rec.take_more ht).1
    rw [List.length_drop] at hb
    rw [ht] at c hr
    simp only at hr
    refine AC.of_pc c rfl ?_
    conv => whnf
    repeat (first | refine ⟨fun _ => ?_, fun h => absurd h (by decide)⟩ | refine ⟨fun h => absurd h (by decide), fun _ => ?_⟩ | refine ⟨fun _ => ?_, fun h => absurd (show true = false from h) (by decide)⟩ | refine ⟨fun h => absurd (show false = true from h) (by decide), fun _ => ?_⟩
            (conv => whnf))
    refine ⟨⟨hal.symm, fits_small (by show (encSL acc).length + 1 ≤ _; omega) (by decide)⟩, ?_⟩
    conv => whnf
    refine ⟨(acc ++ [p], n + k, ls + 1), ⟨by simp only; omega, by simp only [List.length_append, List.length_singleton]; omega, f, by simp only; omega, hr⟩, by show _ - (n + k) < _ - n; omega, rfl, rfl, ?_, rfl, ?_, rfl, ?_, rfl, ?_, rfl, trivial⟩
    · show C.v (V.int .i64 (IntKind.i64.wrap (ls + 1))) = C.v (V.int .i64 (ls + 1))
      rw [w64 (by omega) (by omega)]
    · show C.v (V.lst (decide (acc = []) && false) 1 (encSL acc ++ [[V.str p]]) _) = C.v (V.lst (decide (acc ++ [p] = [])) 1 (encSL (acc ++ [p])) _)
      rw [Bool.and_false, decide_eq_false (by simp), encSL, encSL, List.map_append]
      rfl
    · show C.v (V.int .i64 (IntKind.i64.wrap ((n : Int) + (k : Int)))) = C.v (V.int .i64 ((n + k : Nat) : Int))
      rw [w64 (by omega) (by omega)]; rfl
    · show C.row _ 1 ((encSL acc).length + 1) = C.row _ 1 (acc ++ [p]).length
      rw [hal, List.length_append]
      rfl
end Go.Proofs.YtkempcjemeipnaaDoor
