/- What call.Check computes: told without addresses. No claim of its own. -/
import Derived.Test.YtfmhkfijnflalaaDoorASplit
import Derived.Test.YtfmhkfijnflalaaDoorAVlq
import Derived.Test.YtfmhkfijnflalaaDoorCallFn
namespace Go.Proofs.YtfmhkfijnflalaaDoor
open Go.RowKit Go.Am

def cellsK (c : Gw.Call.Call) : List V := [.int .i64 c.kind, .str c.path, .str c.to, .str c.data, .int .i64 c.n]
def encK (c : Gw.Call.Call) : V := .agg (cellsK c)
def bitsK (p : Gw.Call.Parts) : Int := (if p.path = true then 1 else 0) + (if p.to = true then 2 else 0) + (if p.data = true then 4 else 0) + (if p.n = true then 8 else 0)
def hasV (o : Option Gw.Call.Parts) : V := match o with | none => .tup [.int .i64 0, .bool false] | some p => .tup [.int .i64 (bitsK p), .bool true]
theorem has_pc (k : Int) : PC Tryd.prog 21 [.int .i64 k] (hasV (Gw.Call.has k)) := by
  by_cases h : 1 ≤ k ∧ k ≤ 13
  · obtain ⟨h1, h2⟩ := h
    obtain rfl | rfl | rfl | rfl | rfl | rfl | rfl | rfl | rfl | rfl | rfl | rfl | rfl : k = 1 ∨ k = 2 ∨ k = 3 ∨ k = 4 ∨ k = 5 ∨ k = 6 ∨ k = 7 ∨ k = 8 ∨ k = 9 ∨ k = 10 ∨ k = 11 ∨ k = 12 ∨ k = 13 := by omega
    all_goals
      refine PC.of tabOk mixed (fn := Tryd.f21) (by kernel_rfl) rfl (by kernel_rfl) rfl rfl ?_
      conv => whnf
      repeat (first | refine ⟨fun _ => ?_, fun h => absurd h (by decide)⟩ | refine ⟨fun h => absurd h (by decide), fun _ => ?_⟩ | refine ⟨fun _ => ?_, fun h => absurd (show true = false from h) (by decide)⟩ | refine ⟨fun h => absurd (show false = true from h) (by decide), fun _ => ?_⟩
              (conv => whnf))
      rfl
  · have e : Gw.Call.has k = none := by
      cases hh : Gw.Call.has k with
      | none => rfl
      | some p => exact absurd (Gw.Call.has_kind hh) h
    have ne : ∀ m : Int, 1 ≤ m → m ≤ 13 → ¬ (k == m) = true := fun m h1 h2 h3 => h (by simp at h3; omega)
    rw [e]
    refine PC.of tabOk mixed (fn := Tryd.f21) (by kernel_rfl) rfl (by kernel_rfl) rfl rfl ?_
    conv => whnf
    repeat (refine ⟨fun h => absurd h (ne _ (by decide) (by decide)), fun _ => ?_⟩
            (conv => whnf))
    rfl
theorem path_pc (s : List UInt8) (hs : s.length ≤ 1048576) : PC Tryd.prog 33 [.str s] (.bool (Gw.Call.pathOk s)) := by
  have h1 := nameSplit_pc s hs
  rw [pathsV_eq] at h1
  unfold Gw.Call.pathOk
  refine PC.of tabOk mixed (fn := Tryd.f33) (by kernel_rfl) rfl (by kernel_rfl) rfl rfl ?_
  cases ho : (Gw.Name.paths s).isSome with
  | true =>
    rw [ho, if_pos rfl] at h1
    conv => whnf
    refine AC.of_pc h1 rfl ?_
    conv => whnf
    rfl
  | false =>
    rw [ho, if_neg (by decide)] at h1
    conv => whnf
    refine AC.of_pc h1 rfl ?_
    conv => whnf
    rfl
set_option maxHeartbeats 2000000 in
theorem fits_any (p part : Int) (q e : Bool) (hp : p = 0 ∨ p = 1 ∨ p = 3 ∨ p = 4 ∨ p = 5 ∨ p = 8 ∨ p = 9) (hpart : part = 1 ∨ part = 2 ∨ part = 4 ∨ part = 8) (w : World) (c : Nat) (hh : w.heap[c]? = some (.cells [.int .i64 p].toArray 3 (0, 0))) :
    Calls Tryd.prog 32 #[.int .i64 part, .bool q, .bool e, .pointer (some ⟨c, 0, none⟩)] w fun ed w' => ed = .returned (.bool (if p.toNat &&& part.toNat = 0 then e else q)) ∧ Below w.heap.size w w' := by
  have h0 : w.cell? ⟨c, 0, none⟩ = some (.int .i64 p) := by rw [cell_row hh]; rfl
  clear hh
  rcases hp with rfl | rfl | rfl | rfl | rfl | rfl | rfl <;> rcases hpart with rfl | rfl | rfl | rfl
  all_goals
    go_enter Tryd.func32, Tryd.ntmps32
    go_wp2
    go_ret
    exact ⟨rfl, Below.refl _ _⟩
theorem has_few {k : Int} {p : Gw.Call.Parts} (h : Gw.Call.has k = some p) : ((k = 1 ∨ k = 2 ∨ k = 6 ∨ k = 10) ∧ p = ⟨true, false, false, false⟩) ∨ (k = 3 ∧ p = ⟨true, false, true, false⟩) ∨ ((k = 4 ∨ k = 7) ∧ p = ⟨true, false, false, true⟩) ∨ (k = 5 ∧ p = ⟨true, true, false, false⟩) ∨
    ((k = 9 ∨ k = 11) ∧ p = ⟨false, false, false, true⟩) ∨ (k = 13 ∧ p = ⟨false, false, true, false⟩) ∨ ((k = 8 ∨ k = 12) ∧ p = ⟨false, false, false, false⟩) := by
  unfold Gw.Call.has at h
  repeat' split at h
  all_goals first | (cases h; done) | (simp only [Option.some.injEq] at h; simp_all)
theorem okP_eq (p : Gw.Call.Parts) (c : Gw.Call.Call) : Gw.Call.okP p c = ((bif p.path then Gw.Call.pathOk c.path else decide (c.path = [])) && ((bif p.to then Gw.Call.pathOk c.to else decide (c.to = [])) && ((bif p.data then decide ((c.data.length : Int) ≤ (Gw.Call.most c.kind : Nat)) else decide (c.data = [])) && (bif p.n then decide (0 ≤ c.n) else (c.n == 0))))) := by
  have e1 : decide ((c.data.length : Int) ≤ (Gw.Call.most c.kind : Nat)) = decide (c.data.length ≤ Gw.Call.most c.kind) := by rw [Bool.eq_iff_iff]; simp
  have e2 : (c.n == 0) = decide (c.n = 0) := by rw [Bool.eq_iff_iff]; simp
  unfold Gw.Call.okP
  rw [e1, e2]
  obtain ⟨a, b, d, n⟩ := p
  cases a <;> cases b <;> cases d <;> cases n <;> rfl
/-- What is asked of a call's parts, in the order of the text. -/
theorem check_pc (c : Gw.Call.Call) (h1 : c.path.length ≤ 1048576) (h2 : c.to.length ≤ 1048576) : PC Tryd.prog 18 [encK c] (.bool (Gw.Call.check c)) := by
  have ch := has_pc c.kind
  have cp := path_pc c.path h1
  have ct := path_pc c.to h2
  unfold encK cellsK
  unfold Gw.Call.check
  cases hh : Gw.Call.has c.kind with
  | none =>
    rw [hh] at ch
    refine PC.of tabOk mixed (fn := Tryd.f18) (by kernel_rfl) rfl (by kernel_rfl) rfl rfl ?_
    conv => whnf
    refine AC.of_pc ch rfl ?_
    conv => whnf
    refine ⟨fun _ => ?_, fun h => absurd h (by decide)⟩
    conv => whnf
  | some p =>
    rw [hh] at ch
    have hE := enters_of (fn := Tryd.f32) (by kernel_rfl : Tryd.prog.funcs[32]? = _) rfl (by kernel_rfl)
    have hf := has_few hh
    clear hh
    show PC _ _ _ (.bool (Gw.Call.okP p c))
    rcases hf with ⟨hk, rfl⟩ | ⟨hk, rfl⟩ | ⟨hk, rfl⟩ | ⟨hk, rfl⟩ | ⟨hk, rfl⟩ | ⟨hk, rfl⟩ | ⟨hk, rfl⟩
    · have hm : ¬ c.kind = 13 := by omega
      have hmo : Gw.Call.most c.kind = 64 := by unfold Gw.Call.most; rw [if_neg hm]
      have hok : Gw.Call.okP ⟨true, false, false, false⟩ c = (Gw.Call.pathOk c.path && (decide (c.to = []) && (decide (c.data = []) && (c.n == 0)))) := by rw [okP_eq, hmo]; rfl
      rw [hok]
      refine PC.of tabOk mixed (fn := Tryd.f18) (by kernel_rfl) rfl (by kernel_rfl) rfl rfl ?_
      conv => whnf
      refine AC.of_pc ch rfl ?_
      conv => whnf
      refine ⟨fun h => absurd h (by decide), fun _ => ?_⟩
      conv => whnf
      refine ⟨fun h => absurd (show c.kind = 13 by simpa using h) hm, fun _ => ?_⟩
      conv => whnf
      refine ⟨_, rfl, cp, ?_⟩
      conv => whnf
      refine ⟨_, RC.box (k := 7) (bt := 3) (cells := [.int .i64 1]) (args0 := [.int .i64 1, .bool (Gw.Call.pathOk c.path), .bool (decide (c.path = []))]) (r := .bool (Gw.Call.pathOk c.path)) (res := .bool (Gw.Call.pathOk c.path)) hE rfl rfl rfl (fun w a hh => fits_any 1 1 _ _ (by decide) (by decide) w a hh) (fun _ _ => .pure (.bool _)), ?_⟩
      conv => whnf
      refine ⟨fun h10 => ?_, fun h10 => ?_⟩
      rotate_left
      · conv => whnf
        repeat (first | refine ⟨fun _ => ?_, fun h => absurd h (by decide)⟩ | refine ⟨fun h => absurd h (by decide), fun _ => ?_⟩ | refine ⟨fun _ => ?_, fun h => absurd (show true = false from h) (by decide)⟩ | refine ⟨fun h => absurd (show false = true from h) (by decide), fun _ => ?_⟩
                (conv => whnf))
        refine ⟨by kernel_rfl, ?_⟩
        conv => whnf
        rw [h10]; rfl
      conv => whnf
      refine ⟨_, rfl, ct, ?_⟩
      conv => whnf
      refine ⟨_, RC.box (k := 7) (bt := 3) (cells := [.int .i64 1]) (args0 := [.int .i64 2, .bool (Gw.Call.pathOk c.to), .bool (decide (c.to = []))]) (r := .bool (decide (c.to = []))) (res := .bool (decide (c.to = []))) hE rfl rfl rfl (fun w a hh => fits_any 1 2 _ _ (by decide) (by decide) w a hh) (fun _ _ => .pure (.bool _)), ?_⟩
      conv => whnf
      refine ⟨fun h11 => ?_, fun h11 => ?_⟩
      rotate_left
      · conv => whnf
        repeat (first | refine ⟨fun _ => ?_, fun h => absurd h (by decide)⟩ | refine ⟨fun h => absurd h (by decide), fun _ => ?_⟩ | refine ⟨fun _ => ?_, fun h => absurd (show true = false from h) (by decide)⟩ | refine ⟨fun h => absurd (show false = true from h) (by decide), fun _ => ?_⟩
                (conv => whnf))
        refine ⟨by kernel_rfl, ?_⟩
        conv => whnf
        rw [h10, h11]; rfl
      conv => whnf
      refine ⟨_, RC.box (k := 7) (bt := 3) (cells := [.int .i64 1]) (args0 := [.int .i64 4, .bool (decide ((c.data.length : Int) ≤ 64)), .bool (decide (c.data = []))]) (r := .bool (decide (c.data = []))) (res := .bool (decide (c.data = []))) hE rfl rfl rfl (fun w a hh => fits_any 1 4 _ _ (by decide) (by decide) w a hh) (fun _ _ => .pure (.bool _)), ?_⟩
      conv => whnf
      refine ⟨fun h12 => ?_, fun h12 => ?_⟩
      rotate_left
      · conv => whnf
        repeat (first | refine ⟨fun _ => ?_, fun h => absurd h (by decide)⟩ | refine ⟨fun h => absurd h (by decide), fun _ => ?_⟩ | refine ⟨fun _ => ?_, fun h => absurd (show true = false from h) (by decide)⟩ | refine ⟨fun h => absurd (show false = true from h) (by decide), fun _ => ?_⟩
                (conv => whnf))
        refine ⟨by kernel_rfl, ?_⟩
        conv => whnf
        rw [h10, h11, h12]; rfl
      conv => whnf
      refine ⟨_, RC.box (k := 7) (bt := 3) (cells := [.int .i64 1]) (args0 := [.int .i64 8, .bool (decide (0 ≤ c.n)), .bool ((c.n == 0))]) (r := .bool ((c.n == 0))) (res := .bool ((c.n == 0))) hE rfl rfl rfl (fun w a hh => fits_any 1 8 _ _ (by decide) (by decide) w a hh) (fun _ _ => .pure (.bool _)), ?_⟩
      conv => whnf
      refine ⟨by kernel_rfl, ?_⟩
      conv => whnf
      rw [h10, h11, h12]; rfl
    · have hm : ¬ c.kind = 13 := by omega
      have hmo : Gw.Call.most c.kind = 64 := by unfold Gw.Call.most; rw [if_neg hm]
      have hok : Gw.Call.okP ⟨true, false, true, false⟩ c = (Gw.Call.pathOk c.path && (decide (c.to = []) && (decide ((c.data.length : Int) ≤ 64) && (c.n == 0)))) := by rw [okP_eq, hmo]; rfl
      rw [hok]
      refine PC.of tabOk mixed (fn := Tryd.f18) (by kernel_rfl) rfl (by kernel_rfl) rfl rfl ?_
      conv => whnf
      refine AC.of_pc ch rfl ?_
      conv => whnf
      refine ⟨fun h => absurd h (by decide), fun _ => ?_⟩
      conv => whnf
      refine ⟨fun h => absurd (show c.kind = 13 by simpa using h) hm, fun _ => ?_⟩
      conv => whnf
      refine ⟨_, rfl, cp, ?_⟩
      conv => whnf
      refine ⟨_, RC.box (k := 7) (bt := 3) (cells := [.int .i64 5]) (args0 := [.int .i64 1, .bool (Gw.Call.pathOk c.path), .bool (decide (c.path = []))]) (r := .bool (Gw.Call.pathOk c.path)) (res := .bool (Gw.Call.pathOk c.path)) hE rfl rfl rfl (fun w a hh => fits_any 5 1 _ _ (by decide) (by decide) w a hh) (fun _ _ => .pure (.bool _)), ?_⟩
      conv => whnf
      refine ⟨fun h10 => ?_, fun h10 => ?_⟩
      rotate_left
      · conv => whnf
        repeat (first | refine ⟨fun _ => ?_, fun h => absurd h (by decide)⟩ | refine ⟨fun h => absurd h (by decide), fun _ => ?_⟩ | refine ⟨fun _ => ?_, fun h => absurd (show true = false from h) (by decide)⟩ | refine ⟨fun h => absurd (show false = true from h) (by decide), fun _ => ?_⟩
                (conv => whnf))
        refine ⟨by kernel_rfl, ?_⟩
        conv => whnf
        rw [h10]; rfl
      conv => whnf
      refine ⟨_, rfl, ct, ?_⟩
      conv => whnf
      refine ⟨_, RC.box (k := 7) (bt := 3) (cells := [.int .i64 5]) (args0 := [.int .i64 2, .bool (Gw.Call.pathOk c.to), .bool (decide (c.to = []))]) (r := .bool (decide (c.to = []))) (res := .bool (decide (c.to = []))) hE rfl rfl rfl (fun w a hh => fits_any 5 2 _ _ (by decide) (by decide) w a hh) (fun _ _ => .pure (.bool _)), ?_⟩
      conv => whnf
      refine ⟨fun h11 => ?_, fun h11 => ?_⟩
      rotate_left
      · conv => whnf
        repeat (first | refine ⟨fun _ => ?_, fun h => absurd h (by decide)⟩ | refine ⟨fun h => absurd h (by decide), fun _ => ?_⟩ | refine ⟨fun _ => ?_, fun h => absurd (show true = false from h) (by decide)⟩ | refine ⟨fun h => absurd (show false = true from h) (by decide), fun _ => ?_⟩
                (conv => whnf))
        refine ⟨by kernel_rfl, ?_⟩
        conv => whnf
        rw [h10, h11]; rfl
      conv => whnf
      refine ⟨_, RC.box (k := 7) (bt := 3) (cells := [.int .i64 5]) (args0 := [.int .i64 4, .bool (decide ((c.data.length : Int) ≤ 64)), .bool (decide (c.data = []))]) (r := .bool (decide ((c.data.length : Int) ≤ 64))) (res := .bool (decide ((c.data.length : Int) ≤ 64))) hE rfl rfl rfl (fun w a hh => fits_any 5 4 _ _ (by decide) (by decide) w a hh) (fun _ _ => .pure (.bool _)), ?_⟩
      conv => whnf
      refine ⟨fun h12 => ?_, fun h12 => ?_⟩
      rotate_left
      · conv => whnf
        repeat (first | refine ⟨fun _ => ?_, fun h => absurd h (by decide)⟩ | refine ⟨fun h => absurd h (by decide), fun _ => ?_⟩ | refine ⟨fun _ => ?_, fun h => absurd (show true = false from h) (by decide)⟩ | refine ⟨fun h => absurd (show false = true from h) (by decide), fun _ => ?_⟩
                (conv => whnf))
        refine ⟨by kernel_rfl, ?_⟩
        conv => whnf
        rw [h10, h11, h12]; rfl
      conv => whnf
      refine ⟨_, RC.box (k := 7) (bt := 3) (cells := [.int .i64 5]) (args0 := [.int .i64 8, .bool (decide (0 ≤ c.n)), .bool ((c.n == 0))]) (r := .bool ((c.n == 0))) (res := .bool ((c.n == 0))) hE rfl rfl rfl (fun w a hh => fits_any 5 8 _ _ (by decide) (by decide) w a hh) (fun _ _ => .pure (.bool _)), ?_⟩
      conv => whnf
      refine ⟨by kernel_rfl, ?_⟩
      conv => whnf
      rw [h10, h11, h12]; rfl
    · have hm : ¬ c.kind = 13 := by omega
      have hmo : Gw.Call.most c.kind = 64 := by unfold Gw.Call.most; rw [if_neg hm]
      have hok : Gw.Call.okP ⟨true, false, false, true⟩ c = (Gw.Call.pathOk c.path && (decide (c.to = []) && (decide (c.data = []) && decide (0 ≤ c.n)))) := by rw [okP_eq, hmo]; rfl
      rw [hok]
      refine PC.of tabOk mixed (fn := Tryd.f18) (by kernel_rfl) rfl (by kernel_rfl) rfl rfl ?_
      conv => whnf
      refine AC.of_pc ch rfl ?_
      conv => whnf
      refine ⟨fun h => absurd h (by decide), fun _ => ?_⟩
      conv => whnf
      refine ⟨fun h => absurd (show c.kind = 13 by simpa using h) hm, fun _ => ?_⟩
      conv => whnf
      refine ⟨_, rfl, cp, ?_⟩
      conv => whnf
      refine ⟨_, RC.box (k := 7) (bt := 3) (cells := [.int .i64 9]) (args0 := [.int .i64 1, .bool (Gw.Call.pathOk c.path), .bool (decide (c.path = []))]) (r := .bool (Gw.Call.pathOk c.path)) (res := .bool (Gw.Call.pathOk c.path)) hE rfl rfl rfl (fun w a hh => fits_any 9 1 _ _ (by decide) (by decide) w a hh) (fun _ _ => .pure (.bool _)), ?_⟩
      conv => whnf
      refine ⟨fun h10 => ?_, fun h10 => ?_⟩
      rotate_left
      · conv => whnf
        repeat (first | refine ⟨fun _ => ?_, fun h => absurd h (by decide)⟩ | refine ⟨fun h => absurd h (by decide), fun _ => ?_⟩ | refine ⟨fun _ => ?_, fun h => absurd (show true = false from h) (by decide)⟩ | refine ⟨fun h => absurd (show false = true from h) (by decide), fun _ => ?_⟩
                (conv => whnf))
        refine ⟨by kernel_rfl, ?_⟩
        conv => whnf
        rw [h10]; rfl
      conv => whnf
      refine ⟨_, rfl, ct, ?_⟩
      conv => whnf
      refine ⟨_, RC.box (k := 7) (bt := 3) (cells := [.int .i64 9]) (args0 := [.int .i64 2, .bool (Gw.Call.pathOk c.to), .bool (decide (c.to = []))]) (r := .bool (decide (c.to = []))) (res := .bool (decide (c.to = []))) hE rfl rfl rfl (fun w a hh => fits_any 9 2 _ _ (by decide) (by decide) w a hh) (fun _ _ => .pure (.bool _)), ?_⟩
      conv => whnf
      refine ⟨fun h11 => ?_, fun h11 => ?_⟩
      rotate_left
      · conv => whnf
        repeat (first | refine ⟨fun _ => ?_, fun h => absurd h (by decide)⟩ | refine ⟨fun h => absurd h (by decide), fun _ => ?_⟩ | refine ⟨fun _ => ?_, fun h => absurd (show true = false from h) (by decide)⟩ | refine ⟨fun h => absurd (show false = true from h) (by decide), fun _ => ?_⟩
                (conv => whnf))
        refine ⟨by kernel_rfl, ?_⟩
        conv => whnf
        rw [h10, h11]; rfl
      conv => whnf
      refine ⟨_, RC.box (k := 7) (bt := 3) (cells := [.int .i64 9]) (args0 := [.int .i64 4, .bool (decide ((c.data.length : Int) ≤ 64)), .bool (decide (c.data = []))]) (r := .bool (decide (c.data = []))) (res := .bool (decide (c.data = []))) hE rfl rfl rfl (fun w a hh => fits_any 9 4 _ _ (by decide) (by decide) w a hh) (fun _ _ => .pure (.bool _)), ?_⟩
      conv => whnf
      refine ⟨fun h12 => ?_, fun h12 => ?_⟩
      rotate_left
      · conv => whnf
        repeat (first | refine ⟨fun _ => ?_, fun h => absurd h (by decide)⟩ | refine ⟨fun h => absurd h (by decide), fun _ => ?_⟩ | refine ⟨fun _ => ?_, fun h => absurd (show true = false from h) (by decide)⟩ | refine ⟨fun h => absurd (show false = true from h) (by decide), fun _ => ?_⟩
                (conv => whnf))
        refine ⟨by kernel_rfl, ?_⟩
        conv => whnf
        rw [h10, h11, h12]; rfl
      conv => whnf
      refine ⟨_, RC.box (k := 7) (bt := 3) (cells := [.int .i64 9]) (args0 := [.int .i64 8, .bool (decide (0 ≤ c.n)), .bool ((c.n == 0))]) (r := .bool (decide (0 ≤ c.n))) (res := .bool (decide (0 ≤ c.n))) hE rfl rfl rfl (fun w a hh => fits_any 9 8 _ _ (by decide) (by decide) w a hh) (fun _ _ => .pure (.bool _)), ?_⟩
      conv => whnf
      refine ⟨by kernel_rfl, ?_⟩
      conv => whnf
      rw [h10, h11, h12]; rfl
    · have hm : ¬ c.kind = 13 := by omega
      have hmo : Gw.Call.most c.kind = 64 := by unfold Gw.Call.most; rw [if_neg hm]
      have hok : Gw.Call.okP ⟨true, true, false, false⟩ c = (Gw.Call.pathOk c.path && (Gw.Call.pathOk c.to && (decide (c.data = []) && (c.n == 0)))) := by rw [okP_eq, hmo]; rfl
      rw [hok]
      refine PC.of tabOk mixed (fn := Tryd.f18) (by kernel_rfl) rfl (by kernel_rfl) rfl rfl ?_
      conv => whnf
      refine AC.of_pc ch rfl ?_
      conv => whnf
      refine ⟨fun h => absurd h (by decide), fun _ => ?_⟩
      conv => whnf
      refine ⟨fun h => absurd (show c.kind = 13 by simpa using h) hm, fun _ => ?_⟩
      conv => whnf
      refine ⟨_, rfl, cp, ?_⟩
      conv => whnf
      refine ⟨_, RC.box (k := 7) (bt := 3) (cells := [.int .i64 3]) (args0 := [.int .i64 1, .bool (Gw.Call.pathOk c.path), .bool (decide (c.path = []))]) (r := .bool (Gw.Call.pathOk c.path)) (res := .bool (Gw.Call.pathOk c.path)) hE rfl rfl rfl (fun w a hh => fits_any 3 1 _ _ (by decide) (by decide) w a hh) (fun _ _ => .pure (.bool _)), ?_⟩
      conv => whnf
      refine ⟨fun h10 => ?_, fun h10 => ?_⟩
      rotate_left
      · conv => whnf
        repeat (first | refine ⟨fun _ => ?_, fun h => absurd h (by decide)⟩ | refine ⟨fun h => absurd h (by decide), fun _ => ?_⟩ | refine ⟨fun _ => ?_, fun h => absurd (show true = false from h) (by decide)⟩ | refine ⟨fun h => absurd (show false = true from h) (by decide), fun _ => ?_⟩
                (conv => whnf))
        refine ⟨by kernel_rfl, ?_⟩
        conv => whnf
        rw [h10]; rfl
      conv => whnf
      refine ⟨_, rfl, ct, ?_⟩
      conv => whnf
      refine ⟨_, RC.box (k := 7) (bt := 3) (cells := [.int .i64 3]) (args0 := [.int .i64 2, .bool (Gw.Call.pathOk c.to), .bool (decide (c.to = []))]) (r := .bool (Gw.Call.pathOk c.to)) (res := .bool (Gw.Call.pathOk c.to)) hE rfl rfl rfl (fun w a hh => fits_any 3 2 _ _ (by decide) (by decide) w a hh) (fun _ _ => .pure (.bool _)), ?_⟩
      conv => whnf
      refine ⟨fun h11 => ?_, fun h11 => ?_⟩
      rotate_left
      · conv => whnf
        repeat (first | refine ⟨fun _ => ?_, fun h => absurd h (by decide)⟩ | refine ⟨fun h => absurd h (by decide), fun _ => ?_⟩ | refine ⟨fun _ => ?_, fun h => absurd (show true = false from h) (by decide)⟩ | refine ⟨fun h => absurd (show false = true from h) (by decide), fun _ => ?_⟩
                (conv => whnf))
        refine ⟨by kernel_rfl, ?_⟩
        conv => whnf
        rw [h10, h11]; rfl
      conv => whnf
      refine ⟨_, RC.box (k := 7) (bt := 3) (cells := [.int .i64 3]) (args0 := [.int .i64 4, .bool (decide ((c.data.length : Int) ≤ 64)), .bool (decide (c.data = []))]) (r := .bool (decide (c.data = []))) (res := .bool (decide (c.data = []))) hE rfl rfl rfl (fun w a hh => fits_any 3 4 _ _ (by decide) (by decide) w a hh) (fun _ _ => .pure (.bool _)), ?_⟩
      conv => whnf
      refine ⟨fun h12 => ?_, fun h12 => ?_⟩
      rotate_left
      · conv => whnf
        repeat (first | refine ⟨fun _ => ?_, fun h => absurd h (by decide)⟩ | refine ⟨fun h => absurd h (by decide), fun _ => ?_⟩ | refine ⟨fun _ => ?_, fun h => absurd (show true = false from h) (by decide)⟩ | refine ⟨fun h => absurd (show false = true from h) (by decide), fun _ => ?_⟩
                (conv => whnf))
        refine ⟨by kernel_rfl, ?_⟩
        conv => whnf
        rw [h10, h11, h12]; rfl
      conv => whnf
      refine ⟨_, RC.box (k := 7) (bt := 3) (cells := [.int .i64 3]) (args0 := [.int .i64 8, .bool (decide (0 ≤ c.n)), .bool ((c.n == 0))]) (r := .bool ((c.n == 0))) (res := .bool ((c.n == 0))) hE rfl rfl rfl (fun w a hh => fits_any 3 8 _ _ (by decide) (by decide) w a hh) (fun _ _ => .pure (.bool _)), ?_⟩
      conv => whnf
      refine ⟨by kernel_rfl, ?_⟩
      conv => whnf
      rw [h10, h11, h12]; rfl
    · have hm : ¬ c.kind = 13 := by omega
      have hmo : Gw.Call.most c.kind = 64 := by unfold Gw.Call.most; rw [if_neg hm]
      have hok : Gw.Call.okP ⟨false, false, false, true⟩ c = (decide (c.path = []) && (decide (c.to = []) && (decide (c.data = []) && decide (0 ≤ c.n)))) := by rw [okP_eq, hmo]; rfl
      rw [hok]
      refine PC.of tabOk mixed (fn := Tryd.f18) (by kernel_rfl) rfl (by kernel_rfl) rfl rfl ?_
      conv => whnf
      refine AC.of_pc ch rfl ?_
      conv => whnf
      refine ⟨fun h => absurd h (by decide), fun _ => ?_⟩
      conv => whnf
      refine ⟨fun h => absurd (show c.kind = 13 by simpa using h) hm, fun _ => ?_⟩
      conv => whnf
      refine ⟨_, rfl, cp, ?_⟩
      conv => whnf
      refine ⟨_, RC.box (k := 7) (bt := 3) (cells := [.int .i64 8]) (args0 := [.int .i64 1, .bool (Gw.Call.pathOk c.path), .bool (decide (c.path = []))]) (r := .bool (decide (c.path = []))) (res := .bool (decide (c.path = []))) hE rfl rfl rfl (fun w a hh => fits_any 8 1 _ _ (by decide) (by decide) w a hh) (fun _ _ => .pure (.bool _)), ?_⟩
      conv => whnf
      refine ⟨fun h10 => ?_, fun h10 => ?_⟩
      rotate_left
      · conv => whnf
        repeat (first | refine ⟨fun _ => ?_, fun h => absurd h (by decide)⟩ | refine ⟨fun h => absurd h (by decide), fun _ => ?_⟩ | refine ⟨fun _ => ?_, fun h => absurd (show true = false from h) (by decide)⟩ | refine ⟨fun h => absurd (show false = true from h) (by decide), fun _ => ?_⟩
                (conv => whnf))
        refine ⟨by kernel_rfl, ?_⟩
        conv => whnf
        rw [h10]; rfl
      conv => whnf
      refine ⟨_, rfl, ct, ?_⟩
      conv => whnf
      refine ⟨_, RC.box (k := 7) (bt := 3) (cells := [.int .i64 8]) (args0 := [.int .i64 2, .bool (Gw.Call.pathOk c.to), .bool (decide (c.to = []))]) (r := .bool (decide (c.to = []))) (res := .bool (decide (c.to = []))) hE rfl rfl rfl (fun w a hh => fits_any 8 2 _ _ (by decide) (by decide) w a hh) (fun _ _ => .pure (.bool _)), ?_⟩
      conv => whnf
      refine ⟨fun h11 => ?_, fun h11 => ?_⟩
      rotate_left
      · conv => whnf
        repeat (first | refine ⟨fun _ => ?_, fun h => absurd h (by decide)⟩ | refine ⟨fun h => absurd h (by decide), fun _ => ?_⟩ | refine ⟨fun _ => ?_, fun h => absurd (show true = false from h) (by decide)⟩ | refine ⟨fun h => absurd (show false = true from h) (by decide), fun _ => ?_⟩
                (conv => whnf))
        refine ⟨by kernel_rfl, ?_⟩
        conv => whnf
        rw [h10, h11]; rfl
      conv => whnf
      refine ⟨_, RC.box (k := 7) (bt := 3) (cells := [.int .i64 8]) (args0 := [.int .i64 4, .bool (decide ((c.data.length : Int) ≤ 64)), .bool (decide (c.data = []))]) (r := .bool (decide (c.data = []))) (res := .bool (decide (c.data = []))) hE rfl rfl rfl (fun w a hh => fits_any 8 4 _ _ (by decide) (by decide) w a hh) (fun _ _ => .pure (.bool _)), ?_⟩
      conv => whnf
      refine ⟨fun h12 => ?_, fun h12 => ?_⟩
      rotate_left
      · conv => whnf
        repeat (first | refine ⟨fun _ => ?_, fun h => absurd h (by decide)⟩ | refine ⟨fun h => absurd h (by decide), fun _ => ?_⟩ | refine ⟨fun _ => ?_, fun h => absurd (show true = false from h) (by decide)⟩ | refine ⟨fun h => absurd (show false = true from h) (by decide), fun _ => ?_⟩
                (conv => whnf))
        refine ⟨by kernel_rfl, ?_⟩
        conv => whnf
        rw [h10, h11, h12]; rfl
      conv => whnf
      refine ⟨_, RC.box (k := 7) (bt := 3) (cells := [.int .i64 8]) (args0 := [.int .i64 8, .bool (decide (0 ≤ c.n)), .bool ((c.n == 0))]) (r := .bool (decide (0 ≤ c.n))) (res := .bool (decide (0 ≤ c.n))) hE rfl rfl rfl (fun w a hh => fits_any 8 8 _ _ (by decide) (by decide) w a hh) (fun _ _ => .pure (.bool _)), ?_⟩
      conv => whnf
      refine ⟨by kernel_rfl, ?_⟩
      conv => whnf
      rw [h10, h11, h12]; rfl
    · have hm : c.kind = 13 := by omega
      have hmo : Gw.Call.most c.kind = 4000 := by unfold Gw.Call.most; rw [if_pos hm]
      have hok : Gw.Call.okP ⟨false, false, true, false⟩ c = (decide (c.path = []) && (decide (c.to = []) && (decide ((c.data.length : Int) ≤ 4000) && (c.n == 0)))) := by rw [okP_eq, hmo]; rfl
      rw [hok]
      refine PC.of tabOk mixed (fn := Tryd.f18) (by kernel_rfl) rfl (by kernel_rfl) rfl rfl ?_
      conv => whnf
      refine AC.of_pc ch rfl ?_
      conv => whnf
      refine ⟨fun h => absurd h (by decide), fun _ => ?_⟩
      conv => whnf
      refine ⟨fun _ => ?_, fun h => absurd hm (by simpa using h)⟩
      conv => whnf
      refine ⟨_, rfl, cp, ?_⟩
      conv => whnf
      refine ⟨_, RC.box (k := 7) (bt := 3) (cells := [.int .i64 4]) (args0 := [.int .i64 1, .bool (Gw.Call.pathOk c.path), .bool (decide (c.path = []))]) (r := .bool (decide (c.path = []))) (res := .bool (decide (c.path = []))) hE rfl rfl rfl (fun w a hh => fits_any 4 1 _ _ (by decide) (by decide) w a hh) (fun _ _ => .pure (.bool _)), ?_⟩
      conv => whnf
      refine ⟨fun h10 => ?_, fun h10 => ?_⟩
      rotate_left
      · conv => whnf
        repeat (first | refine ⟨fun _ => ?_, fun h => absurd h (by decide)⟩ | refine ⟨fun h => absurd h (by decide), fun _ => ?_⟩ | refine ⟨fun _ => ?_, fun h => absurd (show true = false from h) (by decide)⟩ | refine ⟨fun h => absurd (show false = true from h) (by decide), fun _ => ?_⟩
                (conv => whnf))
        refine ⟨by kernel_rfl, ?_⟩
        conv => whnf
        rw [h10]; rfl
      conv => whnf
      refine ⟨_, rfl, ct, ?_⟩
      conv => whnf
      refine ⟨_, RC.box (k := 7) (bt := 3) (cells := [.int .i64 4]) (args0 := [.int .i64 2, .bool (Gw.Call.pathOk c.to), .bool (decide (c.to = []))]) (r := .bool (decide (c.to = []))) (res := .bool (decide (c.to = []))) hE rfl rfl rfl (fun w a hh => fits_any 4 2 _ _ (by decide) (by decide) w a hh) (fun _ _ => .pure (.bool _)), ?_⟩
      conv => whnf
      refine ⟨fun h11 => ?_, fun h11 => ?_⟩
      rotate_left
      · conv => whnf
        repeat (first | refine ⟨fun _ => ?_, fun h => absurd h (by decide)⟩ | refine ⟨fun h => absurd h (by decide), fun _ => ?_⟩ | refine ⟨fun _ => ?_, fun h => absurd (show true = false from h) (by decide)⟩ | refine ⟨fun h => absurd (show false = true from h) (by decide), fun _ => ?_⟩
                (conv => whnf))
        refine ⟨by kernel_rfl, ?_⟩
        conv => whnf
        rw [h10, h11]; rfl
      conv => whnf
      refine ⟨_, RC.box (k := 7) (bt := 3) (cells := [.int .i64 4]) (args0 := [.int .i64 4, .bool (decide ((c.data.length : Int) ≤ 4000)), .bool (decide (c.data = []))]) (r := .bool (decide ((c.data.length : Int) ≤ 4000))) (res := .bool (decide ((c.data.length : Int) ≤ 4000))) hE rfl rfl rfl (fun w a hh => fits_any 4 4 _ _ (by decide) (by decide) w a hh) (fun _ _ => .pure (.bool _)), ?_⟩
      conv => whnf
      refine ⟨fun h12 => ?_, fun h12 => ?_⟩
      rotate_left
      · conv => whnf
        repeat (first | refine ⟨fun _ => ?_, fun h => absurd h (by decide)⟩ | refine ⟨fun h => absurd h (by decide), fun _ => ?_⟩ | refine ⟨fun _ => ?_, fun h => absurd (show true = false from h) (by decide)⟩ | refine ⟨fun h => absurd (show false = true from h) (by decide), fun _ => ?_⟩
                (conv => whnf))
        refine ⟨by kernel_rfl, ?_⟩
        conv => whnf
        rw [h10, h11, h12]; rfl
      conv => whnf
      refine ⟨_, RC.box (k := 7) (bt := 3) (cells := [.int .i64 4]) (args0 := [.int .i64 8, .bool (decide (0 ≤ c.n)), .bool ((c.n == 0))]) (r := .bool ((c.n == 0))) (res := .bool ((c.n == 0))) hE rfl rfl rfl (fun w a hh => fits_any 4 8 _ _ (by decide) (by decide) w a hh) (fun _ _ => .pure (.bool _)), ?_⟩
      conv => whnf
      refine ⟨by kernel_rfl, ?_⟩
      conv => whnf
      rw [h10, h11, h12]; rfl
    · have hm : ¬ c.kind = 13 := by omega
      have hmo : Gw.Call.most c.kind = 64 := by unfold Gw.Call.most; rw [if_neg hm]
      have hok : Gw.Call.okP ⟨false, false, false, false⟩ c = (decide (c.path = []) && (decide (c.to = []) && (decide (c.data = []) && (c.n == 0)))) := by rw [okP_eq, hmo]; rfl
      rw [hok]
      refine PC.of tabOk mixed (fn := Tryd.f18) (by kernel_rfl) rfl (by kernel_rfl) rfl rfl ?_
      conv => whnf
      refine AC.of_pc ch rfl ?_
      conv => whnf
      refine ⟨fun h => absurd h (by decide), fun _ => ?_⟩
      conv => whnf
      refine ⟨fun h => absurd (show c.kind = 13 by simpa using h) hm, fun _ => ?_⟩
      conv => whnf
      refine ⟨_, rfl, cp, ?_⟩
      conv => whnf
      refine ⟨_, RC.box (k := 7) (bt := 3) (cells := [.int .i64 0]) (args0 := [.int .i64 1, .bool (Gw.Call.pathOk c.path), .bool (decide (c.path = []))]) (r := .bool (decide (c.path = []))) (res := .bool (decide (c.path = []))) hE rfl rfl rfl (fun w a hh => fits_any 0 1 _ _ (by decide) (by decide) w a hh) (fun _ _ => .pure (.bool _)), ?_⟩
      conv => whnf
      refine ⟨fun h10 => ?_, fun h10 => ?_⟩
      rotate_left
      · conv => whnf
        repeat (first | refine ⟨fun _ => ?_, fun h => absurd h (by decide)⟩ | refine ⟨fun h => absurd h (by decide), fun _ => ?_⟩ | refine ⟨fun _ => ?_, fun h => absurd (show true = false from h) (by decide)⟩ | refine ⟨fun h => absurd (show false = true from h) (by decide), fun _ => ?_⟩
                (conv => whnf))
        refine ⟨by kernel_rfl, ?_⟩
        conv => whnf
        rw [h10]; rfl
      conv => whnf
      refine ⟨_, rfl, ct, ?_⟩
      conv => whnf
      refine ⟨_, RC.box (k := 7) (bt := 3) (cells := [.int .i64 0]) (args0 := [.int .i64 2, .bool (Gw.Call.pathOk c.to), .bool (decide (c.to = []))]) (r := .bool (decide (c.to = []))) (res := .bool (decide (c.to = []))) hE rfl rfl rfl (fun w a hh => fits_any 0 2 _ _ (by decide) (by decide) w a hh) (fun _ _ => .pure (.bool _)), ?_⟩
      conv => whnf
      refine ⟨fun h11 => ?_, fun h11 => ?_⟩
      rotate_left
      · conv => whnf
        repeat (first | refine ⟨fun _ => ?_, fun h => absurd h (by decide)⟩ | refine ⟨fun h => absurd h (by decide), fun _ => ?_⟩ | refine ⟨fun _ => ?_, fun h => absurd (show true = false from h) (by decide)⟩ | refine ⟨fun h => absurd (show false = true from h) (by decide), fun _ => ?_⟩
                (conv => whnf))
        refine ⟨by kernel_rfl, ?_⟩
        conv => whnf
        rw [h10, h11]; rfl
      conv => whnf
      refine ⟨_, RC.box (k := 7) (bt := 3) (cells := [.int .i64 0]) (args0 := [.int .i64 4, .bool (decide ((c.data.length : Int) ≤ 64)), .bool (decide (c.data = []))]) (r := .bool (decide (c.data = []))) (res := .bool (decide (c.data = []))) hE rfl rfl rfl (fun w a hh => fits_any 0 4 _ _ (by decide) (by decide) w a hh) (fun _ _ => .pure (.bool _)), ?_⟩
      conv => whnf
      refine ⟨fun h12 => ?_, fun h12 => ?_⟩
      rotate_left
      · conv => whnf
        repeat (first | refine ⟨fun _ => ?_, fun h => absurd h (by decide)⟩ | refine ⟨fun h => absurd h (by decide), fun _ => ?_⟩ | refine ⟨fun _ => ?_, fun h => absurd (show true = false from h) (by decide)⟩ | refine ⟨fun h => absurd (show false = true from h) (by decide), fun _ => ?_⟩
                (conv => whnf))
        refine ⟨by kernel_rfl, ?_⟩
        conv => whnf
        rw [h10, h11, h12]; rfl
      conv => whnf
      refine ⟨_, RC.box (k := 7) (bt := 3) (cells := [.int .i64 0]) (args0 := [.int .i64 8, .bool (decide (0 ≤ c.n)), .bool ((c.n == 0))]) (r := .bool ((c.n == 0))) (res := .bool ((c.n == 0))) hE rfl rfl rfl (fun w a hh => fits_any 0 8 _ _ (by decide) (by decide) w a hh) (fun _ _ => .pure (.bool _)), ?_⟩
      conv => whnf
      refine ⟨by kernel_rfl, ?_⟩
      conv => whnf
      rw [h10, h11, h12]; rfl
end Go.Proofs.YtfmhkfijnflalaaDoor
