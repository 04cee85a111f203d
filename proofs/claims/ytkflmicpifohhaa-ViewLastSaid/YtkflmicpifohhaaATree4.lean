/- Nodes with others in place of some: told without addresses. No claim of its own. -/
import Derived.Test.YtkflmicpifohhaaATree3
namespace Go.Proofs.Ytkflmicpifohhaa
open Go.Am

theorem cellsN_len (n : Gw.Tree.Node) : (cellsN n).length = 8 := rfl
theorem encN_sz (l : List Gw.Tree.Node) : ∀ el ∈ encN l, el.length = 8 := fun el h => by
  obtain ⟨n, _, rfl⟩ := List.mem_map.1 h
  rfl
theorem flatN_len (l : List Gw.Tree.Node) : (encN l).flatten.length = l.length * 8 := by
  induction l with
  | nil => rfl
  | cons n l ih => show (cellsN n ++ (encN l).flatten).length = _; rw [List.length_append, ih, cellsN_len, List.length_cons]; omega
theorem flatN_app (l m : List Gw.Tree.Node) : (encN (l ++ m)).flatten = (encN l).flatten ++ (encN m).flatten := by unfold encN; rw [List.map_append, List.flatten_append]
theorem flatN_one (l : List Gw.Tree.Node) : oneAll (encN l).flatten = true := by
  induction l with
  | nil => rfl
  | cons n l ih => exact ih
theorem encN_take (l : List Gw.Tree.Node) (k : Nat) : (encN l).take k = encN (l.take k) := by unfold encN; rw [List.map_take]
theorem encN_drop (l : List Gw.Tree.Node) (k : Nat) : (encN l).drop k = encN (l.drop k) := by unfold encN; rw [List.map_drop]
theorem copy_mid {X S Z : List V} {x s y : Nat} (hx : X.length = x) (hs : S.length = s) (hy : y = x + s) : List.take x (X ++ Z) ++ List.take s S ++ List.drop y (X ++ Z) = X ++ S ++ Z.drop s := by
  subst hx hs hy
  rw [List.take_left', List.take_length, List.drop_append, List.drop_of_length_le (by omega), List.nil_append]
  · congr 2; omega
  · rfl
theorem lay_flat (l others : List Gw.Tree.Node) (i u : Nat) (hi : i ≤ u) (hu : u ≤ l.length) : (encN (l.take i ++ others ++ l.drop u)).flatten = (encN (l.take i)).flatten ++ (encN others).flatten ++ (encN (l.drop u)).flatten ∧
    (encN (l.take i ++ others ++ l.drop u)).length = i + others.length + (l.length - u) ∧ (encN (l.take i ++ others ++ l.drop u)).flatten.length = (i + others.length + (l.length - u)) * 8 := by
  have h : (l.take i ++ others ++ l.drop u).length = i + others.length + (l.length - u) := by rw [List.length_append, List.length_append, List.length_take, List.length_drop]; omega
  exact ⟨by rw [flatN_app, flatN_app], by rw [encN_len, h], by rw [flatN_len, h]⟩
theorem lay_pc (n1 n2 : Bool) (l others : List Gw.Tree.Node) (i u : Nat) (hi : i ≤ u) (hu : u ≤ l.length) (hl : l.length ≤ 1048576) (ho : others.length ≤ 1) :
    PC Try.prog 44 [.lst n1 8 (encN l) .none, .int .i64 i, .int .i64 u, .lst n2 8 (encN others) .none] (.lst false 8 (encN (l.take i ++ others ++ l.drop u)) .none) := by
  have hel := encN_len l
  have heo := encN_len others
  have e1 : IntKind.i64.wrap (IntKind.i64.wrap (IntKind.i64.wrap ((i : Int) + others.length) + l.length) - (u : Int)) = ((i + others.length + (l.length - u) : Nat) : Int) := by
    rw [w64 (x := (i : Int) + others.length) (by omega) (by omega), w64 (x := (i : Int) + others.length + l.length) (by omega) (by omega), w64 (by omega) (by omega)]; omega
  obtain ⟨hall, hn, hlen⟩ := lay_flat l others i u hi hu
  have hone := flatN_one (l.take i ++ others ++ l.drop u)
  have hsz := encN_sz (l.take i ++ others ++ l.drop u)
  refine PC.of tabOk mixed (fn := Try.f44) (by kernel_rfl) rfl (by kernel_rfl) rfl rfl ?_
  conv => whnf
  rw [hel, heo, e1]
  refine ⟨⟨by omega, rfl, fits_small (by rw [Int.toNat_natCast]; omega) (by decide)⟩, ?_⟩
  conv => whnf
  refine ⟨by rw [hel]; omega, ?_⟩
  conv => whnf
  generalize hN : i + others.length + (l.length - u) = N at *
  generalize hZ : repl (N : Int).toNat _ = Z
  have hZl : Z.length = N * 8 := by rw [← hZ, repl_len]; rfl
  refine ⟨by omega, ?_⟩
  conv => whnf
  have m1 : min (List.take (i : Int).toNat (encN l)).length (N : Int).toNat = i := by rw [List.length_take, Int.toNat_natCast, Int.toNat_natCast, hel]; omega
  rw [m1]
  refine ⟨⟨by omega, by omega⟩, ?_⟩
  conv => whnf
  have hA := flatN_len (l.take i)
  have hB := flatN_len others
  have hC := flatN_len (l.drop u)
  rw [List.length_take] at hA
  rw [List.length_drop] at hC
  have q0 : List.take (i : Int).toNat (encN l) = encN (l.take i) := by rw [Int.toNat_natCast, encN_take]
  have q0' : List.drop (u : Int).toNat (encN l) = encN (l.drop u) := by rw [Int.toNat_natCast, encN_drop]
  rw [q0]
  generalize hAe : (encN (l.take i)).flatten = A at *
  generalize hBe : (encN others).flatten = B at *
  have q1 : List.take 0 Z ++ List.take (i * 8) A ++ List.drop (0 + i * 8) Z = A ++ Z.drop (i * 8) := by
    rw [List.take_zero, List.nil_append, Nat.zero_add, List.take_of_length_le (by omega)]
  rw [q1]
  have m2 : min (encN others).length ((N : Int).toNat - (i : Int).toNat) = others.length := by rw [heo, Int.toNat_natCast, Int.toNat_natCast]; omega
  have m3 : IntKind.i64.wrap ((i : Int) + (others.length : Nat)) = ((i + others.length : Nat) : Int) := by rw [w64 (by omega) (by omega)]; rfl
  refine ⟨by rw [List.length_append, List.length_drop, hZl]; omega, ?_⟩
  conv => whnf
  rw [m2, m3, copy_mid (by rw [hA]; omega) hB (by omega)]
  have hRl : (List.drop (others.length * 8) (List.drop (i * 8) Z)).length = (l.length - u) * 8 := by rw [List.length_drop, List.length_drop]; omega
  generalize hRe : List.drop (others.length * 8) (List.drop (i * 8) Z) = R at *
  refine ⟨⟨by omega, by omega⟩, ?_⟩
  conv => whnf
  refine ⟨by rw [hel]; omega, ?_⟩
  conv => whnf
  refine ⟨by rw [List.length_append, List.length_append]; omega, ?_⟩
  conv => whnf
  rw [q0']
  have m4 : min (encN (l.drop u)).length ((N : Int).toNat - ((i + others.length : Nat) : Int).toNat) = l.length - u := by rw [encN_len, List.length_drop, Int.toNat_natCast, Int.toNat_natCast]; omega
  rw [m4, copy_mid (by rw [List.length_append]; omega) hC (by omega), List.drop_of_length_le (l := R) (by omega), List.append_nil]
  refine ⟨by kernel_rfl, ?_⟩
  conv => whnf
  clear hA hB hC m1 m2 m3 m4 q0 q0' hRl hRe hZ hZl
  rw [← hall]
  generalize encN (l.take i ++ others ++ l.drop u) = E at *
  refine .mem rfl hn hsz (Nat.le_of_eq (by show 0 + N * 8 = _; rw [hlen, Nat.zero_add])) ?_ hone
  show List.take (N * 8) E.flatten = _
  rw [← hlen, List.take_length]
end Go.Proofs.Ytkflmicpifohhaa
