/- What the functions of the package vlq, and of its document's answer, compute: told without addresses. No claim of its own. -/
import Derived.Test.YtjhblbipjljojaaDoorAmTab
import Derived.Test.YtjhblbipjljojaaDoorVlqRefTakeN
namespace Go.Proofs.YtjhblbipjljojaaDoor
open Go.Am Go.RowKit

def encI (zs : List Int) : List (List V) := zs.map fun z => [.int .i64 z]
theorem ints_at {w : World} {F : Nat → Nat → Prop} {isNil : Bool} {zs : List Int} {v : Value} (h : PRep w F (.lst isNil 1 (encI zs) .none) v) : IntsAt w v zs := by
  cases h with
  | @lst _ _ _ ad c vs hnil hc hsz ha hone hr =>
    have hlen : (encI zs).length = zs.length := by simp [encI]
    cases zs with
    | nil => exact .inl ⟨rfl, ad, c, rfl⟩
    | cons z0 zs =>
      have hget : ∀ i, i < (z0 :: zs).length → (encI (z0 :: zs))[i]? = some [.int .i64 ((z0 :: zs).getD i 0)] := fun i hi => by
        unfold encI
        rw [List.getElem?_map, List.getElem?_eq_getElem hi, List.getD_eq_getElem?_getD, List.getElem?_eq_getElem hi]
        rfl
      obtain ⟨blk, base, rfl, _, hc0⟩ := ha 0 _ 0 _ (hget 0 (by simp)) rfl
      refine .inr ⟨blk, base, c, by rw [hlen], cell_block hc0, fun i hi => ?_⟩
      obtain ⟨blk', base', e, _, hci⟩ := ha i _ 0 _ (hget i hi) rfl
      have hri := hr i _ 0 _ (hget i hi) rfl
      simp only [Option.some.injEq, Addr.mk.injEq, and_true] at e
      obtain ⟨rfl, rfl⟩ := e
      rw [Nat.mul_one, Nat.add_zero] at hci
      rw [hci]
      generalize vs i 0 = x at hri
      cases hri
      rfl

theorem vsize_pc (n : Nat) (hn : n < 9223372036854775808) : PC Tryd.prog 91 [.int .i64 n] (.int .i64 (Gw.Vlq.size n)) :=
  .of_calls (enters_of (fn := Tryd.f91) (by kernel_rfl) rfl (by kernel_rfl)) rfl (fun w _ => (vsize_any n hn w).mono fun _ _ ⟨h1, h2⟩ => ⟨h1, h2 ▸ Below.refl _ _⟩) (fun _ _ => .int _ _)

theorem vput_pc (s : List UInt8) (isNil : Bool) (zs : List Int) (hz : ∀ z ∈ zs, 0 ≤ z ∧ z < 9223372036854775808) (hsz : s.length + 9 * zs.length < 1000000000) :
    PC Tryd.prog 73 [.str s, .lst isNil 1 (encI zs) .none] (.tup [.str (s ++ Gw.Vlq.many (zs.map Int.toNat)), .int .i64 0]) := by
  refine ⟨enters_of (fn := Tryd.f73) (by kernel_rfl) rfl (by kernel_rfl), fun w F vals hG hF hl hv => ?_⟩
  match vals, hl with
  | [v, u], _ =>
    have e1 : v = .string ⟨s.toArray⟩ := valOf_eq (hv 0 _ v rfl rfl) rfl
    have hi := ints_at (hv 1 _ u rfl rfl)
    subst e1
    have hh := put_any ⟨s.toArray⟩ zs (fun z h => (hz z h).2) hsz u w hi
    have hp : putRes ⟨s.toArray⟩ zs = .tuple #[.string ⟨(s ++ Gw.Vlq.many (zs.map Int.toNat)).toArray⟩, .int .i64 0] := by
      unfold putRes
      rw [if_pos (List.all_eq_true.2 fun z h => decide_eq_true (hz z h).1)]
      rfl
    rw [hp] at hh
    exact hh.mono fun e w' ⟨h1, h2⟩ => ⟨_, F, h1, h2, fun _ _ h => h, fun _ _ h => .inl h, .tup2 (.str' _) (.int _ _)⟩

/-- What Take answers. -/
def tookV (s : List UInt8) : V := match Gw.Vlq.take s with
  | none => .tup [.int .i64 0, .str [], .int .i64 40]
  | some (n, u) => .tup [.int .i64 (n : Int), .str (s.drop u), .int .i64 0]
theorem tookV_rep (s : List UInt8) (w : World) (F : Nat → Nat → Prop) : PRep w F (tookV s) (takeRes ⟨s.toArray⟩) := by
  unfold tookV takeRes
  show PRep w F (match Gw.Vlq.take s with | none => _ | some (n, u) => _) (match Gw.Vlq.take s with | none => _ | some (n, u) => _)
  cases Gw.Vlq.take s with
  | none => exact .tup3 (.int _ _) (.str rfl) (.int _ _)
  | some p =>
    obtain ⟨n, u⟩ := p
    refine .tup3 (.int _ _) (.str ?_) (.int _ _)
    show (ByteArray.extract ⟨s.toArray⟩ u s.length).data.toList = _
    simp [ByteArray.data_extract, List.extract_eq_take_drop]
    exact List.take_of_length_le (by simp)
theorem vtake_pc (s : List UInt8) (hs : s.length < 1000000000000) : PC Tryd.prog 83 [.str s] (tookV s) :=
  .of_calls (enters_of (fn := Tryd.f83) (by kernel_rfl) rfl (by kernel_rfl)) rfl (fun w _ => take_any ⟨s.toArray⟩ hs w) (tookV_rep s)
theorem rtake_pc (s : List UInt8) : PC Tryd.prog 69 [.str s] (tookV s) :=
  .of_calls (enters_of (fn := Tryd.f69) (by kernel_rfl) rfl (by kernel_rfl)) rfl (fun w _ => rtake_any ⟨s.toArray⟩ w) (tookV_rep s)
def tookTextV (s : List UInt8) : V := match takeText s with
  | none => .tup [.str [], .str [], .int .i64 40]
  | some (n, u) => .tup [.str ((s.drop u).take n), .str (s.drop (u + n)), .int .i64 0]
theorem tookTextV_rep (s : List UInt8) (w : World) (F : Nat → Nat → Prop) : PRep w F (tookTextV s) (takeTextRes ⟨s.toArray⟩) := by
  unfold tookTextV takeTextRes
  show PRep w F (match takeText s with | none => _ | some (n, u) => _) (match takeText s with | none => _ | some (n, u) => _)
  cases takeText s with
  | none => exact .tup3 (.str rfl) (.str rfl) (.int _ _)
  | some p =>
    obtain ⟨n, u⟩ := p
    refine .tup3 (.str ?_) (.str ?_) (.int _ _)
    · show (ByteArray.extract ⟨s.toArray⟩ u (u + n)).data.toList = _
      simp [ByteArray.data_extract, List.extract_eq_take_drop]
    · show (ByteArray.extract ⟨s.toArray⟩ (u + n) s.length).data.toList = _
      simp [ByteArray.data_extract, List.extract_eq_take_drop]
      exact List.take_of_length_le (by simp)
theorem vtakeText_pc (s : List UInt8) (hs : s.length < 1000000000000) : PC Tryd.prog 84 [.str s] (tookTextV s) :=
  .of_calls (enters_of (fn := Tryd.f84) (by kernel_rfl) rfl (by kernel_rfl)) rfl (fun w _ => takeText_any ⟨s.toArray⟩ hs w) (tookTextV_rep s)
theorem rtakeText_pc (s : List UInt8) : PC Tryd.prog 70 [.str s] (tookTextV s) :=
  .of_calls (enters_of (fn := Tryd.f70) (by kernel_rfl) rfl (by kernel_rfl)) rfl (fun w _ => rtakeText_any ⟨s.toArray⟩ w) (tookTextV_rep s)
theorem vtext_pc (b t : List UInt8) (hs : b.length + t.length < 900000000) : PC Tryd.prog 74 [.str b, .str t] (.str (Gw.Vlq.text b t)) :=
  .of_calls (enters_of (fn := Tryd.f74) (by kernel_rfl) rfl (by kernel_rfl)) rfl (fun w _ => text_any ⟨b.toArray⟩ ⟨t.toArray⟩ hs w) (fun _ _ => .str rfl)
theorem rtext_pc (b t : List UInt8) (hs : b.length + t.length < 900000000) : PC Tryd.prog 79 [.str b, .str t] (.str (Gw.Vlq.text b t)) :=
  .of_calls (enters_of (fn := Tryd.f79) (by kernel_rfl) rfl (by kernel_rfl)) rfl (fun w _ => rtext_any ⟨b.toArray⟩ ⟨t.toArray⟩ hs w) (fun _ _ => .str rfl)
theorem rone_pc (n : Nat) (hn : n < 9223372036854775808) : PC Tryd.prog 80 [.int .i64 n] (.str (Gw.Vlq.one n)) :=
  .of_calls (enters_of (fn := Tryd.f80) (by kernel_rfl) rfl (by kernel_rfl)) rfl (fun w _ => one_any n hn w) (fun _ _ => .str rfl)
end Go.Proofs.YtjhblbipjljojaaDoor
