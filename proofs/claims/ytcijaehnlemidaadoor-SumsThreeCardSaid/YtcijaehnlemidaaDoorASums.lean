/- SumsThree, told without addresses: the law answers true. No claim of its own. -/
import Derived.Test.YtcijaehnlemidaaDoorAmTab
import Derived.Test.YtcijaehnlemidaaDoorSumsAwake
import Derived.Test.YtcijaehnlemidaaDoorSumsLaw
namespace Go.Proofs.YtcijaehnlemidaaDoor
open Go.Am Go.RowKit

theorem steps_of_gok {w : World} (h : GOk Tryd.prog w) : Steps w := by
  have hg : Tryd.prog.globalNamed "gunwale/sums.steps" = some 0 := by kernel_rfl
  have c0 := h _ (List.mem_singleton.2 rfl) _ hg 0 0 rfl
  have c1 := h _ (List.mem_singleton.2 rfl) _ hg 1 79764919 rfl
  exact ⟨cell_block c0, c0, c1⟩

theorem sum_pc (s : List UInt8) (hs : s.length ≤ maxLen) : PC Tryd.prog 11 [.lst false 1 [[.str s]] .none] (.int .u32 (Gw.Sums.sum s)) := by
  refine ⟨enters_of (fn := Tryd.f11) (by kernel_rfl) rfl (by kernel_rfl), fun w F vals hG hF hl hv => ?_⟩
  match vals, hl with
  | [v], _ =>
    have hp := hv 0 _ v rfl rfl
    cases hp with
    | @lst _ _ _ ad c vs hnil hc hsz ha hone h =>
      obtain ⟨blk, base, rfl, _, hcell⟩ := ha 0 [.str s] 0 (.str s) rfl rfl
      have hp0 := h 0 [.str s] 0 (.str s) rfl rfl
      generalize vs 0 0 = v0 at hcell hp0
      cases hp0 with
      | str hb =>
        rename_i b
        have S := steps_of_gok hG
        have hsz : b.size = s.length := by rw [← hb]; rfl
        have hh := sum_any [b] blk base c (by simpa using (by omega : b.size ≤ maxLen)) (by unfold maxLen; simp) w S.2.1 S.2.2 (by intro i hi; match i, hi with | 0, _ => simpa using hcell)
        have e : flatS [b] = s := by simp [flatS, hb]
        rw [e] at hh
        refine hh.mono fun e w' ⟨h1, h2⟩ => ?_
        subst h2
        exact ⟨_, F, h1, Below.refl _ _, fun _ _ h => h, fun _ _ h => .inl h, .int _ _⟩

theorem awake_pc : PC Tryd.prog 8 [] (.bool true) := by
  refine ⟨enters_of (fn := Tryd.f8) (by kernel_rfl) rfl (by kernel_rfl), fun w F vals hG hF hl hv => ?_⟩
  match vals, hl with
  | [], _ =>
    refine (awake_any w (steps_of_gok hG)).mono fun e w' ⟨h1, h2⟩ => ?_
    exact ⟨_, F, h1, h2, fun _ _ h => h, fun _ _ h => .inl h, .bool _⟩

theorem xor_u8 (a b : UInt8) : IntKind.u8.wrap ((BitVec.ofInt IntKind.u8.bits (a.toNat : Int) ^^^ BitVec.ofInt IntKind.u8.bits (b.toNat : Int)).toNat : Int) = ((a ^^^ b).toNat : Int) := by
  have h1 := a.toNat_lt
  have h2 := b.toNat_lt
  have e : ∀ x : Nat, x < 256 → (BitVec.ofInt 8 (x : Int)).toNat = x := fun x hx => by rw [BitVec.toNat_ofInt]; omega
  show IntKind.u8.wrap ((BitVec.ofInt 8 (a.toNat : Int) ^^^ BitVec.ofInt 8 (b.toNat : Int)).toNat : Int) = _
  rw [BitVec.toNat_xor, e _ h1, e _ h2, UInt8.toNat_xor, IntKind.wrap_u8]
  have := Nat.xor_lt_two_pow (n := 8) h1 h2
  omega
theorem xor_u32 (a b : Nat) (ha : a < 4294967296) (hb : b < 4294967296) : IntKind.u32.wrap ((BitVec.ofInt IntKind.u32.bits (a : Int) ^^^ BitVec.ofInt IntKind.u32.bits (b : Int)).toNat : Int) = ((a ^^^ b : Nat) : Int) := by
  have e : ∀ x : Nat, x < 4294967296 → (BitVec.ofInt 32 (x : Int)).toNat = x := fun x hx => by rw [BitVec.toNat_ofInt]; omega
  show IntKind.u32.wrap ((BitVec.ofInt 32 (a : Int) ^^^ BitVec.ofInt 32 (b : Int)).toNat : Int) = _
  rw [BitVec.toNat_xor, e _ ha, e _ hb, IntKind.wrap_u32]
  have := Nat.xor_lt_two_pow (n := 32) ha hb
  omega
theorem xor3_snoc : ∀ (l m n : List UInt8) (x y z : UInt8), l.length = m.length → m.length = n.length → Gw.Sums.xor3 (l ++ [x]) (m ++ [y]) (n ++ [z]) = Gw.Sums.xor3 l m n ++ [x ^^^ y ^^^ z]
  | [], [], [], _, _, _, _, _ => rfl
  | a :: l, b :: m, c :: n, x, y, z, h1, h2 => by
    simp only [List.length_cons] at h1 h2
    simp only [List.cons_append, Gw.Sums.xor3]
    rw [xor3_snoc l m n x y z (by omega) (by omega)]
theorem xor3_length : ∀ (l m n : List UInt8), l.length = m.length → m.length = n.length → (Gw.Sums.xor3 l m n).length = l.length
  | [], [], [], _, _ => rfl
  | a :: l, b :: m, c :: n, h1, h2 => by
    simp only [List.length_cons] at h1 h2
    simp only [Gw.Sums.xor3, List.length_cons]
    rw [xor3_length l m n (by omega) (by omega)]
def dK (a b c : List UInt8) (k : Nat) : List UInt8 := Gw.Sums.xor3 (a.take k) (b.take k) (c.take k)
def encB (s : List UInt8) : List (List V) := s.map fun c => [.int .u8 c.toNat]

theorem three_pc (a b c : List UInt8) (ha : a.length ≤ maxLen) (_hb : b.length ≤ maxLen) (_hc : c.length ≤ maxLen) : PC Tryd.prog 7 [.str a, .str b, .str c] (.bool true) := by
  refine PC.of tabOk mixed (fn := Tryd.f7) (by kernel_rfl) rfl (by kernel_rfl) rfl rfl ?_
  conv => whnf
  refine AC.of_pc awake_pc rfl ?_
  conv => whnf
  refine ⟨fun _ => rfl, fun h1 => ?_⟩
  have h1 := of_decide_eq_false h1
  obtain ⟨N, hN⟩ : ∃ N : Nat, (N : Int) = min (min (a.length : Int) b.length) c.length := ⟨min (min a.length b.length) c.length, by omega⟩
  have h1 : ¬ (300 : Int) < min (min (a.length : Int) b.length) c.length := h1
  rw [← hN] at h1
  have na : N ≤ a.length := by omega
  have nb : N ≤ b.length := by omega
  have nc : N ≤ c.length := by omega
  conv => whnf
  refine AW.row 9 5 1 rfl rfl (.inl rfl) ?_
  refine AW.loop (fun k : Nat => [(.tmp 0, .v (.str a)), (.tmp 1, .v (.str b)), (.tmp 2, .v (.str c)), (.tmp 7, .v (.bool true)), (.tmp 8, .v (.int .i64 N)), (.tmp 9, .v (.lst (decide (k = 0)) 1 (encB (dK a b c k)) (.row 14))), (.tmp 10, .v (.int .i64 k)), (.row 14, .row 5 1 k)])
    15 (fun k => k ≤ N) (fun k => N - k) (by decide) 0 (Nat.zero_le _) ⟨rfl, rfl, rfl, rfl, rfl, rfl, rfl, rfl, ?_, rfl, rfl, rfl, rfl, rfl, rfl, rfl, trivial⟩ ?_
  · show C.v (V.int .i64 (min (min (a.length : Int) b.length) c.length)) = _
    rw [hN]
  rintro k hk
  have la : (a.take k).length = k := by rw [List.length_take]; omega
  have lb : (b.take k).length = k := by rw [List.length_take]; omega
  have lc : (c.take k).length = k := by rw [List.length_take]; omega
  have hlk : (encB (dK a b c k)).length = k := by unfold encB dK; rw [List.length_map, xor3_length _ _ _ (by omega) (by omega), la]
  refine ev_sound tabOk mixed _ _ _ _ ?_
  conv => whnf
  refine ⟨fun h2 => ?_, fun h2 => ?_⟩
  · have h2 := of_decide_eq_true h2
    obtain ⟨x, hx⟩ : ∃ x, a[k]? = some x := ⟨_, List.getElem?_eq_getElem (by omega)⟩
    obtain ⟨y, hy⟩ : ∃ x, b[k]? = some x := ⟨_, List.getElem?_eq_getElem (by omega)⟩
    obtain ⟨z, hz⟩ : ∃ x, c[k]? = some x := ⟨_, List.getElem?_eq_getElem (by omega)⟩
    conv => whnf
    refine ⟨x, ⟨by omega, hx⟩, ?_⟩
    conv => whnf
    refine ⟨y, ⟨by omega, hy⟩, ?_⟩
    conv => whnf
    refine ⟨z, ⟨by omega, hz⟩, ?_⟩
    conv => whnf
    refine ⟨⟨hlk.symm, fits_small (by rw [hlk]; simp only [List.length_cons, List.length_nil]; omega) (by decide)⟩, ?_⟩
    conv => whnf
    refine ⟨by kernel_rfl, ?_⟩
    conv => whnf
    refine ⟨k + 1, by show k + 1 ≤ N; omega, by show _ - (k + 1) < _ - k; omega, rfl, rfl, rfl, rfl, rfl, rfl, rfl, rfl, rfl, rfl, ?_, rfl, ?_, rfl, ?_, rfl, trivial⟩
    · show C.v (V.lst (decide (k = 0) && false) 1 (encB (dK a b c k) ++ [[V.int .u8 (IntKind.u8.wrap ((BitVec.ofInt IntKind.u8.bits (IntKind.u8.wrap ((BitVec.ofInt IntKind.u8.bits (x.toNat : Int) ^^^ BitVec.ofInt IntKind.u8.bits (y.toNat : Int)).toNat : Int)) ^^^ BitVec.ofInt IntKind.u8.bits (z.toNat : Int)).toNat : Int))]]) _) = _
      rw [xor_u8, xor_u8, Bool.and_false]
      have e : dK a b c (k + 1) = dK a b c k ++ [x ^^^ y ^^^ z] := by
        have q : ∀ (l : List UInt8) (v : UInt8), l[k]? = some v → l.take (k + 1) = l.take k ++ [v] := fun l v h => by
          obtain ⟨h1, h2⟩ := List.getElem?_eq_some_iff.1 h
          rw [List.take_succ_eq_append_getElem h1, h2]
        unfold dK
        rw [q a x hx, q b y hy, q c z hz, xor3_snoc _ _ _ _ _ _ (by omega) (by omega)]
      rw [e, encB, encB, List.map_append]
      rfl
    · show C.v (V.int .i64 (IntKind.i64.wrap ((k : Int) + 1))) = _
      rw [w64 (by omega) (by omega)]; rfl
    · show C.row _ 1 ((encB (dK a b c k)).length + 1) = _
      rw [hlk]
  · have h2 := of_decide_eq_false h2
    obtain rfl : k = N := by omega
    have s1 := Gw.Sums.sum_lt (a.take k)
    have s2 := Gw.Sums.sum_lt (b.take k)
    have s3 := Gw.Sums.sum_lt (c.take k)
    have hm : (300 : Nat) ≤ maxLen := by unfold maxLen; decide
    conv => whnf
    refine ⟨fun _ => ?_, fun h => absurd h (by decide)⟩
    conv => whnf
    refine ⟨dK a b c k, ⟨.inl rfl, rfl⟩, ?_⟩
    conv => whnf
    refine ⟨_, rfl, sum_pc (dK a b c k) (by have := xor3_length (a.take k) (b.take k) (c.take k) (by omega) (by omega); unfold dK; omega), ?_⟩
    conv => whnf
    refine ⟨by omega, ?_⟩
    conv => whnf
    refine ⟨_, rfl, sum_pc (a.take k) (by omega), ?_⟩
    conv => whnf
    refine ⟨by omega, ?_⟩
    conv => whnf
    refine ⟨_, rfl, sum_pc (b.take k) (by omega), ?_⟩
    conv => whnf
    refine ⟨by omega, ?_⟩
    conv => whnf
    refine ⟨_, rfl, sum_pc (c.take k) (by omega), ?_⟩
    conv => whnf
    refine ⟨by kernel_rfl, ?_⟩
    conv => whnf
    rw [xor_u32 _ _ s1 s2, xor_u32 _ _ (Nat.xor_lt_two_pow (n := 32) s1 s2) s3, dK, Gw.Sums.sum_xor3 _ _ _ (by omega) (by omega)]
    simp
end Go.Proofs.YtcijaehnlemidaaDoor
