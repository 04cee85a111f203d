/- From what a row reads to values without addresses, and from a walk without a world to a call. No claim of its own. -/
import Derived.Test.YtipgfdepopfghaaGreatAmTab
import Derived.Test.YtipgfdepopfghaaGreatLawKit
import Derived.Lib.SmallJoins
import Derived.Deep.Slices
namespace Go.Proofs.YtipgfdepopfghaaGreat
open Go.ChangeShapes Go.WideShapes Go.ChangeAt Go.RowKit Go.Am

/-- All cells that there are. -/
def allF (W : World) : Nat → Nat → Prop := fun k _ => k < W.heap.size

/-- What a law's call owes, by what its function computes. -/
theorem pc_calls {f : FuncId} {args : List V} {vals : List Value} {W : World} (hG : GOk Tryz.prog W) (h : PC Tryz.prog f args (.bool true)) (hl : vals.length = args.length) (hv : ∀ (i : Nat) (x : V) (v : Value), args[i]? = some x → vals[i]? = some v → PRep W (allF W) x v) :
    Calls Tryz.prog f vals.toArray W fun e w' => e = .returned (.bool true) ∧ Below W.heap.size W w' := by
  refine (h.run W (allF W) vals hG (fun k o hk => hk) hl hv).mono fun e w' ⟨v, F', e1, e2, _, _, e5⟩ => ⟨?_, e2.1⟩
  cases e5
  exact e1

/-- A program without such tables. -/
theorem gok_free (h : knownTabs.all (fun x => (Tryz.prog.globalNamed x.1).isNone) = true) (W : World) : GOk Tryz.prog W := fun x hx i hi => by
  have := List.all_eq_true.1 h x hx
  rw [hi] at this
  cases this
theorem rep_int {W : World} {F : Nat → Nat → Prop} {k : IntKind} {n : Int} : PRep W F (.int k n) (.int k n) := .int k n
theorem rep_str {W : World} {F : Nat → Nat → Prop} (b : ByteArray) : PRep W F (.str b.data.toList) (.string b) := .str rfl
theorem reps_nil {W : World} {F : Nat → Nat → Prop} : ∀ (i : Nat) (x : V) (v : Value), ([] : List V)[i]? = some x → ([] : List Value)[i]? = some v → PRep W F x v := fun i x v h => by simp at h
theorem reps_cons {W : World} {F : Nat → Nat → Prop} {x : V} {v : Value} {l : List V} {m : List Value} (h : PRep W F x v) (h' : ∀ (i : Nat) (x : V) (v : Value), l[i]? = some x → m[i]? = some v → PRep W F x v) :
    ∀ (i : Nat) (y : V) (u : Value), (x :: l)[i]? = some y → (v :: m)[i]? = some u → PRep W F y u
  | 0, y, u, h1, h2 => by simp at h1 h2; subst h1 h2; exact h
  | i + 1, y, u, h1, h2 => h' i y u (by simpa using h1) (by simpa using h2)

theorem addr_add_none (b o i : Nat) : (⟨b, o, none⟩ : Addr).add i = ⟨b, o + i, none⟩ := by unfold Addr.add; split <;> simp_all

/-- A slice, as it is read, element by element. -/
theorem open_lst {α H : Type} {enc : TypeId × Value → H} {W : World} {fuel : Nat} {t e : TypeId} {v : Value} {x : DataW H × List MemPlace} (ht : Tryz.prog.underlying t = some (.slice e)) {sz : Nat} (hC : Tryz.prog.cellsOf e = sz) (hsz : 0 < sz) (el : α → List V) (Q : α → Prop)
    (hel : ∀ (n : Nat) (cs : List Value) (y : DataW H × List MemPlace), cs.length = sz → DataW.trod enc Tryz.prog W 0 (fun _ => true) true n e cs = some y → ∃ a, Q a ∧ (el a).length = sz ∧ ∀ (j : Nat) (x : V) (c : Value), (el a)[j]? = some x → cs[j]? = some c → PRep W (allF W) x c ∧ c.oneCell' = true)
    (hf : DataW.trod enc Tryz.prog W 0 (fun _ => true) true fuel t [v] = some x) :
    ∃ (isNil : Bool) (l : List α), PRep W (allF W) (.lst isNil sz (l.map el) .none) v ∧ (isNil = true → l = []) ∧ l.length ≤ maxLen ∧ ∀ a ∈ l, Q a := by
  rcases Go.Deep.open_slice ht hf with ⟨hcs, _⟩ | ⟨a, len, cap, m, n, D, Pl, hcs, _, hle, hm, hmm, _, hcell⟩
  · obtain rfl : v = .slice none 0 0 := by simpa using hcs
    exact ⟨true, [], .lst (els := []) (fun _ _ => undef) rfl (Nat.le_refl _) (by simp) (fun i el j x h => by simp at h) (fun i el j x h => by simp at h) (fun i el j x h => by simp at h), fun _ => rfl, by simp [maxLen], by simp⟩
  · obtain rfl : v = .slice (some a) len cap := by simpa using hcs
    obtain rfl : m = cap := by simpa using hmm
    rcases Nat.eq_zero_or_pos len with rfl | hpos
    · exact ⟨false, [], .lst (els := []) (fun _ _ => undef) rfl (Nat.zero_le _) (by simp) (fun i el j x h => by simp at h) (fun i el j x h => by simp at h) (fun i el j x h => by simp at h), fun _ => rfl, by simp [maxLen], by simp⟩
    have one : ∀ i, i < len → ∃ p : α × List Value, Q p.1 ∧ (el p.1).length = sz ∧ p.2.length = sz ∧ (∀ (j : Nat) (x : V) (c : Value), (el p.1)[j]? = some x → p.2[j]? = some c → PRep W (allF W) x c ∧ c.oneCell' = true) ∧ ∀ j, j < sz → W.cell? ((a.add (i * sz)).add j) = p.2[j]? := by
      intro i hi
      obtain ⟨cs, hcells, htr⟩ := hcell i (by omega)
      rw [hC] at hcells
      obtain ⟨_, hl2, hc2⟩ := World.cells?_some hcells
      obtain ⟨b, q1, q2, q3⟩ := hel n cs _ hl2 htr
      exact ⟨(b, cs), q1, q2, hl2, q3, hc2⟩
    obtain ⟨p0, _⟩ := one 0 hpos
    have hex : ∀ i, ∃ p : α × List Value, i < len → Q p.1 ∧ (el p.1).length = sz ∧ p.2.length = sz ∧ (∀ (j : Nat) (x : V) (c : Value), (el p.1)[j]? = some x → p.2[j]? = some c → PRep W (allF W) x c ∧ c.oneCell' = true) ∧ ∀ j, j < sz → W.cell? ((a.add (i * sz)).add j) = p.2[j]? := fun i => by
      by_cases hi : i < len
      · obtain ⟨p, hp⟩ := one i hi
        exact ⟨p, fun _ => hp⟩
      · exact ⟨p0, fun h => absurd h hi⟩
    obtain ⟨f, hfn⟩ := Classical.skolem.1 hex
    have hget : ∀ (i : Nat) (r : List V), (((List.range len).map fun i => (f i).1).map el)[i]? = some r → i < len ∧ r = el (f i).1 := fun i r h => by
      rw [List.map_map, List.getElem?_map] at h
      by_cases hi : i < len
      · rw [List.getElem?_range hi] at h
        simp at h
        exact ⟨hi, h.symm⟩
      · rw [List.getElem?_eq_none (by simp; omega)] at h
        cases h
    have hcl : ∀ (i j : Nat), i < len → j < sz → ∃ c, (f i).2[j]? = some c ∧ W.cell? ((a.add (i * sz)).add j) = some c := fun i j hi hj => by
      obtain ⟨_, _, h3, _, h5⟩ := hfn i hi
      have hlt : j < (f i).2.length := by omega
      exact ⟨_, List.getElem?_eq_getElem hlt, by rw [h5 j hj, List.getElem?_eq_getElem hlt]⟩
    obtain ⟨c0, _, hc0⟩ := hcl 0 0 hpos hsz
    obtain ⟨blk, base, spot⟩ := a
    have hspot : spot = none := by simpa [Addr.add] using World.cell?_spot hc0
    subst hspot
    refine ⟨false, (List.range len).map fun i => (f i).1, ?_, (fun h => by cases h), by simp; omega, fun b hb => ?_⟩
    · have hlen : (((List.range len).map fun i => (f i).1).map el).length = len := by simp
      have := PRep.lst (w := W) (F := allF W) (isNil := false) (sz := sz) (els := ((List.range len).map fun i => (f i).1).map el) (ad := some ⟨blk, base, none⟩) (c := m) (fun i j => (f i).2.getD j undef) rfl (by rw [hlen]; exact hle) (fun r hr => by
          obtain ⟨i, hi, rfl⟩ := List.getElem_of_mem hr
          obtain ⟨hi', e⟩ := hget i _ (List.getElem?_eq_getElem hi)
          rw [e]; exact (hfn i hi').2.1) (fun i r j x hr hx => by
          obtain ⟨hi', rfl⟩ := hget i r hr
          have hj : j < sz := by have := (List.getElem?_eq_some_iff.1 hx).1; rw [(hfn i hi').2.1] at this; exact this
          obtain ⟨c, h1, h2⟩ := hcl i j hi' hj
          rw [addr_add_none, addr_add_none] at h2
          exact ⟨blk, base, rfl, cell_lt h2, by rw [h2]; show _ = some ((f i).2.getD j undef); rw [List.getD_eq_getElem?_getD, h1]; rfl⟩) (fun i r j x hr hx => by
          obtain ⟨hi', rfl⟩ := hget i r hr
          have hj : j < sz := by have := (List.getElem?_eq_some_iff.1 hx).1; rw [(hfn i hi').2.1] at this; exact this
          obtain ⟨c, h1, h2⟩ := hcl i j hi' hj
          have e : (f i).2.getD j undef = c := by rw [List.getD_eq_getElem?_getD, h1]; rfl
          show ((f i).2.getD j undef).oneCell' = true
          rw [e]
          exact ((hfn i hi').2.2.2.1 j x c hx h1).2) (fun i r j x hr hx => by
          obtain ⟨hi', rfl⟩ := hget i r hr
          have hj : j < sz := by have := (List.getElem?_eq_some_iff.1 hx).1; rw [(hfn i hi').2.1] at this; exact this
          obtain ⟨c, h1, h2⟩ := hcl i j hi' hj
          have e : (f i).2.getD j undef = c := by rw [List.getD_eq_getElem?_getD, h1]; rfl
          show PRep W (allF W) x ((f i).2.getD j undef)
          rw [e]
          exact ((hfn i hi').2.2.2.1 j x c hx h1).1)
      rwa [hlen] at this
    · obtain ⟨i, hi, rfl⟩ := List.mem_map.1 hb
      exact (hfn i (by simpa using hi)).1
end Go.Proofs.YtipgfdepopfghaaGreat
