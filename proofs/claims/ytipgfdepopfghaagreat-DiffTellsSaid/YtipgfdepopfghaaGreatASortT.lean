/- A list of texts sorted in place by the order of names: told without addresses. No claim of its own. -/
import Derived.Test.YtipgfdepopfghaaGreatAmB
import Derived.Test.YtipgfdepopfghaaGreatANameM
import Derived.Test.YtipgfdepopfghaaGreatNamePl
import Derived.Test.YtipgfdepopfghaaGreatSortLay
import Derived.Test.YtipgfdepopfghaaGreatAViewS
namespace Go.Proofs.YtipgfdepopfghaaGreat
open Go.Shelf Go.RowKit Go.Lib Go.Sort Go.Am

def cmpT (a b : List UInt8) : Int := if Gw.Name.less a b = true then -1 else if Gw.Name.less b a = true then 1 else 0
theorem cmpT_neg (a b : List UInt8) : decide (cmpT a b < 0) = Gw.Name.less a b := by
  unfold cmpT
  cases Gw.Name.less a b <;> cases Gw.Name.less b a <;> rfl
theorem risingCmp_pc (a b : List UInt8) (ha : a.length ≤ 1048576) (hb : b.length ≤ 1048576) : PC Tryz.prog 73 [.str a, .str b] (.int .i64 (cmpT a b)) := by
  have h1 := nameLess_pc a b ha hb
  have h2 := nameLess_pc b a hb ha
  refine PC.of tabOk mixed (fn := Tryz.f73) (by kernel_rfl) rfl (by kernel_rfl) rfl rfl ?_
  unfold cmpT
  conv => whnf
  refine AC.of_pc h1 rfl ?_
  cases Gw.Name.less a b with
  | true =>
    conv => whnf
    repeat (first | refine ⟨fun _ => ?_, fun h => absurd h (by decide)⟩ | refine ⟨fun h => absurd h (by decide), fun _ => ?_⟩ | refine ⟨fun _ => ?_, fun h => absurd (show true = false from h) (by decide)⟩ | refine ⟨fun h => absurd (show false = true from h) (by decide), fun _ => ?_⟩
            (conv => whnf))
    rfl
  | false =>
    conv => whnf
    repeat (first | refine ⟨fun _ => ?_, fun h => absurd h (by decide)⟩ | refine ⟨fun h => absurd h (by decide), fun _ => ?_⟩ | refine ⟨fun _ => ?_, fun h => absurd (show true = false from h) (by decide)⟩ | refine ⟨fun h => absurd (show false = true from h) (by decide), fun _ => ?_⟩
            (conv => whnf))
    refine AC.of_pc h2 rfl ?_
    cases Gw.Name.less b a with
    | true =>
      conv => whnf
      repeat (first | refine ⟨fun _ => ?_, fun h => absurd h (by decide)⟩ | refine ⟨fun h => absurd h (by decide), fun _ => ?_⟩ | refine ⟨fun _ => ?_, fun h => absurd (show true = false from h) (by decide)⟩ | refine ⟨fun h => absurd (show false = true from h) (by decide), fun _ => ?_⟩
              (conv => whnf))
      rfl
    | false =>
      conv => whnf
      repeat (first | refine ⟨fun _ => ?_, fun h => absurd h (by decide)⟩ | refine ⟨fun h => absurd h (by decide), fun _ => ?_⟩ | refine ⟨fun _ => ?_, fun h => absurd (show true = false from h) (by decide)⟩ | refine ⟨fun h => absurd (show false = true from h) (by decide), fun _ => ?_⟩
              (conv => whnf))
      rfl
/-- Texts short enough for the order. -/
abbrev Short := { s : List UInt8 // s.length ≤ 1048576 }
instance : Inhabited Short := ⟨⟨[], Nat.zero_le _⟩⟩
def encSh (s : Short) : Value := .string ⟨s.1.toArray⟩
def cmpSh (a b : Short) : Int := cmpT a.1 b.1
theorem ltSh (a b : Short) : ltOf cmpSh a b = Gw.Name.less a.1 b.1 := cmpT_neg a.1 b.1
theorem swoSh : SWO (ltOf cmpSh) where
  irrefl x := by rw [ltSh]; exact Gw.View.less_irrefl _
  trans x y z h1 h2 := by rw [ltSh] at *; exact Gw.Rune.less_trans h1 h2
  ntrans x y z h1 h2 := by
    rw [ltSh] at *
    cases h3 : Gw.Name.less x.1 z.1
    · rfl
    · cases h4 : Gw.Name.less y.1 x.1 with
      | true =>
        have := Gw.Rune.less_trans h4 h3
        rw [h2] at this; cases this
      | false =>
        have := Gw.View.less_total h1 h4
        rw [this, h2] at h3; cases h3

theorem world_ext {w w' : World} (h1 : w'.heap = w.heap) (h2 : w'.tape = w.tape) (h3 : w'.drawn = w.drawn) (h4 : w'.os = w.os) (h5 : w'.output = w.output) : w' = w := by
  cases w; cases w'; simp_all
theorem below_grow {w w' : World} (h : Go.RowKit.Below w.heap.size w w') (hd : w.drawn ≤ w'.drawn) : ∃ q os, w' = grow (w.drewN q) os := by
  refine ⟨w'.drawn - w.drawn, w'.heap.extract w.heap.size w'.heap.size, world_ext ?_ h.tape ?_ h.os h.output⟩
  · show w'.heap = w.heap ++ w'.heap.extract w.heap.size w'.heap.size
    apply Array.ext_getElem?
    intro k
    rw [Array.getElem?_append]
    split
    · rename_i hk
      exact h.block k hk
    · rename_i hk
      have hs := h.size
      rw [Array.getElem?_extract]
      by_cases h2 : k < w'.heap.size
      · rw [if_pos (by omega), show w.heap.size + (k - w.heap.size) = k by omega]
      · rw [if_neg (by omega), Array.getElem?_eq_none (by omega)]
  · show w'.drawn = w.drawn + (w'.drawn - w.drawn)
    omega
theorem gokV (W : World) : GOk Tryz.prog W := fun x hx i hi => by
  have := List.all_eq_true.1 (by kernel_rfl : knownTabs.all (fun x => (Tryz.prog.globalNamed x.1).isNone) = true) x hx
  rw [hi] at this
  cases this
theorem risingLays (blk off size : Nat) (w : World) : CmpLays1 Tryz.prog 73 #[] encSh cmpSh blk off size w := by
  intro m os dk _ x y
  have h := risingCmp_pc x.1 y.1 x.2 y.2
  refine (h.run _ (fun _ _ => False) [encSh x, encSh y] (gokV _) (fun _ _ h => h.elim) rfl (fun i z v hz hv => ?_)).mono ?_
  · match i, hz, hv with
    | 0, hz, hv => cases hz; cases hv; exact .str rfl
    | 1, hz, hv => cases hz; cases hv; exact .str rfl
    | i + 2, hz, _ => cases hz
  · rintro e w' ⟨v, F', rfl, ⟨h1, h2⟩, _, _, h5⟩
    refine ⟨?_, below_grow h1 h2⟩
    cases h5
    rfl
def flatT (l : List (List UInt8)) : List V := l.map fun t => .str t
theorem flat_S1 (l : List (List UInt8)) : (encS1 l).flatten = flatT l := by
  induction l with
  | nil => rfl
  | cons a l ih => show [V.str a] ++ (encS1 l).flatten = _; rw [ih]; rfl
theorem one_flatT : ∀ l : List (List UInt8), oneAll (flatT l) = true
  | [] => rfl
  | _ :: l => one_flatT l
def shorts (l : List (List UInt8)) (hl : ∀ t ∈ l, t.length ≤ 1048576) : List Short := l.attach.map fun t => ⟨t.1, hl t.1 t.2⟩
theorem shorts_val (l : List (List UInt8)) (hl : ∀ t ∈ l, t.length ≤ 1048576) : (shorts l hl).map (·.1) = l := by
  unfold shorts
  rw [List.map_map]
  exact List.attach_map_subtype_val l
theorem sorted_of {d d' : Array Short} (hp : PermIn 0 d.size d d') (hs : SortedIn (ltOf cmpSh) 0 d.size d') : d'.toList.map (·.1) = Gw.View.sortT (d.toList.map (·.1)) := by
  obtain ⟨h1, _, h3⟩ := hp
  have e1 : d.extract 0 d.size = d := Array.extract_size
  have e2 : d'.extract 0 d.size = d' := by rw [← h1]; exact Array.extract_size
  rw [e1, e2] at h3
  refine Gw.View.sortT_unique (h3.map _) ?_
  rw [List.pairwise_map, List.pairwise_iff_getElem]
  intro i j hi hj hij
  have hi' : i < d'.size := by simpa using hi
  have hj' : j < d'.size := by simpa using hj
  have := hs i j (Nat.zero_le _) hij (by omega)
  rw [ltSh, getElem!_pos d' j hj', getElem!_pos d' i hi'] at this
  exact this
theorem sortT_ac {σ : St} {n : Nat} {K : V → St → Nat → Prop} (i len : Nat) (l : List (List UInt8)) (T : TypeId) (hl : ∀ t ∈ l, t.length ≤ 1048576) (hlen : len = l.length) (h2 : l.length ≤ 1048576) (hs : σ (.blk i) = .mem T (flatT l))
    (hK : K (.tup []) (upd σ (.blk i) (.mem T (flatT (Gw.View.sortT l)))) n) : AC Tryz.prog 103 [.own i 0 1 len true, .func 73 [] []] σ n K := by
  refine ⟨Am.enters_of (fn := Tryz.f103) (by kernel_rfl) rfl (by kernel_rfl), fun b g w vals h hvl hv => ?_⟩
  match vals, hvl with
  | [v1, v2], _ =>
  obtain ⟨c, cap, ad, hc, rfl, _, _, hle, hf⟩ := (hv 0 _ v1 rfl rfl).own_inv
  obtain ⟨_, rfl, T', hsh⟩ := hf rfl
  obtain ⟨vs, us, rfl, l1, l2, _⟩ := (hv 1 _ v2 rfl rfl).func_inv
  obtain rfl : vs = [] := List.eq_nil_of_length_eq_zero l1
  obtain rfl : us = [] := List.eq_nil_of_length_eq_zero l2
  obtain ⟨arr, z, a1, a2, a3, a4⟩ := h.mem i T (flatT l) c hs hc
  have hcl : c < w.heap.size := h.ownsz i c hc
  have hfl : (flatT l).length = l.length := List.length_map _
  let d : Array Short := (shorts l hl).toArray
  have hdv : d.toList.map (·.1) = l := shorts_val l hl
  have hds : d.size = l.length := by
    have := congrArg List.length hdv
    rw [List.length_map] at this
    exact this
  have hH : Holds encSh w c 0 d := fun j hj => by
    have hj' : j < l.length := by omega
    have hja : j < arr.length := by omega
    have hx : (flatT l)[j]? = some (.str l[j]) := by unfold flatT; rw [List.getElem?_map, List.getElem?_eq_getElem hj']; rfl
    have hr := a4 j _ arr[j] hx (List.getElem?_eq_getElem hja)
    have he : arr[j] = encSh d[j]! := by
      have e1 : d[j]!.1 = l[j] := by
        rw [getElem!_pos d j hj]
        have : (d.toList.map (·.1))[j]? = some d[j].1 := by rw [List.getElem?_map, List.getElem?_eq_getElem (by simpa using hj)]; rfl
        rw [hdv, List.getElem?_eq_getElem hj'] at this
        exact (Option.some.inj this).symm
      unfold encSh
      rw [e1]
      generalize arr[j] = u at hr
      cases hr with
      | str hb => rename_i ba; rw [← hb]
    refine ⟨?_, ?_⟩
    · rw [Nat.zero_add, ← he]
      simp [World.cell?, a1, hja]
    · rw [Nat.zero_add]
      have := a3 j hja
      simp [World.frozen?, a1]
      omega
  have eg : ∀ args w, (callFunc 73 args).run Tryz.prog w = .ok (.enter 73 args) w := Am.enters_of (fn := Tryz.f73) (by kernel_rfl) rfl (by kernel_rfl)
  have hcon := Any.slices_SortFunc Tryz.sortTexts encSh (fun _ => rfl) cmpSh swoSh 73 #[] c 0 cap d w eg (risingLays c 0 d.size w) hH hcl (by omega)
  rw [hds] at hcon
  subst hlen
  refine hcon.mono ?_
  rintro e w' ⟨rfl, d', q, os, hp, hso, rfl⟩
  have hp' : PermIn 0 d.size d d' := by rw [hds]; exact hp
  have hso' : SortedIn (ltOf cmpSh) 0 d.size d' := by rw [hds]; exact hso
  have hsv := sorted_of hp' hso'
  rw [hdv] at hsv
  have hds' : d'.size = l.length := by rw [hp'.1, hds]
  -- first the draws, then the row, then the new blocks
  obtain ⟨g1, E1⟩ := h.grow0 (w' := Sort.ahead w q) ⟨rfl, rfl, rfl, Nat.le_refl _, fun _ _ => rfl⟩ (by show w.drawn ≤ w.drawn + q; omega)
  have hput : (putRow encSh (Sort.ahead w q) c 0 d').heap[c]? = some (.cells (putCells encSh 0 d' arr.toArray) T z) := by
    show (w.heap.modify c _)[c]? = _
    rw [Array.getElem?_modify, if_pos rfl, a1]
    rfl
  have hw : Wr c (Sort.ahead w q) (putRow encSh (Sort.ahead w q) c 0 d') := by
    refine ⟨rfl, rfl, rfl, ?_, fun k hk => ?_, ?_, fun ds hd => ?_, rfl⟩
    · show (w.heap.modify c _).size = _
      rw [Array.size_modify]; rfl
    · show (w.heap.modify c _)[k]? = _
      rw [Array.getElem?_modify, if_neg (Ne.symm hk)]; rfl
    · unfold World.shape?
      rw [hput]
      show _ = (match w.heap[c]? with | some (.cells cs e _) => some (e, cs.size) | _ => none)
      rw [a1]
      simp [putCells]
    · have hd : w.heap[c]? = some (Obj.deferred ds) := hd
      rw [a1] at hd; cases hd
  obtain ⟨g2, E2⟩ := g1.write (X := .mem T (flatT (Gw.View.sortT l))) (by rw [hs]; rfl) hc hw (fun _ => by
    refine ⟨(putCells encSh 0 d' arr.toArray).toList, z, by rw [hput], ?_, ?_, ?_⟩
    · rw [flatT, List.length_map, (Gw.View.sortT_perm l).length_eq]
      simp only [putCells, Array.length_toList, Array.size_mapIdx, List.size_toArray]
      omega
    · intro o ho
      simp only [putCells, Array.length_toList, Array.size_mapIdx, List.size_toArray] at ho
      exact a3 o ho
    · intro j x v hx hvv
      have hjs : j < (Gw.View.sortT l).length := by
        have := (List.getElem?_eq_some_iff.1 hx).1
        rwa [flatT, List.length_map] at this
      have hjl : j < l.length := by rw [← (Gw.View.sortT_perm l).length_eq]; exact hjs
      have hja : j < arr.length := by omega
      have ex : x = .str (Gw.View.sortT l)[j] := by
        rw [flatT, List.getElem?_map, List.getElem?_eq_getElem hjs] at hx
        exact (Option.some.inj hx).symm
      have ev : v = encSh d'[j]! := by
        simp only [putCells, Array.getElem?_toList, Array.getElem?_mapIdx, List.getElem?_toArray, List.getElem?_eq_getElem hja, Option.map_some] at hvv
        rw [if_pos ⟨Nat.zero_le _, by omega⟩, Nat.sub_zero] at hvv
        exact (Option.some.inj hvv).symm
      have e1 : d'[j]!.1 = (Gw.View.sortT l)[j] := by
        have hj' : j < d'.size := by omega
        rw [getElem!_pos d' j hj']
        have : (d'.toList.map (·.1))[j]? = some d'[j].1 := by rw [List.getElem?_map, List.getElem?_eq_getElem (by simpa using hj')]; rfl
        rw [hsv, List.getElem?_eq_getElem hjs] at this
        exact (Option.some.inj this).symm
      rw [ex, ev, ← e1]
      exact .str rfl)
  obtain ⟨g3, E3⟩ := g2.grow0 (w' := grow (putRow encSh (Sort.ahead w q) c 0 d') os) ⟨rfl, rfl, rfl, by rw [size_grow]; omega, fun k hk => heap_grow_old _ _ hk⟩ (Nat.le_refl _)
  exact ⟨_, _, _, n, _, rfl, hK, Nat.le_refl _, .tup (vs := []) rfl (by simp), g3, (E1.trans E2).trans E3⟩
end Go.Proofs.YtipgfdepopfghaaGreat
