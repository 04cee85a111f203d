/- What the functions of the package stamp compute: told without addresses. No claim of its own. -/
import Derived.Test.YtipgfdepopfghaaGreatAmTab
import Derived.Test.YtipgfdepopfghaaGreatTreePl
import Derived.Test.YtipgfdepopfghaaGreatANameM
namespace Go.Proofs.YtipgfdepopfghaaGreat
open Go.Am

def I64 (x : Int) : Prop := -9223372036854775808 ≤ x ∧ x ≤ 9223372036854775807
def encS (s : Gw.Stamp.Stamp) : V := .agg [.int .i64 s.c, .int .i64 s.r]

theorem stampCheck_pc (s : Gw.Stamp.Stamp) : PC Tryz.prog 29 [encS s] (.bool (Gw.Stamp.check s)) := by
  obtain ⟨c, r⟩ := s
  show PC Tryz.prog _ [.agg [.int .i64 c, .int .i64 r]] (.bool (decide (1 ≤ c) && (decide (c ≤ 1048576) && (decide (0 ≤ r) && decide (r ≤ 63)))))
  refine PC.of tabOk mixed (fn := Tryz.f29) (by kernel_rfl) rfl (by kernel_rfl) rfl rfl ?_
  conv => whnf
  refine ⟨fun h1 => ?_, fun h1 => ?_⟩
  · rw [h1]
    conv => whnf
    refine ⟨fun h2 => ?_, fun h2 => ?_⟩
    · rw [h2]
      conv => whnf
      refine ⟨fun h3 => ?_, fun h3 => ?_⟩
      · rw [h3]
        conv => whnf
        rfl
      · rw [h3]
        conv => whnf
        rfl
    · rw [h2]
      conv => whnf
      rfl
  · rw [h1]
    conv => whnf
    rfl

theorem less_pc (a b : Gw.Stamp.Stamp) : PC Tryz.prog 68 [encS a, encS b] (.bool (Gw.Stamp.less a b)) := by
  obtain ⟨c, r⟩ := a
  obtain ⟨d, q⟩ := b
  show PC Tryz.prog _ [.agg [.int .i64 c, .int .i64 r], .agg [.int .i64 d, .int .i64 q]] (.bool (decide (c < d) || (decide (c = d) && decide (r < q))))
  refine PC.of tabOk mixed (fn := Tryz.f68) (by kernel_rfl) rfl (by kernel_rfl) rfl rfl ?_
  conv => whnf
  refine ⟨by kernel_rfl, ?_⟩
  conv => whnf
  refine ⟨fun h1 => ?_, fun h1 => ?_⟩
  · conv => whnf
    have h1 : c = d ∧ r = q := by simpa using h1
    congr 1
    simp; omega
  · have h1 : ¬ (c = d ∧ r = q) := by simpa using h1
    conv => whnf
    refine ⟨fun h2 => ?_, fun h2 => ?_⟩
    · have h2 : ¬ c = d := by simpa using h2
      conv => whnf
      rw [decide_eq_false h2, Bool.false_and, Bool.or_false]
    · have h2 : c = d := by simpa using h2
      conv => whnf
      rw [decide_eq_true h2, Bool.true_and, decide_eq_false (by omega : ¬ c < d), Bool.false_or]

theorem of_pc (id : Int) (hi : I64 id) : PC Tryz.prog 69 [.int .i64 id] (.tup [encS (Gw.Stamp.of id), .bool (Gw.Stamp.file id), .bool (Gw.Stamp.ok id)]) := by
  unfold I64 at hi
  have hck := stampCheck_pc ⟨id.tdiv 128, (id.tmod 128).tdiv 2⟩
  refine PC.of tabOk mixed (fn := Tryz.f69) (by kernel_rfl) rfl (by kernel_rfl) rfl rfl ?_
  conv => whnf
  refine ⟨fun h1 => ?_, fun h1 => ?_⟩
  · have h1 := of_decide_eq_true h1
    have e : Gw.Stamp.ok id = false := by simp [Gw.Stamp.ok]; omega
    conv => whnf
    rw [Gw.Stamp.of, Gw.Stamp.file, e, if_neg (by decide)]; rfl
  have h1 := of_decide_eq_false h1
  have e1 : id.tdiv 128 = id / 128 := tdiv_pos (by omega)
  have e2 : id.tmod 128 = id % 128 := tmod_pos (by omega)
  have e3 : (id % 128).tdiv 2 = id % 128 / 2 := tdiv_pos (by omega)
  have e4 : id.tmod 2 = id % 2 := tmod_pos (by omega)
  have w1 : IntKind.i64.wrap (id / 128) = id / 128 := w64 (by omega) (by omega)
  have w2 : IntKind.i64.wrap (id % 128 / 2) = id % 128 / 2 := w64 (by omega) (by omega)
  rw [e1, e2, e3] at hck
  have hok : Gw.Stamp.check ⟨id / 128, id % 128 / 2⟩ = Gw.Stamp.ok id := by
    rw [Bool.eq_iff_iff]
    simp only [Gw.Stamp.check, Gw.Stamp.ok, Bool.and_eq_true, decide_eq_true_eq]
    omega
  rw [hok] at hck
  conv => whnf
  rw [e1, e2, e3, w1, w2]
  refine AC.of_pc hck rfl ?_
  unfold Gw.Stamp.of Gw.Stamp.file
  generalize Gw.Stamp.ok id = q
  conv => whnf
  refine ⟨fun h2 => ?_, fun h2 => ?_⟩
  · have h2 : q = false := by simpa using h2
    conv => whnf
    rw [h2]; rfl
  · have h2 : q = true := by simpa using h2
    conv => whnf
    rw [h2, e4, if_pos rfl, Bool.true_and]
    rfl

theorem later_pc (s : Gw.Stamp.Stamp) (id : Int) (hi : I64 id) : PC Tryz.prog 66 [encS s, .int .i64 id] (.bool (Gw.Stamp.later s id)) := by
  have h1 := of_pc id hi
  have h2 := less_pc s (Gw.Stamp.of id)
  unfold Gw.Stamp.later
  generalize Gw.Stamp.of id = o at h1 h2 ⊢
  refine PC.of tabOk mixed (fn := Tryz.f66) (by kernel_rfl) rfl (by kernel_rfl) rfl rfl ?_
  conv => whnf
  refine AC.of_pc h1 rfl ?_
  generalize Gw.Stamp.ok id = q
  conv => whnf
  refine ⟨fun h3 => ?_, fun h3 => ?_⟩
  · conv => whnf
    refine AC.of_pc h2 rfl ?_
    conv => whnf
    rw [h3]; rfl
  · conv => whnf
    rw [h3]; rfl

theorem dir_pc (id : Int) (hi : I64 id) : PC Tryz.prog 50 [.int .i64 id] (.bool (Gw.Stamp.dir id)) := by
  have h1 := of_pc id hi
  unfold Gw.Stamp.dir
  refine PC.of tabOk mixed (fn := Tryz.f50) (by kernel_rfl) rfl (by kernel_rfl) rfl rfl ?_
  conv => whnf
  refine ⟨fun h3 => ?_, fun h3 => ?_⟩
  · have h3 : id = 0 := by simpa using h3
    conv => whnf
    rw [decide_eq_true h3]; rfl
  have h3 : ¬ id = 0 := by simpa using h3
  rw [decide_eq_false h3]
  conv => whnf
  refine ⟨fun h4 => ?_, fun h4 => ?_⟩
  · have h4 : id = 2 := by simpa using h4
    conv => whnf
    rw [decide_eq_true h4]; rfl
  have h4 : ¬ id = 2 := by simpa using h4
  rw [decide_eq_false h4]
  conv => whnf
  refine AC.of_pc h1 rfl ?_
  generalize Gw.Stamp.ok id = q
  conv => whnf
  refine ⟨fun h5 => ?_, fun h5 => ?_⟩
  · conv => whnf
    rw [h5]; rfl
  · conv => whnf
    rw [h5]; rfl
end Go.Proofs.YtipgfdepopfghaaGreat


namespace Go.Proofs.YtipgfdepopfghaaGreat
open Go.Am

def encO (o : Gw.Op.Op) : V := .agg [.int .i64 o.at_.c, .int .i64 o.at_.r, .int .i64 o.kind, .int .i64 o.node, .int .i64 o.parent, .str o.name, .str o.data]
def kindV (o : Gw.Op.Op) : V := if o.kind = 1 then .iface 141 (encO o) else if o.kind = 2 then .iface 142 (encO o) else .nili
/-- Numbers, and texts, of an operation that can be. -/
structure Fine (o : Gw.Op.Op) : Prop where
  node : I64 o.node
  parent : I64 o.parent
  name : o.name.length ≤ 1048576
  data : o.data.length ≤ 1048576

theorem fin_agg {σ : St} {cs : List V} (h : pureAll cs = true) : Am.Fin σ (.agg cs) (.agg (forgetAll cs)) :=
  .agg (forgetAll_len cs).symm fun i x y hx hy => by
    obtain ⟨z, h1, rfl⟩ := forgetAll_get hy
    rw [hx] at h1
    cases h1
    exact .pure (pureAll_get h i x hx)

theorem kindOf_pc (o : Gw.Op.Op) : PC Tryz.prog 65 [encO o] (kindV o) := by
  unfold kindV
  refine PC.of tabOk mixed (fn := Tryz.f65) (by kernel_rfl) rfl (by kernel_rfl) rfl rfl ?_
  conv => whnf
  refine ⟨fun h => ?_, fun h => ?_⟩
  · have h : o.kind = 1 := by simpa using h
    rw [if_pos h]
    conv => whnf
    exact .iface (fin_agg (cs := [.int .i64 o.at_.c, .int .i64 o.at_.r, .int .i64 o.kind, .int .i64 o.node, .int .i64 o.parent, .str o.name, .str o.data]) rfl)
  · have h : ¬ o.kind = 1 := by simpa using h
    rw [if_neg h]
    conv => whnf
    refine ⟨fun h2 => ?_, fun h2 => ?_⟩
    · have h2 : o.kind = 2 := by simpa using h2
      rw [if_pos h2]
      conv => whnf
      exact .iface (fin_agg (cs := [.int .i64 o.at_.c, .int .i64 o.at_.r, .int .i64 o.kind, .int .i64 o.node, .int .i64 o.parent, .str o.name, .str o.data]) rfl)
    · have h2 : ¬ o.kind = 2 := by simpa using h2
      rw [if_neg h2]
      conv => whnf

theorem fitsMove_pc (o : Gw.Op.Op) (hf : Fine o) : PC Tryz.prog 161 [encO o] (.bool (Gw.Op.fitsMove o)) := by
  have h1 := of_pc o.node hf.node
  have h2 := dir_pc o.parent hf.parent
  have h3 := later_pc o.at_ o.parent hf.parent
  have h4 := nameCheck_pc o.name hf.name
  unfold Gw.Op.fitsMove
  refine PC.of tabOk mixed (fn := Tryz.f161) (by kernel_rfl) rfl (by kernel_rfl) rfl rfl ?_
  conv => whnf
  refine AC.of_pc h1 rfl ?_
  conv => whnf
  refine ⟨fun q => ?_, fun q => ?_⟩
  · rw [q]
    conv => whnf
    refine AC.of_pc h2 rfl ?_
    conv => whnf
    refine ⟨fun q => ?_, fun q => ?_⟩
    · rw [q]
      conv => whnf
      refine AC.of_pc h3 rfl ?_
      conv => whnf
      refine ⟨fun q => ?_, fun q => ?_⟩
      · rw [q]
        conv => whnf
        refine AC.of_pc h4 rfl ?_
        conv => whnf
        refine ⟨fun q => ?_, fun q => ?_⟩
        · rw [q]
          conv => whnf
          rfl
        · rw [q]
          conv => whnf
          rfl
      · rw [q]
        conv => whnf
        rfl
    · rw [q]
      conv => whnf
      rfl
  · rw [q]
    conv => whnf
    rfl

theorem fitsWrite_pc (o : Gw.Op.Op) (hf : Fine o) : PC Tryz.prog 163 [encO o] (.bool (Gw.Op.fitsWrite o)) := by
  have h1 := of_pc o.node hf.node
  unfold Gw.Op.fitsWrite
  refine PC.of tabOk mixed (fn := Tryz.f163) (by kernel_rfl) rfl (by kernel_rfl) rfl rfl ?_
  conv => whnf
  refine AC.of_pc h1 rfl ?_
  conv => whnf
  refine ⟨fun q => ?_, fun q => ?_⟩
  · rw [q]
    conv => whnf
    refine ⟨fun q => ?_, fun q => ?_⟩
    · rw [q]
      conv => whnf
      refine ⟨fun q => ?_, fun q => ?_⟩
      · have q : o.data.length ≤ 64 := by have := of_decide_eq_true q; omega
        rw [decide_eq_true q]
        conv => whnf
        refine ⟨fun q => ?_, fun q => ?_⟩
        · have q : o.parent = 0 := by simpa using q
          rw [decide_eq_true q]
          conv => whnf
          rfl
        · have q : ¬ o.parent = 0 := by simpa using q
          rw [decide_eq_false q]
          conv => whnf
          rfl
      · have q : ¬ o.data.length ≤ 64 := by have := of_decide_eq_false q; omega
        rw [decide_eq_false q]
        conv => whnf
        rfl
    · rw [q]
      conv => whnf
      rfl
  · rw [q]
    conv => whnf
    rfl
theorem opCheck_pc (o : Gw.Op.Op) (hf : Fine o) : PC Tryz.prog 39 [encO o] (.bool (Gw.Op.check o)) := by
  have h0 := kindOf_pc o
  have h1 := stampCheck_pc o.at_
  have h2 := later_pc o.at_ o.node hf.node
  unfold kindV at h0
  unfold Gw.Op.check
  by_cases k1 : o.kind = 1
  · rw [if_pos k1] at h0 ⊢
    have h3 := fitsMove_pc o hf
    refine PC.of tabOk mixed (fn := Tryz.f39) (by kernel_rfl) rfl (by kernel_rfl) rfl rfl ?_
    conv => whnf
    refine AC.of_pc h0 rfl ?_
    conv => whnf
    refine ⟨fun _ => ?_, fun h => absurd h (by decide)⟩
    conv => whnf
    refine AC.of_pc h1 rfl ?_
    conv => whnf
    refine ⟨fun q => ?_, fun q => ?_⟩
    · rw [q]
      conv => whnf
      refine AC.of_pc h2 rfl ?_
      conv => whnf
      refine ⟨fun q => ?_, fun q => ?_⟩
      · rw [q]
        conv => whnf
        refine ⟨161, by kernel_rfl, AC.of_pc h3 rfl ?_⟩
        conv => whnf
        rfl
      · rw [q]
        conv => whnf
        rfl
    · rw [q]
      conv => whnf
      rfl
  · rw [if_neg k1] at h0 ⊢
    by_cases k2 : o.kind = 2
    · rw [if_pos k2] at h0 ⊢
      have h3 := fitsWrite_pc o hf
      refine PC.of tabOk mixed (fn := Tryz.f39) (by kernel_rfl) rfl (by kernel_rfl) rfl rfl ?_
      conv => whnf
      refine AC.of_pc h0 rfl ?_
      conv => whnf
      refine ⟨fun _ => ?_, fun h => absurd h (by decide)⟩
      conv => whnf
      refine AC.of_pc h1 rfl ?_
      conv => whnf
      refine ⟨fun q => ?_, fun q => ?_⟩
      · rw [q]
        conv => whnf
        refine AC.of_pc h2 rfl ?_
        conv => whnf
        refine ⟨fun q => ?_, fun q => ?_⟩
        · rw [q]
          conv => whnf
          refine ⟨163, by kernel_rfl, AC.of_pc h3 rfl ?_⟩
          conv => whnf
          rfl
        · rw [q]
          conv => whnf
          rfl
      · rw [q]
        conv => whnf
        rfl
    · rw [if_neg k2] at h0 ⊢
      refine PC.of tabOk mixed (fn := Tryz.f39) (by kernel_rfl) rfl (by kernel_rfl) rfl rfl ?_
      conv => whnf
      refine AC.of_pc h0 rfl ?_
      conv => whnf
      refine ⟨fun h => absurd h (by decide), fun _ => ?_⟩
      conv => whnf

theorem opLess_pc (a b : Gw.Op.Op) : PC Tryz.prog 42 [encO a, encO b] (.bool (Gw.Stamp.less a.at_ b.at_)) := by
  have h := less_pc a.at_ b.at_
  refine PC.of tabOk mixed (fn := Tryz.f42) (by kernel_rfl) rfl (by kernel_rfl) rfl rfl ?_
  conv => whnf
  refine AC.of_pc h rfl ?_
  conv => whnf

def cellsO (o : Gw.Op.Op) : List V := [.int .i64 o.at_.c, .int .i64 o.at_.r, .int .i64 o.kind, .int .i64 o.node, .int .i64 o.parent, .str o.name, .str o.data]
def encOs (l : List Gw.Op.Op) : List (List V) := l.map cellsO
theorem encOs_get {l : List Gw.Op.Op} {k : Nat} (hk : k < l.length) : (encOs l)[k]? = some (cellsO l[k]) := by unfold encOs; rw [List.getElem?_map, List.getElem?_eq_getElem hk]; rfl
theorem encOs_len (l : List Gw.Op.Op) : (encOs l).length = l.length := by simp [encOs]
end Go.Proofs.YtipgfdepopfghaaGreat


namespace Go.Proofs.YtipgfdepopfghaaGreat
open Go.Am

def cellsN (n : Gw.Tree.Node) : List V := [.int .i64 n.id, .int .i64 n.parent, .str n.name, .int .i64 n.moved.c, .int .i64 n.moved.r, .str n.data, .int .i64 n.wrote.c, .int .i64 n.wrote.r]
def encN (l : List Gw.Tree.Node) : List (List V) := l.map cellsN
theorem encN_len (l : List Gw.Tree.Node) : (encN l).length = l.length := List.length_map _
theorem encN_get {l : List Gw.Tree.Node} {k : Nat} (h : k < l.length) : (encN l)[k]? = some (cellsN l[k]) := by unfold encN; rw [List.getElem?_map, List.getElem?_eq_getElem h]; rfl
theorem treeCheck_pc (nil : Bool) (l : List Gw.Tree.Node) (hi : ∀ n ∈ l, I64 n.id) (hl : l.length ≤ 1048576) : PC Tryz.prog 45 [.lst nil 8 (encN l) .none] (.bool (Gw.Tree.check l)) := by
  have hel := encN_len l
  refine PC.of tabOk mixed (fn := Tryz.f45) (by kernel_rfl) rfl (by kernel_rfl) rfl rfl ?_
  conv => whnf
  refine AW.loop (fun k : Nat => [(.tmp 0, .v (.lst nil 8 (encN l) .none)), (.tmp 8, .v (.lst nil 8 (encN l) .none)), (.tmp 9, .v (.int .i64 l.length)), (.tmp 10, .v (.int .i64 k))]) 0 (fun k => k ≤ l.length ∧ ∀ j, j < k → Gw.Tree.mayAt l j = true) (fun k => l.length - k) (by decide) 0 ⟨Nat.zero_le _, fun j h => by omega⟩ ⟨rfl, rfl, rfl, rfl, ?_, rfl, rfl, rfl, trivial⟩ ?_
  · show C.v (V.int .i64 (encN l).length) = _
    rw [hel]
  rintro k ⟨hk, hall⟩
  refine ev_sound tabOk mixed _ _ _ _ ?_
  conv => whnf
  refine ⟨fun h1 => ?_, fun h1 => ?_⟩
  · have h1 := of_decide_eq_true h1
    have hlt : k < l.length := by omega
    have hg := encN_get hlt
    conv => whnf
    refine ⟨_, ⟨by omega, hg⟩, ?_⟩
    have hid := hi _ (List.getElem_mem hlt)
    conv => whnf
    refine AC.of_pc (of_pc _ hid) rfl ?_
    have hmk : Gw.Tree.mayAt l k = (Gw.Stamp.ok l[k].id && Gw.Tree.prevOk l l[k].id k) := by unfold Gw.Tree.mayAt; rw [List.getElem?_eq_getElem hlt]
    have hbad : Gw.Tree.mayAt l k = false → Gw.Tree.check l = false := fun h => by
      rw [Bool.eq_false_iff]
      intro hc
      have := List.all_eq_true.1 hc k (List.mem_range.2 hlt)
      rw [h] at this; cases this
    have hwk : IntKind.i64.wrap ((k : Int) + 1) = ((k + 1 : Nat) : Int) := by rw [w64 (by omega) (by omega)]; rfl
    have hnext : Gw.Tree.mayAt l k = true → ∀ j, j < k + 1 → Gw.Tree.mayAt l j = true := fun h j hj => by
      by_cases e : j = k
      · subst e; exact h
      · exact hall j (by omega)
    generalize l[k] = nd at *
    generalize Gw.Stamp.ok nd.id = q at *
    generalize Gw.Stamp.of nd.id = st at *
    generalize Gw.Stamp.file nd.id = fl at *
    cases q with
    | false =>
      rw [hbad (by rw [hmk]; rfl)]
      conv => whnf
      repeat (first | refine ⟨fun _ => ?_, fun h => absurd h (by decide)⟩ | refine ⟨fun h => absurd h (by decide), fun _ => ?_⟩ | refine ⟨fun _ => ?_, fun h => absurd (show true = false from h) (by decide)⟩ | refine ⟨fun h => absurd (show false = true from h) (by decide), fun _ => ?_⟩
              (conv => whnf))
      refine ⟨by kernel_rfl, ?_⟩
      conv => whnf
    | true =>
    rw [Bool.true_and] at hmk
    cases k with
    | zero =>
      conv => whnf
      repeat (first | refine ⟨fun _ => ?_, fun h => absurd h (by decide)⟩ | refine ⟨fun h => absurd h (by decide), fun _ => ?_⟩ | refine ⟨fun _ => ?_, fun h => absurd (show true = false from h) (by decide)⟩ | refine ⟨fun h => absurd (show false = true from h) (by decide), fun _ => ?_⟩
              (conv => whnf))
      refine ⟨by kernel_rfl, ?_⟩
      conv => whnf
      refine ⟨1, ⟨hlt, hnext (by rw [hmk]; rfl)⟩, by show l.length - 1 < l.length - 0; omega, rfl, rfl, rfl, rfl, rfl, rfl, rfl, rfl, trivial⟩
    | succ j =>
      have hg2 := encN_get (show j < l.length by omega)
      have hpr : Gw.Tree.mayAt l (j + 1) = decide (l[j].id < nd.id) := by rw [hmk]; show (match l[j]? with | none => false | some p => decide (p.id < nd.id)) = _; rw [List.getElem?_eq_getElem (show j < l.length by omega)]
      have hwj : IntKind.i64.wrap (((j + 1 : Nat) : Int) - 1) = (j : Int) := by rw [w64 (by omega) (by omega)]; omega
      conv => whnf
      repeat (first | refine ⟨fun h => absurd h (by decide), fun _ => ?_⟩
                    | refine ⟨fun _ => ?_, fun h => absurd h (by decide)⟩
                    | refine ⟨fun _ => ?_, fun h => absurd h (by simp; first | done | omega | fail "x")⟩
                    | fail "end"
              (conv => whnf))
      rw [hwj]
      refine ⟨_, ⟨by omega, hg2⟩, ?_⟩
      generalize l[j] = pd at *
      conv => whnf
      refine ⟨by kernel_rfl, ?_⟩
      conv => whnf
      refine ⟨fun h => ?_, fun h => ?_⟩
      · have h := of_decide_eq_true h
        rw [hbad (by rw [hpr]; exact decide_eq_false (by omega))]
        conv => whnf
      · have h := of_decide_eq_false h
        conv => whnf
        refine ⟨j + 2, ⟨by omega, hnext (by rw [hpr]; exact decide_eq_true (by omega))⟩, by show l.length - (j + 2) < l.length - (j + 1); omega, rfl, rfl, rfl, rfl, rfl, rfl, ?_, rfl, trivial⟩
        show C.v (V.int .i64 (IntKind.i64.wrap (((j + 1 : Nat) : Int) + 1))) = _
        rw [hwk]
  · have h1 := of_decide_eq_false h1
    have hck : Gw.Tree.check l = true := List.all_eq_true.2 fun j hj => hall j (by have := List.mem_range.1 hj; omega)
    rw [hck]
    conv => whnf
end Go.Proofs.YtipgfdepopfghaaGreat


namespace Go.Proofs.YtipgfdepopfghaaGreat
open Go.Am

theorem isNaN_pc (x : Int) : PC Tryz.prog 107 [.int .i64 x] (.bool false) := by
  refine PC.of tabOk mixed (fn := Tryz.f107) (by kernel_rfl) rfl (by kernel_rfl) rfl rfl ?_
  conv => whnf
  simp
def cmpI (a b : Int) : Int := if a < b then -1 else if b < a then 1 else 0
theorem cmpInt_pc (a b : Int) : PC Tryz.prog 78 [.int .i64 a, .int .i64 b] (.int .i64 (cmpI a b)) := by
  unfold cmpI
  have hn := isNaN_pc
  refine PC.of tabOk mixed (fn := Tryz.f78) (by kernel_rfl) rfl (by kernel_rfl) rfl rfl ?_
  conv => whnf
  refine AC.of_pc (hn a) rfl ?_
  conv => whnf
  refine AC.of_pc (hn b) rfl ?_
  conv => whnf
  repeat (first | refine ⟨fun _ => ?_, fun h => absurd h (by decide)⟩ | refine ⟨fun h => absurd h (by decide), fun _ => ?_⟩ | refine ⟨fun _ => ?_, fun h => absurd (show true = false from h) (by decide)⟩ | refine ⟨fun h => absurd (show false = true from h) (by decide), fun _ => ?_⟩
          (conv => whnf))
  refine ⟨fun h => ?_, fun h => ?_⟩
  · rw [if_pos (of_decide_eq_true h)]
    conv => whnf
  · have h := of_decide_eq_false h
    rw [if_neg h]
    conv => whnf
    refine ⟨fun h2 => ?_, fun h2 => ?_⟩
    · rw [if_pos (of_decide_eq_true h2)]
      conv => whnf
    · rw [if_neg (of_decide_eq_false h2)]
      conv => whnf
theorem placeCmp_pc (n : Gw.Tree.Node) (id : Int) : PC Tryz.prog 77 [.agg (cellsN n), .int .i64 id] (.int .i64 (cmpI n.id id)) := by
  have hc := cmpInt_pc n.id id
  refine PC.of tabOk mixed (fn := Tryz.f77) (by kernel_rfl) rfl (by kernel_rfl) rfl rfl ?_
  conv => whnf
  refine AC.of_pc hc rfl ?_
  conv => whnf
theorem bsearch_pc (nil : Bool) (l : List Gw.Tree.Node) (id : Int) (hl : l.length ≤ 1048576) (hc : Gw.Tree.check l = true) :
    PC Tryz.prog 76 [.lst nil 8 (encN l) .none, .int .i64 id, .func 77 [] []] (.tup [.int .i64 (Gw.Tree.pos l id : Nat), .bool (Gw.Tree.had l id)]) := by
  have hel := encN_len l
  refine PC.of tabOk mixed (fn := Tryz.f76) (by kernel_rfl) rfl (by kernel_rfl) rfl rfl ?_
  conv => whnf
  refine AW.loop (X := Nat × Nat) (fun x => [(.tmp 0, .v (.lst nil 8 (encN l) .none)), (.tmp 1, .v (.int .i64 id)), (.tmp 2, .v (.func 77 [] [])), (.tmp 8, .v (.int .i64 l.length)), (.tmp 9, .v (.int .i64 x.1)), (.tmp 10, .v (.int .i64 x.2))]) 0
    (fun x => x.1 ≤ x.2 ∧ x.2 ≤ l.length ∧ (∀ k (hk : k < l.length), k < x.1 → l[k].id < id) ∧ (∀ k (hk : k < l.length), x.2 ≤ k → id ≤ l[k].id)) (fun x => x.2 - x.1) (by decide) (0, l.length) ⟨Nat.zero_le _, Nat.le_refl _, (fun k _ h => absurd h (Nat.not_lt_zero k)), (fun k h1 h2 => absurd h1 (by have : l.length ≤ k := h2; omega))⟩ ⟨rfl, rfl, rfl, rfl, rfl, rfl, ?_, rfl, rfl, rfl, ?_, rfl, trivial⟩ ?_
  · show C.v (V.int .i64 (encN l).length) = _
    rw [hel]
  · show C.v (V.int .i64 (encN l).length) = _
    rw [hel]
  rintro ⟨i, j⟩ ⟨h1, h2, h3, h4⟩
  simp only at h1 h2 h3 h4
  dsimp only
  refine ev_sound tabOk mixed _ _ _ _ ?_
  conv => whnf
  refine ⟨fun h => ?_, fun h => ?_⟩
  · have h := of_decide_eq_true h
    conv => whnf
    refine ⟨by decide, ?_⟩
    have e1 : IntKind.i64.wrap ((IntKind.u64.wrap (IntKind.i64.wrap ((i : Int) + j))).fdiv (2 ^ min (Int.toNat 1) IntKind.u64.bits)) = (((i + j) / 2 : Nat) : Int) := by
      have q1 : IntKind.i64.wrap ((i : Int) + j) = ((i + j : Nat) : Int) := by rw [w64 (by omega) (by omega)]; rfl
      have q2 : IntKind.u64.wrap ((i + j : Nat) : Int) = ((i + j : Nat) : Int) := by rw [IntKind.wrap_u64]; omega
      rw [q1, q2, show (2 : Int) ^ min (Int.toNat 1) IntKind.u64.bits = 2 from rfl, Int.fdiv_eq_ediv_of_nonneg _ (by decide), w64 (by omega) (by omega)]
      omega
    have hh : (i + j) / 2 < l.length := by omega
    have hg := encN_get hh
    conv => whnf
    rw [e1]
    generalize hm : (i + j) / 2 = q at *
    refine ⟨_, ⟨by omega, hg⟩, ?_⟩
    have hp := placeCmp_pc l[q] id
    have w1 : IntKind.i64.wrap ((q : Int) + 1) = ((q + 1 : Nat) : Int) := by rw [w64 (by omega) (by omega)]; rfl
    conv => whnf
    refine AC.of_pc hp rfl ?_
    conv => whnf
    refine ⟨fun h5 => ?_, fun h5 => ?_⟩
    · have h5 : l[q].id < id := by
        have h5 := of_decide_eq_true h5
        unfold cmpI at h5
        split at h5
        · assumption
        · split at h5 <;> omega
      conv => whnf
      refine ⟨(q + 1, j), ⟨by show q + 1 ≤ j; omega, h2, fun k hk h6 => ?_, h4⟩, by show j - (q + 1) < j - i; omega, rfl, rfl, rfl, rfl, rfl, rfl, rfl, rfl, ?_, rfl, rfl, rfl, trivial⟩
      · have h6 : k < q + 1 := h6
        by_cases e : k = q
        · subst e; exact h5
        · have := Gw.Tree.check_lt hc (show k < q by omega) hh; omega
      · show C.v (V.int .i64 (IntKind.i64.wrap ((q : Int) + 1))) = _
        rw [w1]
    · have h5 : id ≤ l[q].id := by
        have h5 := of_decide_eq_false h5
        unfold cmpI at h5
        split at h5
        · omega
        · omega
      conv => whnf
      refine ⟨(i, q), ⟨by show i ≤ q; omega, by show q ≤ l.length; omega, h3, fun k hk h6 => ?_⟩, by show q - i < j - i; omega, rfl, rfl, rfl, rfl, rfl, rfl, rfl, rfl, rfl, rfl, rfl, rfl, trivial⟩
      have h6 : q ≤ k := h6
      by_cases e : q = k
      · subst e; exact h5
      · have := Gw.Tree.check_lt hc (show q < k by omega) hk; omega
  · have h := of_decide_eq_false h
    have hij : i = j := by omega
    subst hij
    have hpos := Gw.Tree.pos_of h2 h3 h4
    conv => whnf
    refine ⟨fun h => ?_, fun h => ?_⟩
    · have h := of_decide_eq_true h
      have hlt : i < l.length := by omega
      have hg := encN_get hlt
      have hp := placeCmp_pc l[i] id
      have hd : Gw.Tree.had l id = decide (l[i].id = id) := by
        unfold Gw.Tree.had
        rw [← hpos, List.getElem?_eq_getElem hlt]
      conv => whnf
      refine ⟨_, ⟨by omega, hg⟩, ?_⟩
      conv => whnf
      refine AC.of_pc hp rfl ?_
      conv => whnf
      rw [hd, ← hpos]
      congr 3
      unfold cmpI
      rw [V.bool.injEq, Bool.eq_iff_iff, beq_iff_eq, decide_eq_true_eq]
      split
      · omega
      · split <;> omega
    · have h := of_decide_eq_false h
      conv => whnf
      have hd : Gw.Tree.had l id = false := by
        unfold Gw.Tree.had
        rw [← hpos, List.getElem?_eq_none (by omega)]
      rw [hd, ← hpos]
theorem place_pc (nil : Bool) (l : List Gw.Tree.Node) (id : Int) (hl : l.length ≤ 1048576) (hc : Gw.Tree.check l = true) : PC Tryz.prog 55 [.lst nil 8 (encN l) .none, .int .i64 id] (.tup [.int .i64 (Gw.Tree.pos l id : Nat), .bool (Gw.Tree.had l id)]) := by
  have hb := bsearch_pc nil l id hl hc
  refine PC.of tabOk mixed (fn := Tryz.f55) (by kernel_rfl) rfl (by kernel_rfl) rfl rfl ?_
  conv => whnf
  refine AC.of_pc hb rfl ?_
  conv => whnf
end Go.Proofs.YtipgfdepopfghaaGreat


namespace Go.Proofs.YtipgfdepopfghaaGreat
open Go.Am

def encZ (l : List Int) : List (List V) := l.map fun z => [.int .i64 z]
theorem encZ_len (l : List Int) : (encZ l).length = l.length := by simp [encZ]
theorem encZ_get {l : List Int} {k : Nat} (h : k < l.length) : (encZ l)[k]? = some [.int .i64 l[k]] := by unfold encZ; rw [List.getElem?_map, List.getElem?_eq_getElem h]; rfl
theorem encZ_add (l : List Int) (z : Int) : encZ l ++ [[V.int .i64 z]] = encZ (l ++ [z]) := by simp [encZ]
theorem index_pc (nil : Bool) (l : List Int) (z : Int) (hl : l.length ≤ 1048576) : ∃ r : Int, (0 ≤ r ↔ l.contains z = true) ∧ PC Tryz.prog 75 [.lst nil 1 (encZ l) .none, .int .i64 z] (.int .i64 r) := by
  have hel := encZ_len l
  refine ⟨(l.findIdx? (fun x => decide (z = x))).elim (-1) (fun k => (k : Int)), ?_, ?_⟩
  · cases h : l.findIdx? (fun x => decide (z = x)) with
    | none =>
      rw [List.findIdx?_eq_none_iff] at h
      simp only [Option.elim]
      constructor
      · intro h2; omega
      · intro h2
        have := h z (by simpa using h2)
        simp at this
    | some k =>
      simp only [Option.elim]
      rw [List.findIdx?_eq_some_iff_getElem] at h
      obtain ⟨hk, h1, _⟩ := h
      have h1 := of_decide_eq_true h1
      constructor
      · intro _
        rw [List.contains_iff_mem]
        exact List.mem_iff_getElem.2 ⟨k, hk, h1.symm⟩
      · intro _; omega
  refine PC.of tabOk mixed (fn := Tryz.f75) (by kernel_rfl) rfl (by kernel_rfl) rfl rfl ?_
  conv => whnf
  refine AW.loop (fun k : Nat => [(.tmp 0, .v (.lst nil 1 (encZ l) .none)), (.tmp 1, .v (.int .i64 z)), (.tmp 7, .v (.int .i64 l.length)), (.tmp 8, .v (.int .i64 k))]) 0
    (fun k => k ≤ l.length ∧ ∀ j (hj : j < l.length), j < k → z ≠ l[j]) (fun k => l.length - k) (by decide) 0 ⟨Nat.zero_le _, fun j _ h => absurd h (Nat.not_lt_zero j)⟩ ⟨rfl, rfl, rfl, rfl, ?_, rfl, rfl, rfl, trivial⟩ ?_
  · show C.v (V.int .i64 (encZ l).length) = _
    rw [hel]
  rintro k ⟨h1, h2⟩
  refine ev_sound tabOk mixed _ _ _ _ ?_
  conv => whnf
  refine ⟨fun h => ?_, fun h => ?_⟩
  · have h := of_decide_eq_true h
    have hlt : k < l.length := by omega
    have hg := encZ_get hlt
    conv => whnf
    refine ⟨_, ⟨by omega, hg⟩, ?_⟩
    conv => whnf
    refine ⟨fun h3 => ?_, fun h3 => ?_⟩
    · have h3 : z = l[k] := by simpa using h3
      have e : l.findIdx? (fun x => decide (z = x)) = some k := by
        rw [List.findIdx?_eq_some_iff_getElem]
        exact ⟨hlt, by simpa using h3, fun j hj => by simpa using h2 j (by omega) hj⟩
      rw [e]
      conv => whnf
      rfl
    · have h3 : z ≠ l[k] := by simpa using h3
      conv => whnf
      refine ⟨k + 1, ⟨by omega, fun j hj hjk => ?_⟩, by show l.length - (k + 1) < l.length - k; omega, rfl, rfl, rfl, rfl, rfl, rfl, ?_, rfl, trivial⟩
      · by_cases e : j = k
        · subst e; exact h3
        · exact h2 j hj (by omega)
      · show C.v (V.int .i64 (IntKind.i64.wrap ((k : Int) + 1))) = _
        rw [w64 (by omega) (by omega)]; rfl
  · have h := of_decide_eq_false h
    have e : l.findIdx? (fun x => decide (z = x)) = none := by
      rw [List.findIdx?_eq_none_iff]
      intro x hx
      obtain ⟨j, hj, rfl⟩ := List.getElem_of_mem hx
      simpa using h2 j hj (by omega)
    rw [e]
    conv => whnf
    rfl
theorem contains_pc (nil : Bool) (l : List Int) (z : Int) (hl : l.length ≤ 1048576) : PC Tryz.prog 53 [.lst nil 1 (encZ l) .none, .int .i64 z] (.bool (l.contains z)) := by
  obtain ⟨r, h1, h2⟩ := index_pc nil l z hl
  refine PC.of tabOk mixed (fn := Tryz.f53) (by kernel_rfl) rfl (by kernel_rfl) rfl rfl ?_
  conv => whnf
  refine AC.of_pc h2 rfl ?_
  conv => whnf
  congr 1
  rw [Bool.eq_iff_iff, decide_eq_true_eq]
  exact h1
theorem tabove_pc (nil : Bool) (l : List Gw.Tree.Node) (id : Int) (hl : l.length ≤ 1048576) (hc : Gw.Tree.check l = true) :
    PC Tryz.prog 54 [.lst nil 8 (encN l) .none, .int .i64 id] (.lst (decide (Gw.Tree.climb l l.length id = [])) 1 (encZ (Gw.Tree.climb l l.length id)) .none) := by
  have hel := encN_len l
  have hpl := fun z => place_pc nil l z hl hc
  refine PC.ofS tabOk mixed (fn := Tryz.f54) (by kernel_rfl) rfl (by kernel_rfl) rfl rfl ?_
  conv => whnf
  refine AW.row 5 3 1 rfl rfl (.inr rfl) ?_
  refine AW.loop (X := List Int × Int) (fun x => [(.tmp 0, .v (.lst nil 8 (encN l) .none)), (.tmp 1, .v (.int .i64 x.2)), (.tmp 5, .v (.lst (decide (x.1 = [])) 1 (encZ x.1) (.row 2))), (.row 2, .row 3 1 x.1.length)]) 3
    (fun x => x.1.length ≤ l.length ∧ Gw.Tree.climb l l.length id = x.1 ++ Gw.Tree.climb l (l.length - x.1.length) x.2) (fun x => l.length - x.1.length) (by decide) ([], id) ⟨Nat.zero_le _, by rw [List.nil_append, List.length_nil, Nat.sub_zero]⟩ ⟨rfl, rfl, rfl, rfl, rfl, rfl, rfl, rfl, trivial⟩ ?_
  rintro ⟨acc, z⟩ ⟨h1, h2⟩
  simp only at h1 h2
  dsimp only
  have hal := encZ_len acc
  refine ev_sound tabOk mixed _ _ _ _ ?_
  conv => whnf
  rw [hal, hel]
  refine ⟨fun h => ?_, fun h => ?_⟩
  · have h := of_decide_eq_true h
    have hlt : acc.length < l.length := by omega
    obtain ⟨f, hf⟩ : ∃ f, l.length - acc.length = f + 1 := ⟨l.length - acc.length - 1, by omega⟩
    rw [hf, Gw.Tree.climb] at h2
    have hhd := Gw.Tree.had_find l z
    conv => whnf
    refine AC.of_pc (hpl z) rfl ?_
    cases hfd : Gw.Tree.find l z with
    | none =>
      rw [hfd] at h2 hhd
      simp only [List.append_nil] at h2
      rw [h2, hhd]
      conv => whnf
      repeat (first | refine ⟨fun _ => ?_, fun h => absurd h (by decide)⟩ | refine ⟨fun h => absurd h (by decide), fun _ => ?_⟩ | refine ⟨fun _ => ?_, fun h => absurd (show true = false from h) (by decide)⟩ | refine ⟨fun h => absurd (show false = true from h) (by decide), fun _ => ?_⟩
              (conv => whnf))
      exact SubV.refl _
    | some nd =>
      rw [hfd] at h2 hhd
      simp only at h2
      obtain ⟨_, _, hp, hnd⟩ := Gw.Tree.find_some hfd
      have hg := encN_get hp
      rw [hnd] at hg
      rw [hhd, Option.isSome_some]
      conv => whnf
      refine ⟨fun h => absurd h (by decide), fun _ => ?_⟩
      conv => whnf
      refine ⟨_, ⟨by omega, hg⟩, ?_⟩
      conv => whnf
      refine ⟨fun h => ?_, fun h => ?_⟩
      · have h : nd.parent = -1 := by simpa using h
        rw [if_pos h, List.append_nil] at h2
        rw [h2]
        conv => whnf
        exact SubV.refl _
      · have h : nd.parent ≠ -1 := by simpa using h
        rw [if_neg h] at h2
        conv => whnf
        refine ⟨_, ⟨by omega, hg⟩, ?_⟩
        conv => whnf
        refine ⟨⟨hal.symm, fits_small (by show (encZ acc).length + 1 ≤ _; omega) (by decide)⟩, ?_⟩
        conv => whnf
        refine ⟨(acc ++ [nd.parent], nd.parent), ⟨by show (acc ++ [nd.parent]).length ≤ _; rw [List.length_append, List.length_singleton]; omega, ?_⟩, by show l.length - (acc ++ [nd.parent]).length < l.length - acc.length; rw [List.length_append, List.length_singleton]; omega, rfl, rfl, rfl, rfl, ?_, rfl, ?_, rfl, trivial⟩
        · show _ = (acc ++ [nd.parent]) ++ Gw.Tree.climb l (l.length - (acc ++ [nd.parent]).length) nd.parent
          rw [h2, List.append_assoc, List.length_append, List.length_singleton, show l.length - (acc.length + 1) = f by omega]
          rfl
        · show C.v (V.lst (decide (acc = []) && false) 1 (encZ acc ++ [[V.int .i64 nd.parent]]) _) = C.v (V.lst (decide (acc ++ [nd.parent] = [])) 1 (encZ (acc ++ [nd.parent])) _)
          rw [Bool.and_false, decide_eq_false (by simp), encZ_add]
        · show C.row _ 1 ((encZ acc).length + 1) = C.row _ 1 (acc ++ [nd.parent]).length
          rw [hal, List.length_append]
          rfl
  · have h := of_decide_eq_false h
    rw [show l.length - acc.length = 0 by omega, Gw.Tree.climb, List.append_nil] at h2
    rw [h2]
    conv => whnf
    exact SubV.refl _
theorem tAbove_pc (nil : Bool) (l : List Gw.Tree.Node) (id : Int) (hi : ∀ n ∈ l, I64 n.id) (hl : l.length ≤ 1048576) :
    PC Tryz.prog 46 [.lst nil 8 (encN l) .none, .int .i64 id] (.lst (decide (Gw.Tree.above l id = [])) 1 (encZ (Gw.Tree.above l id)) .none) := by
  have hck := treeCheck_pc nil l hi hl
  have hab := tabove_pc nil l id hl
  unfold Gw.Tree.above
  refine PC.ofS tabOk mixed (fn := Tryz.f46) (by kernel_rfl) rfl (by kernel_rfl) rfl rfl ?_
  conv => whnf
  refine AC.of_pc hck rfl ?_
  cases hc : Gw.Tree.check l with
  | false =>
    conv => whnf
    repeat (first | refine ⟨fun _ => ?_, fun h => absurd h (by decide)⟩ | refine ⟨fun h => absurd h (by decide), fun _ => ?_⟩ | refine ⟨fun _ => ?_, fun h => absurd (show true = false from h) (by decide)⟩ | refine ⟨fun h => absurd (show false = true from h) (by decide), fun _ => ?_⟩
            (conv => whnf))
    exact SubV.nil _ _ _
  | true =>
    rw [if_pos rfl]
    conv => whnf
    repeat (first | refine ⟨fun _ => ?_, fun h => absurd h (by decide)⟩ | refine ⟨fun h => absurd h (by decide), fun _ => ?_⟩ | refine ⟨fun _ => ?_, fun h => absurd (show true = false from h) (by decide)⟩ | refine ⟨fun h => absurd (show false = true from h) (by decide), fun _ => ?_⟩
            (conv => whnf))
    refine AC.of_pc (hab hc) rfl ?_
    conv => whnf
    exact SubV.refl _
end Go.Proofs.YtipgfdepopfghaaGreat


namespace Go.Proofs.YtipgfdepopfghaaGreat
open Go.Am

theorem cellsN_len (n : Gw.Tree.Node) : (cellsN n).length = 8 := rfl
theorem encN_sz (l : List Gw.Tree.Node) : ∀ el ∈ encN l, el.length = 8 := fun el h => by
  obtain ⟨n, _, rfl⟩ := List.mem_map.1 h
  rfl
theorem flatN_len (l : List Gw.Tree.Node) : (encN l).flatten.length = l.length * 8 := by
  induction l with
  | nil => rfl
  | cons n l ih => show (cellsN n ++ (encN l).flatten).length = _; rw [List.length_append, ih, cellsN_len, List.length_cons]; omega
theorem flatN_app (l m : List Gw.Tree.Node) : (encN (l ++ m)).flatten = (encN l).flatten ++ (encN m).flatten := by unfold encN; rw [List.map_append, List.flatten_append]
theorem flatN_one (l : List Gw.Tree.Node) : oneAll (encN l).flatten = true := by
  induction l with
  | nil => rfl
  | cons n l ih => exact ih
theorem encN_take (l : List Gw.Tree.Node) (k : Nat) : (encN l).take k = encN (l.take k) := by unfold encN; rw [List.map_take]
theorem encN_drop (l : List Gw.Tree.Node) (k : Nat) : (encN l).drop k = encN (l.drop k) := by unfold encN; rw [List.map_drop]
theorem copy_mid {X S Z : List V} {x s y : Nat} (hx : X.length = x) (hs : S.length = s) (hy : y = x + s) : List.take x (X ++ Z) ++ List.take s S ++ List.drop y (X ++ Z) = X ++ S ++ Z.drop s := by
  subst hx hs hy
  rw [List.take_left', List.take_length, List.drop_append, List.drop_of_length_le (by omega), List.nil_append]
  · congr 2; omega
  · rfl
theorem lay_flat (l others : List Gw.Tree.Node) (i u : Nat) (hi : i ≤ u) (hu : u ≤ l.length) : (encN (l.take i ++ others ++ l.drop u)).flatten = (encN (l.take i)).flatten ++ (encN others).flatten ++ (encN (l.drop u)).flatten ∧
    (encN (l.take i ++ others ++ l.drop u)).length = i + others.length + (l.length - u) ∧ (encN (l.take i ++ others ++ l.drop u)).flatten.length = (i + others.length + (l.length - u)) * 8 := by
  have h : (l.take i ++ others ++ l.drop u).length = i + others.length + (l.length - u) := by rw [List.length_append, List.length_append, List.length_take, List.length_drop]; omega
  exact ⟨by rw [flatN_app, flatN_app], by rw [encN_len, h], by rw [flatN_len, h]⟩
theorem lay_pc (n1 n2 : Bool) (l others : List Gw.Tree.Node) (i u : Nat) (hi : i ≤ u) (hu : u ≤ l.length) (hl : l.length ≤ 1048576) (ho : others.length ≤ 1) :
    PC Tryz.prog 56 [.lst n1 8 (encN l) .none, .int .i64 i, .int .i64 u, .lst n2 8 (encN others) .none] (.lst false 8 (encN (l.take i ++ others ++ l.drop u)) .none) := by
  have hel := encN_len l
  have heo := encN_len others
  have e1 : IntKind.i64.wrap (IntKind.i64.wrap (IntKind.i64.wrap ((i : Int) + others.length) + l.length) - (u : Int)) = ((i + others.length + (l.length - u) : Nat) : Int) := by
    rw [w64 (x := (i : Int) + others.length) (by omega) (by omega), w64 (x := (i : Int) + others.length + l.length) (by omega) (by omega), w64 (by omega) (by omega)]; omega
  obtain ⟨hall, hn, hlen⟩ := lay_flat l others i u hi hu
  have hone := flatN_one (l.take i ++ others ++ l.drop u)
  have hsz := encN_sz (l.take i ++ others ++ l.drop u)
  refine PC.of tabOk mixed (fn := Tryz.f56) (by kernel_rfl) rfl (by kernel_rfl) rfl rfl ?_
  conv => whnf
  rw [hel, heo, e1]
  refine ⟨⟨by omega, rfl, fits_small (by rw [Int.toNat_natCast]; omega) (by decide)⟩, ?_⟩
  conv => whnf
  refine ⟨by rw [hel]; omega, ?_⟩
  conv => whnf
  generalize hN : i + others.length + (l.length - u) = N at *
  generalize hZ : repl (N : Int).toNat _ = Z
  have hZl : Z.length = N * 8 := by rw [← hZ, repl_len]; rfl
  refine ⟨by omega, ?_⟩
  conv => whnf
  have m1 : min (List.take (i : Int).toNat (encN l)).length (N : Int).toNat = i := by rw [List.length_take, Int.toNat_natCast, Int.toNat_natCast, hel]; omega
  rw [m1]
  refine ⟨⟨by omega, by omega⟩, ?_⟩
  conv => whnf
  have hA := flatN_len (l.take i)
  have hB := flatN_len others
  have hC := flatN_len (l.drop u)
  rw [List.length_take] at hA
  rw [List.length_drop] at hC
  have q0 : List.take (i : Int).toNat (encN l) = encN (l.take i) := by rw [Int.toNat_natCast, encN_take]
  have q0' : List.drop (u : Int).toNat (encN l) = encN (l.drop u) := by rw [Int.toNat_natCast, encN_drop]
  rw [q0]
  generalize hAe : (encN (l.take i)).flatten = A at *
  generalize hBe : (encN others).flatten = B at *
  have q1 : List.take 0 Z ++ List.take (i * 8) A ++ List.drop (0 + i * 8) Z = A ++ Z.drop (i * 8) := by
    rw [List.take_zero, List.nil_append, Nat.zero_add, List.take_of_length_le (by omega)]
  rw [q1]
  have m2 : min (encN others).length ((N : Int).toNat - (i : Int).toNat) = others.length := by rw [heo, Int.toNat_natCast, Int.toNat_natCast]; omega
  have m3 : IntKind.i64.wrap ((i : Int) + (others.length : Nat)) = ((i + others.length : Nat) : Int) := by rw [w64 (by omega) (by omega)]; rfl
  refine ⟨by rw [List.length_append, List.length_drop, hZl]; omega, ?_⟩
  conv => whnf
  rw [m2, m3, copy_mid (by rw [hA]; omega) hB (by omega)]
  have hRl : (List.drop (others.length * 8) (List.drop (i * 8) Z)).length = (l.length - u) * 8 := by rw [List.length_drop, List.length_drop]; omega
  generalize hRe : List.drop (others.length * 8) (List.drop (i * 8) Z) = R at *
  refine ⟨⟨by omega, by omega⟩, ?_⟩
  conv => whnf
  refine ⟨by rw [hel]; omega, ?_⟩
  conv => whnf
  refine ⟨by rw [List.length_append, List.length_append]; omega, ?_⟩
  conv => whnf
  rw [q0']
  have m4 : min (encN (l.drop u)).length ((N : Int).toNat - ((i + others.length : Nat) : Int).toNat) = l.length - u := by rw [encN_len, List.length_drop, Int.toNat_natCast, Int.toNat_natCast]; omega
  rw [m4, copy_mid (by rw [List.length_append]; omega) hC (by omega), List.drop_of_length_le (l := R) (by omega), List.append_nil]
  refine ⟨by kernel_rfl, ?_⟩
  conv => whnf
  clear hA hB hC m1 m2 m3 m4 q0 q0' hRl hRe hZ hZl
  rw [← hall]
  generalize encN (l.take i ++ others ++ l.drop u) = E at *
  refine .mem rfl hn hsz (Nat.le_of_eq (by show 0 + N * 8 = _; rw [hlen, Nat.zero_add])) ?_ hone
  show List.take (N * 8) E.flatten = _
  rw [← hlen, List.take_length]
end Go.Proofs.YtipgfdepopfghaaGreat


namespace Go.Proofs.YtipgfdepopfghaaGreat
open Go.Am

def encU (u : Gw.Tree.Undo) : V := .agg (.bool u.did :: .bool u.had :: cellsN u.was)
theorem same_pc (nil : Bool) (l : List Gw.Tree.Node) (hl : l.length ≤ 1048576) : PC Tryz.prog 51 [.lst nil 8 (encN l) .none] (.lst false 8 (encN l) .none) := by
  have hel := encN_len l
  have hlay := lay_pc nil true l [] l.length l.length (Nat.le_refl _) (Nat.le_refl _) hl (Nat.zero_le _)
  rw [List.take_length, List.drop_length, List.append_nil, List.append_nil] at hlay
  have hlay := hlay.args (args' := [.lst nil 8 (encN l) .none, .int .i64 (l.length : Nat), .int .i64 (l.length : Nat), .lst true 1 [] .none]) (.cons (.refl _) (.cons (.refl _) (.cons (.refl _) (.cons (.nil _ _ _) .nil))))
  refine PC.of tabOk mixed (fn := Tryz.f51) (by kernel_rfl) rfl (by kernel_rfl) rfl rfl ?_
  conv => whnf
  rw [hel]
  refine AC.of_pc hlay rfl ?_
  conv => whnf
theorem do_pc (nil : Bool) (l : List Gw.Tree.Node) (o : Gw.Op.Op) (hi : ∀ n ∈ l, I64 n.id) (hl : l.length ≤ 1000000) (hf : Fine o) :
    PC Tryz.prog 26 [.lst nil 8 (encN l) .none, encO o] (.tup [.lst false 8 (encN (Gw.Tree.done l o)) .none, encU (Gw.Tree.undo l o)]) := by
  have hel := encN_len l
  have hck := treeCheck_pc nil l hi (by omega)
  have hoc := opCheck_pc o hf
  have hsm := same_pc nil l (by omega)
  refine PC.of tabOk mixed (fn := Tryz.f26) (by kernel_rfl) rfl (by kernel_rfl) rfl rfl ?_
  have hmd : Gw.Tree.may l o = (Gw.Tree.check l && (Gw.Op.check o && !(decide (o.kind = 1) && Gw.Tree.loops l o))) := rfl
  unfold Gw.Tree.done Gw.Tree.undo
  generalize Gw.Tree.may l o = m at *
  conv => whnf
  refine AC.of_pc hck rfl ?_
  cases hc : Gw.Tree.check l with
  | false =>
    rw [hc] at hmd
    subst hmd
    conv => whnf
    repeat (first | refine ⟨fun _ => ?_, fun h => absurd h (by decide)⟩ | refine ⟨fun h => absurd h (by decide), fun _ => ?_⟩ | refine ⟨fun _ => ?_, fun h => absurd (show true = false from h) (by decide)⟩ | refine ⟨fun h => absurd (show false = true from h) (by decide), fun _ => ?_⟩
            (conv => whnf))
    refine AC.of_pc hsm rfl ?_
    conv => whnf
    rfl
  | true =>
  have hab := fun id => tabove_pc nil l id (by omega) hc
  have hpl := fun z => place_pc nil l z (by omega) hc
  rw [hc, Bool.true_and] at hmd
  cases hq : Gw.Op.check o with
  | false =>
    rw [hq] at hmd
    subst hmd
    conv => whnf
    repeat (first | refine ⟨fun _ => ?_, fun h => absurd h (by decide)⟩ | refine ⟨fun h => absurd h (by decide), fun _ => ?_⟩ | refine ⟨fun _ => ?_, fun h => absurd (show true = false from h) (by decide)⟩ | refine ⟨fun h => absurd (show false = true from h) (by decide), fun _ => ?_⟩
            (conv => whnf))
    refine AC.of_pc hoc rfl ?_
    rw [hq]
    conv => whnf
    repeat (first | refine ⟨fun _ => ?_, fun h => absurd h (by decide)⟩ | refine ⟨fun h => absurd h (by decide), fun _ => ?_⟩ | refine ⟨fun _ => ?_, fun h => absurd (show true = false from h) (by decide)⟩ | refine ⟨fun h => absurd (show false = true from h) (by decide), fun _ => ?_⟩
            (conv => whnf))
    refine AC.of_pc hsm rfl ?_
    conv => whnf
    rfl
  | true =>
  rw [hq, Bool.true_and] at hmd
  conv => whnf
  repeat (first | refine ⟨fun _ => ?_, fun h => absurd h (by decide)⟩ | refine ⟨fun h => absurd h (by decide), fun _ => ?_⟩ | refine ⟨fun _ => ?_, fun h => absurd (show true = false from h) (by decide)⟩ | refine ⟨fun h => absurd (show false = true from h) (by decide), fun _ => ?_⟩
          (conv => whnf))
  refine AC.of_pc hoc rfl ?_
  rw [hq]
  conv => whnf
  repeat (first | refine ⟨fun _ => ?_, fun h => absurd h (by decide)⟩ | refine ⟨fun h => absurd h (by decide), fun _ => ?_⟩ | refine ⟨fun _ => ?_, fun h => absurd (show true = false from h) (by decide)⟩ | refine ⟨fun h => absurd (show false = true from h) (by decide), fun _ => ?_⟩
          (conv => whnf))
  have hlow := Gw.Tree.climb_len l l.length o.parent
  have hct := contains_pc (decide (Gw.Tree.climb l l.length o.parent = [])) (Gw.Tree.climb l l.length o.parent) o.node (by omega)
  refine ⟨fun h => ?_, fun h => ?_⟩
  · have hk : o.kind = 1 := by simpa using h
    rw [decide_eq_true hk, Bool.true_and] at hmd
    unfold Gw.Tree.loops at hmd
    conv => whnf
    refine AC.of tabOk mixed (fn := Tryz.f52) (by kernel_rfl) rfl (by kernel_rfl) rfl rfl ?_
    conv => whnf
    refine ⟨fun h => ?_, fun h => ?_⟩
    · have he : o.parent = o.node := by simpa using h
      rw [decide_eq_true he] at hmd
      have hmd : m = false := hmd
      subst hmd
      conv => whnf
      refine ⟨by kernel_rfl, ?_⟩
      conv => whnf
      repeat (first | refine ⟨fun _ => ?_, fun h => absurd h (by decide)⟩ | refine ⟨fun h => absurd h (by decide), fun _ => ?_⟩ | refine ⟨fun _ => ?_, fun h => absurd (show true = false from h) (by decide)⟩ | refine ⟨fun h => absurd (show false = true from h) (by decide), fun _ => ?_⟩
              (conv => whnf))
      refine AC.of_pc hsm rfl ?_
      conv => whnf
      rfl
    · have he : o.parent ≠ o.node := by simpa using h
      rw [decide_eq_false he, Bool.false_or] at hmd
      conv => whnf
      refine ⟨_, rfl, hab o.parent, ?_⟩
      conv => whnf
      refine ⟨_, rfl, hct, ?_⟩
      generalize (Gw.Tree.climb l l.length o.parent).contains o.node = lp at *
      conv => whnf
      refine ⟨by kernel_rfl, ?_⟩
      conv => whnf
      refine ⟨fun h => ?_, fun h => ?_⟩
      · have h : lp = true := h
        rw [h] at hmd
        have hmd : m = false := hmd
        subst hmd
        conv => whnf
        refine AC.of_pc hsm rfl ?_
        conv => whnf
        rfl
      · have h : lp = false := h
        rw [h] at hmd
        have hmd : m = true := hmd
        subst hmd
        rw [if_pos rfl, if_pos rfl]
        conv => whnf
        refine AC.of_pc (hpl o.node) rfl ?_
        have hpp := Gw.Tree.pos_le l o.node
        cases hfd : Gw.Tree.find l o.node with
        | none =>
          have hhd : Gw.Tree.had l o.node = false := by rw [Gw.Tree.had_find, hfd]; rfl
          have hup : Gw.Tree.upto l o.node = Gw.Tree.pos l o.node := by unfold Gw.Tree.upto; rw [hhd, if_neg (by decide)]
          have hlay := lay_pc nil false l [Gw.Tree.turned (Gw.Tree.freshN o.node) o] (Gw.Tree.pos l o.node) (Gw.Tree.pos l o.node) (Nat.le_refl _) hpp (by omega) (Nat.le_refl _)
          rw [hhd, hup]
          unfold Gw.Tree.turned at hlay ⊢
          rw [if_pos hk] at hlay ⊢
          conv => whnf
          repeat (first | refine ⟨fun _ => ?_, fun h => absurd h (by decide)⟩ | refine ⟨fun h => absurd h (by decide), fun _ => ?_⟩ | refine ⟨fun _ => ?_, fun h => absurd (show true = false from h) (by decide)⟩ | refine ⟨fun h => absurd (show false = true from h) (by decide), fun _ => ?_⟩
                  (conv => whnf))
          refine ⟨fun _ => ?_, fun h => absurd h (by rw [hk]; decide)⟩
          conv => whnf
          refine ⟨by kernel_rfl, ?_⟩
          conv => whnf
          refine ⟨_, rfl, hlay, ?_⟩
          conv => whnf
          refine ⟨by kernel_rfl, ?_⟩
          conv => whnf
          rfl
        | some nd =>
          obtain ⟨_, hid, hp, hnd⟩ := Gw.Tree.find_some hfd
          have hg := encN_get hp
          rw [hnd] at hg
          have hhd : Gw.Tree.had l o.node = true := by rw [Gw.Tree.had_find, hfd]; rfl
          have hup : Gw.Tree.upto l o.node = Gw.Tree.pos l o.node + 1 := by unfold Gw.Tree.upto; rw [hhd, if_pos rfl]
          have hw1 : IntKind.i64.wrap ((Gw.Tree.pos l o.node : Int) + 1) = ((Gw.Tree.pos l o.node + 1 : Nat) : Int) := by rw [w64 (by omega) (by omega)]; rfl
          have hlay := lay_pc nil false l [Gw.Tree.turned nd o] (Gw.Tree.pos l o.node) (Gw.Tree.pos l o.node + 1) (Nat.le_succ _) (by omega) (by omega) (Nat.le_refl _)
          rw [hhd, hup]
          unfold Gw.Tree.turned at hlay ⊢
          rw [if_pos hk] at hlay ⊢
          conv => whnf
          repeat (first | refine ⟨fun _ => ?_, fun h => absurd h (by decide)⟩ | refine ⟨fun h => absurd h (by decide), fun _ => ?_⟩ | refine ⟨fun _ => ?_, fun h => absurd (show true = false from h) (by decide)⟩ | refine ⟨fun h => absurd (show false = true from h) (by decide), fun _ => ?_⟩
                  (conv => whnf))
          refine ⟨_, ⟨by omega, hg⟩, ?_⟩
          conv => whnf
          rw [hw1]
          refine ⟨fun _ => ?_, fun h => absurd h (by rw [hk]; decide)⟩
          conv => whnf
          refine ⟨by kernel_rfl, ?_⟩
          conv => whnf
          refine ⟨_, rfl, hlay, ?_⟩
          conv => whnf
          refine ⟨by kernel_rfl, ?_⟩
          conv => whnf
          rfl
  · have hk : o.kind ≠ 1 := by simpa using h
    rw [decide_eq_false hk] at hmd
    have hmd : m = true := hmd
    subst hmd
    rw [if_pos rfl, if_pos rfl]
    conv => whnf
    refine AC.of_pc (hpl o.node) rfl ?_
    have hpp := Gw.Tree.pos_le l o.node
    cases hfd : Gw.Tree.find l o.node with
    | none =>
      have hhd : Gw.Tree.had l o.node = false := by rw [Gw.Tree.had_find, hfd]; rfl
      have hup : Gw.Tree.upto l o.node = Gw.Tree.pos l o.node := by unfold Gw.Tree.upto; rw [hhd, if_neg (by decide)]
      have hlay := lay_pc nil false l [Gw.Tree.turned (Gw.Tree.freshN o.node) o] (Gw.Tree.pos l o.node) (Gw.Tree.pos l o.node) (Nat.le_refl _) hpp (by omega) (Nat.le_refl _)
      rw [hhd, hup]
      unfold Gw.Tree.turned at hlay ⊢
      rw [if_neg hk] at hlay ⊢
      conv => whnf
      repeat (first | refine ⟨fun _ => ?_, fun h => absurd h (by decide)⟩ | refine ⟨fun h => absurd h (by decide), fun _ => ?_⟩ | refine ⟨fun _ => ?_, fun h => absurd (show true = false from h) (by decide)⟩ | refine ⟨fun h => absurd (show false = true from h) (by decide), fun _ => ?_⟩
              (conv => whnf))
      refine ⟨fun h => absurd h (by simpa using hk), fun _ => ?_⟩
      conv => whnf
      refine ⟨by kernel_rfl, ?_⟩
      conv => whnf
      refine ⟨_, rfl, hlay, ?_⟩
      conv => whnf
      refine ⟨by kernel_rfl, ?_⟩
      conv => whnf
      rfl
    | some nd =>
      obtain ⟨_, hid, hp, hnd⟩ := Gw.Tree.find_some hfd
      have hg := encN_get hp
      rw [hnd] at hg
      have hhd : Gw.Tree.had l o.node = true := by rw [Gw.Tree.had_find, hfd]; rfl
      have hup : Gw.Tree.upto l o.node = Gw.Tree.pos l o.node + 1 := by unfold Gw.Tree.upto; rw [hhd, if_pos rfl]
      have hw1 : IntKind.i64.wrap ((Gw.Tree.pos l o.node : Int) + 1) = ((Gw.Tree.pos l o.node + 1 : Nat) : Int) := by rw [w64 (by omega) (by omega)]; rfl
      have hlay := lay_pc nil false l [Gw.Tree.turned nd o] (Gw.Tree.pos l o.node) (Gw.Tree.pos l o.node + 1) (Nat.le_succ _) (by omega) (by omega) (Nat.le_refl _)
      rw [hhd, hup]
      unfold Gw.Tree.turned at hlay ⊢
      rw [if_neg hk] at hlay ⊢
      conv => whnf
      repeat (first | refine ⟨fun _ => ?_, fun h => absurd h (by decide)⟩ | refine ⟨fun h => absurd h (by decide), fun _ => ?_⟩ | refine ⟨fun _ => ?_, fun h => absurd (show true = false from h) (by decide)⟩ | refine ⟨fun h => absurd (show false = true from h) (by decide), fun _ => ?_⟩
              (conv => whnf))
      refine ⟨_, ⟨by omega, hg⟩, ?_⟩
      conv => whnf
      rw [hw1]
      refine ⟨fun h => absurd h (by simpa using hk), fun _ => ?_⟩
      conv => whnf
      refine ⟨by kernel_rfl, ?_⟩
      conv => whnf
      refine ⟨_, rfl, hlay, ?_⟩
      conv => whnf
      refine ⟨by kernel_rfl, ?_⟩
      conv => whnf
      rfl
end Go.Proofs.YtipgfdepopfghaaGreat
