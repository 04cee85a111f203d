/- A machine without addresses (part 1 of 3): the values and the runs of the model, kept apart from their places. No claim of its own. -/
import Derived.WalkKit
import Derived.WalkSpells
import Derived.WalkLawsBesides
import Derived.Laws.IdiomStrings
import Derived.Lib.Strings
import Derived.Laws.IdiomCopy
import Derived.Deep.AppendSrc
import Derived.Below
import Derived.Orders
import Derived.Laws.StructEq

namespace Go.Am
open Go.RowKit

/-- What is known of the room behind a slice of cells that never turn: nothing; there is none; it is that of a row of the call's own; and the row lies there, if it has a cell. -/
inductive Tok where
  | none
  | tight
  | row (id : Nat)
  | brow (id : Nat)

/-- Values, without addresses but those of the call's own blocks. -/
inductive V where
  | int (k : IntKind) (n : Int)
  | bool (b : Bool)
  | tt
  | ff
  | str (s : List UInt8)
  | agg (cs : List V)
  | tup (vs : List V)
  | ptr (b off : Nat)
  | lptr (cs : List V) (off : Nat)
  | nilp
  | lst (isNil : Bool) (sz : Nat) (els : List (List V)) (tk : Tok)
  | own (b off sz len : Nat) (full : Bool)
  | func (f : FuncId) (first captured : List V)
  | nilf
  | iface (t : TypeId) (v : V)
  | nili
  | it (b : Nat)
  | yield (b : Nat)
  | mp (b : Nat)
  | junk

inductive Loc where
  | tmp (t : Nat)
  | blk (b : Nat)
  | row (b : Nat)

/-- A map: its clock, and its entries, each with its birth; an iterator over a map. -/
inductive Ob where
  | mp (clock : Nat) (es : List (Nat × V × V))
  | mit (m since : Nat) (seen : List Nat) (last : Nat)

inductive C where
  | none
  | v (x : V)
  | box (t : TypeId) (cells : List V)
  | mem (t : TypeId) (cells : List V)
  | row (t : TypeId) (sz n : Nat)
  | it (s : List UInt8) (pos : Nat)
  | obj (X : Ob)
  | ro (X : Ob)
  | loop (st : LoopState) (pend : Option Code) (nt : Nat) (tm : List (Nat × V)) (ps : List Nat) (assign body : Code)

/-- The ghost: which cells never turn; where the call's own blocks, and rows, lie. -/
structure G where
  F : Nat → Nat → Prop
  own : Nat → Option Nat
  row : Nat → Option (Option Nat × Nat)

/-- Cells of a slice of cells that never turn: where they lie, and what they hold. -/
def ElsAt (w : World) (F : Nat → Nat → Prop) (sz : Nat) (els : List (List V)) (ad : Option Addr) (vals : Nat → Nat → Value) : Prop :=
  ∀ (i : Nat) (el : List V) (j : Nat) (x : V), els[i]? = some el → el[j]? = some x → ∃ blk base, ad = some ⟨blk, base, none⟩ ∧ F blk (base + i * sz + j) ∧ w.cell? ⟨blk, base + i * sz + j, none⟩ = some (vals i j)

/-- A value that holds no address of the call's own. -/
inductive PRep (w : World) (F : Nat → Nat → Prop) : V → Value → Prop
  | int (k n) : PRep w F (.int k n) (.int k n)
  | bool (b) : PRep w F (.bool b) (.bool b)
  | tt : PRep w F .tt (.bool true)
  | ff : PRep w F .ff (.bool false)
  | str {s : List UInt8} {b : ByteArray} (h : b.data.toList = s) : PRep w F (.str s) (.string b)
  | agg {cs : List V} {vs : List Value} (hl : vs.length = cs.length) (h : ∀ (i : Nat) (x : V) (v : Value), cs[i]? = some x → vs[i]? = some v → PRep w F x v) : PRep w F (.agg cs) (.agg vs.toArray)
  | tup {cs : List V} {vs : List Value} (hl : vs.length = cs.length) (h : ∀ (i : Nat) (x : V) (v : Value), cs[i]? = some x → vs[i]? = some v → PRep w F x v) : PRep w F (.tup cs) (.tuple vs.toArray)
  | nilp : PRep w F .nilp (.pointer none)
  | lst {isNil : Bool} {sz : Nat} {els : List (List V)} {ad : Option Addr} {c : Nat} (vals : Nat → Nat → Value)
      (hnil : isNil = ad.isNone) (hc : els.length ≤ c) (hsz : ∀ el ∈ els, el.length = sz) (ha : ElsAt w F sz els ad vals)
      (hone : ∀ (i : Nat) (el : List V) (j : Nat) (x : V), els[i]? = some el → el[j]? = some x → (vals i j).oneCell' = true)
      (h : ∀ (i : Nat) (el : List V) (j : Nat) (x : V), els[i]? = some el → el[j]? = some x → PRep w F x (vals i j)) : PRep w F (.lst isNil sz els .none) (.slice ad els.length c)
  | func (f) : PRep w F (.func f [] []) (.func (.func f) #[] #[])
  | nilf : PRep w F .nilf .nilFunc
  | iface {t : TypeId} {x : V} {v : Value} (h : PRep w F x v) : PRep w F (.iface t x) (.iface t v)
  | nili : PRep w F .nili .nilIface

def TokOk (w : World) (g : G) (tk : Tok) (n sz : Nat) (ad : Option Addr) (c : Nat) : Prop :=
  match tk with
  | .none => True
  | .tight => c = n
  | .row id => ∃ bk N, g.row id = some (bk, N) ∧ n ≤ N ∧ (n = N → c = n ∨ ∃ b t, bk = some b ∧ ad = some ⟨b, 0, none⟩ ∧ w.shape? b = some (t, c * sz))
  | .brow id => ∃ bk N, g.row id = some (bk, N) ∧ n ≤ N ∧ (n = N → (c = 0 ∧ n = 0) ∨ ∃ b t, bk = some b ∧ ad = some ⟨b, 0, none⟩ ∧ w.shape? b = some (t, c * sz))

inductive Rep (w : World) (g : G) : V → Value → Prop
  | pure {x v} (h : PRep w g.F x v) : Rep w g x v
  | agg {cs : List V} {vs : List Value} (hl : vs.length = cs.length) (h : ∀ (i : Nat) (x : V) (v : Value), cs[i]? = some x → vs[i]? = some v → Rep w g x v) : Rep w g (.agg cs) (.agg vs.toArray)
  | tup {cs : List V} {vs : List Value} (hl : vs.length = cs.length) (h : ∀ (i : Nat) (x : V) (v : Value), cs[i]? = some x → vs[i]? = some v → Rep w g x v) : Rep w g (.tup cs) (.tuple vs.toArray)
  | ptr {b off c : Nat} (h : g.own b = some c) : Rep w g (.ptr b off) (.pointer (some ⟨c, off, none⟩))
  | lptr {cs : List V} {off blk base : Nat} (vals : Nat → Value) (ha : ∀ (j : Nat) (x : V), cs[j]? = some x → g.F blk (base + j) ∧ w.cell? ⟨blk, base + j, none⟩ = some (vals j))
      (h : ∀ (j : Nat) (x : V), cs[j]? = some x → PRep w g.F x (vals j)) : Rep w g (.lptr cs off) (.pointer (some ⟨blk, base + off, none⟩))
  | lst {isNil : Bool} {sz : Nat} {els : List (List V)} {tk : Tok} {ad : Option Addr} {n c : Nat} (h : PRep w g.F (.lst isNil sz els .none) (.slice ad n c)) (ht : TokOk w g tk n sz ad c) : Rep w g (.lst isNil sz els tk) (.slice ad n c)
  | own {b off sz len cap c : Nat} {full : Bool} {ad : Option Addr} (h : g.own b = some c) (ha : 0 < len → ad = some ⟨c, off, none⟩) (hs : ad.isSome) (hl : len ≤ cap)
      (hf : full = true → off = 0 ∧ ad = some ⟨c, 0, none⟩ ∧ ∃ t, w.shape? c = some (t, cap * sz)) : Rep w g (.own b off sz len full) (.slice ad len cap)
  | func {f : FuncId} {fs cs : List V} {vs us : List Value} (hl : vs.length = fs.length) (hm : us.length = cs.length) (h : ∀ (i : Nat) (x : V) (v : Value), fs[i]? = some x → vs[i]? = some v → Rep w g x v)
      (hh : ∀ (i : Nat) (x : V) (v : Value), cs[i]? = some x → us[i]? = some v → Rep w g x v) : Rep w g (.func f fs cs) (.func (.func f) vs.toArray us.toArray)
  | iface {t : TypeId} {x : V} {v : Value} (h : Rep w g x v) : Rep w g (.iface t x) (.iface t v)
  | it {b c : Nat} (h : g.own b = some c) : Rep w g (.it b) (.pointer (some ⟨c, 0, none⟩))
  | yield {b c : Nat} (h : g.own b = some c) : Rep w g (.yield b) (.func (.yield c) #[] #[])
  | mp {b c : Nat} (h : g.own b = some c) : Rep w g (.mp b) (.map (some c))
  | junk {v} : Rep w g .junk v

/-- A pure value stays what it is while the cells that never turn don't. -/
theorem PRep.mono {w w' : World} {F F' : Nat → Nat → Prop} (hF : ∀ b o, F b o → F' b o ∧ w'.cell? ⟨b, o, none⟩ = w.cell? ⟨b, o, none⟩) {x : V} {v : Value} (h : PRep w F x v) : PRep w' F' x v := by
  induction h with
  | int k n => exact .int k n
  | bool b => exact .bool b
  | tt => exact .tt
  | ff => exact .ff
  | str h => exact .str h
  | agg hl _ ih => exact .agg hl ih
  | tup hl _ ih => exact .tup hl ih
  | nilp => exact .nilp
  | lst vals hnil hc hsz ha hone _ ih =>
    refine .lst vals hnil hc hsz (fun i el j x h1 h2 => ?_) hone ih
    obtain ⟨blk, base, e, hf, hcell⟩ := ha i el j x h1 h2
    obtain ⟨hf', hcc⟩ := hF _ _ hf
    exact ⟨blk, base, e, hf', hcc.trans hcell⟩
  | func f => exact .func f
  | nilf => exact .nilf
  | iface _ ih => exact .iface ih
  | nili => exact .nili

/-- How a ghost goes on, but for what a frame leaves undone. -/
structure EvC (g : G) (w : World) (g' : G) (w' : World) : Prop where
  F : ∀ b o, g.F b o → g'.F b o ∧ w'.cell? ⟨b, o, none⟩ = w.cell? ⟨b, o, none⟩
  own : ∀ id c, g.own id = some c → g'.own id = some c ∧ w'.shape? c = w.shape? c
  row : ∀ id bk N, g.row id = some (bk, N) → ∃ bk' N', g'.row id = some (bk', N') ∧ N ≤ N' ∧ (N' = N → bk' = bk ∧ ∀ b, bk = some b → w'.shape? b = w.shape? b)
  /-- What lies in a row's block has not been frozen ahead of it. -/
  fresh : ∀ id c N, g'.row id = some (some c, N) → (∃ N0, g.row id = some (some c, N0)) ∨ ∀ o, ¬ g.F c o := by exact fun _ _ N h => .inl ⟨N, h⟩
/-- How a ghost goes on. -/
structure Ev (g : G) (w : World) (g' : G) (w' : World) : Prop extends EvC g w g' w' where
  size : w.heap.size ≤ w'.heap.size
  drawn : w.drawn ≤ w'.drawn
  dfr : ∀ (d : Nat) (ds : Option (List Deferred)), w.heap[d]? = some (Obj.deferred ds) → w'.heap[d]? = some (Obj.deferred ds)

theorem Ev.refl (g : G) (w : World) : Ev g w g w := ⟨⟨fun _ _ h => ⟨h, rfl⟩, fun _ _ h => ⟨h, rfl⟩, fun _ bk N h => ⟨bk, N, h, Nat.le_refl _, fun _ => ⟨rfl, fun _ _ => rfl⟩⟩, fun _ _ N h => .inl ⟨N, h⟩⟩, Nat.le_refl _, Nat.le_refl _, fun _ _ h => h⟩
theorem Ev.trans {g g' g'' : G} {w w' w'' : World} (h : Ev g w g' w') (k : Ev g' w' g'' w'') : Ev g w g'' w'' := by
  refine ⟨⟨fun b o hf => ?_, fun id c hc => ⟨(k.own _ _ (h.own _ _ hc).1).1, ((k.own _ _ (h.own _ _ hc).1).2).trans (h.own _ _ hc).2⟩, fun id bk N hr => ?_, fun id c N hr => ?_⟩, Nat.le_trans h.size k.size, Nat.le_trans h.drawn k.drawn, fun d ds hd => k.dfr d ds (h.dfr d ds hd)⟩
  · obtain ⟨h1, e1⟩ := h.F b o hf
    obtain ⟨h2, e2⟩ := k.F b o h1
    exact ⟨h2, e2.trans e1⟩
  · obtain ⟨bk', N', h1, h2, h3⟩ := h.row id bk N hr
    obtain ⟨bk'', N'', k1, k2, k3⟩ := k.row id bk' N' h1
    refine ⟨bk'', N'', k1, Nat.le_trans h2 k2, fun e => ?_⟩
    have e1 : N' = N := by omega
    obtain ⟨a1, a2⟩ := h3 e1
    obtain ⟨b1, b2⟩ := k3 (by omega)
    exact ⟨b1.trans a1, fun b hb => (b2 b (a1.trans hb)).trans (a2 b hb)⟩
  · rcases k.fresh id c N hr with ⟨N0, h1⟩ | h1
    · exact h.fresh id c N0 h1
    · exact .inr fun o ho => h1 o (h.F c o ho).1

theorem TokOk.monoC {g g' : G} {w w' : World} (h : EvC g w g' w') {tk n sz ad c} (ht : TokOk w g tk n sz ad c) : TokOk w' g' tk n sz ad c := by
  cases tk with
  | none => trivial
  | tight => exact ht
  | row id =>
    obtain ⟨bk, N, h1, h2, h3⟩ := ht
    obtain ⟨bk', N', k1, k2, k3⟩ := h.row id bk N h1
    refine ⟨bk', N', k1, Nat.le_trans h2 k2, fun e => ?_⟩
    have e1 : n = N := by omega
    obtain ⟨a1, a2⟩ := k3 (by omega)
    rcases h3 e1 with h4 | ⟨b, t, hb, had, hs⟩
    · exact .inl h4
    · exact .inr ⟨b, t, a1.trans hb, had, (a2 b hb).trans hs⟩
  | brow id =>
    obtain ⟨bk, N, h1, h2, h3⟩ := ht
    obtain ⟨bk', N', k1, k2, k3⟩ := h.row id bk N h1
    refine ⟨bk', N', k1, Nat.le_trans h2 k2, fun e => ?_⟩
    have e1 : n = N := by omega
    obtain ⟨a1, a2⟩ := k3 (by omega)
    rcases h3 e1 with h4 | ⟨b, t, hb, had, hs⟩
    · exact .inl h4
    · exact .inr ⟨b, t, a1.trans hb, had, (a2 b hb).trans hs⟩

/-- It is a row's, in any case. -/
theorem TokOk.unb {g : G} {w : World} {id n sz ad c} (h : TokOk w g (.brow id) n sz ad c) : TokOk w g (.row id) n sz ad c := by
  obtain ⟨bk, N, h1, h2, h3⟩ := h
  exact ⟨bk, N, h1, h2, fun e => (h3 e).imp (fun ⟨a, b⟩ => a.trans b.symm) (fun h => h)⟩

theorem Rep.monoC {g g' : G} {w w' : World} (hE : EvC g w g' w') {x : V} {v : Value} (h : Rep w g x v) : Rep w' g' x v := by
  induction h with
  | pure h => exact .pure (h.mono hE.F)
  | agg hl _ ih => exact .agg hl ih
  | tup hl _ ih => exact .tup hl ih
  | ptr h => exact .ptr (hE.own _ _ h).1
  | lptr vals ha h =>
    exact .lptr vals (fun j x hx => ⟨(hE.F _ _ (ha j x hx).1).1, ((hE.F _ _ (ha j x hx).1).2).trans (ha j x hx).2⟩) (fun j x hx => (h j x hx).mono hE.F)
  | lst h ht => exact .lst (h.mono hE.F) (ht.monoC hE)
  | own h ha hs hl hf =>
    exact .own (hE.own _ _ h).1 ha hs hl fun e => let ⟨h1, h2, t, h3⟩ := hf e; ⟨h1, h2, t, ((hE.own _ _ h).2).trans h3⟩
  | func hl hm _ _ ih1 ih2 => exact .func hl hm ih1 ih2
  | iface _ ih => exact .iface ih
  | it h => exact .it (hE.own _ _ h).1
  | yield h => exact .yield (hE.own _ _ h).1
  | mp h => exact .mp (hE.own _ _ h).1
  | junk => exact .junk
theorem Rep.mono {g g' : G} {w w' : World} (hE : Ev g w g' w') {x : V} {v : Value} (h : Rep w g x v) : Rep w' g' x v := h.monoC hE.toEvC


/-- What a map's block, or an iterator's, holds. -/
def ObOk (w : World) (g : G) (c : Nat) : Ob → Prop
  | .mp clock es => ∃ arr : List MapEntry, w.heap[c]? = some (.map arr.toArray clock) ∧ arr.length = es.length ∧ ∀ (i : Nat) (e : MapEntry) (x : Nat × V × V), arr[i]? = some e → es[i]? = some x → e.born = x.1 ∧ PRep w g.F x.2.1 e.key ∧ PRep w g.F x.2.2 e.val
  | .mit m since seen last => ∃ k, g.own m = some k ∧ w.heap[c]? = some (.mapIter (some k) since seen.toArray last)
theorem ObOk.monoC {g g' : G} {w w' : World} {c : Nat} {X : Ob} (hE : EvC g w g' w') (hb : w'.heap[c]? = w.heap[c]?) (h : ObOk w g c X) : ObOk w' g' c X := by
  cases X with
  | mp clock es =>
    obtain ⟨arr, h1, h2, h3⟩ := h
    exact ⟨arr, hb.trans h1, h2, fun i e x he hx => ⟨(h3 i e x he hx).1, (h3 i e x he hx).2.1.mono hE.F, (h3 i e x he hx).2.2.mono hE.F⟩⟩
  | mit m since seen last =>
    obtain ⟨k, h1, h2⟩ := h
    exact ⟨k, (hE.own _ _ h1).1, hb.trans h2⟩

/-- The record of a loop over a function. -/
structure LoopOk (w : World) (g : G) (c : Nat) (st : LoopState) (pend : Option Code) (nt : Nat) (tm : List (Nat × V)) (ps : List Nat) (assign body : Code) (r : Loop) : Prop where
  heap : w.heap[c]? = some (.loop r)
  state : r.state = st
  pending : r.pending = pend
  size : r.tmps.size = nt
  params : r.params.toList = ps
  assign : r.assign = assign
  body : r.body = body
  tmps : ∀ x ∈ tm, x.1 < nt ∧ Rep w g x.2 (r.tmps.getD x.1 undef)

/-- A block that is in use. -/
def C.isBlk : C → Bool
  | .box .. | .mem .. | .it .. | .obj .. | .loop .. => true
  | _ => false

abbrev St := Loc → C

def Loc.beq : Loc → Loc → Bool
  | .tmp a, .tmp b => Nat.beq a b
  | .blk a, .blk b => Nat.beq a b
  | .row a, .row b => Nat.beq a b
  | _, _ => false
theorem Loc.beq_iff {a b : Loc} : a.beq b = true ↔ a = b := by
  cases a <;> cases b <;> simp [Loc.beq]
def upd (σ : St) (l : Loc) (c : C) : St := fun l' => match l'.beq l with | true => c | false => σ l'
theorem upd_same (σ : St) (l : Loc) (c : C) : upd σ l c l = c := by
  have h : l.beq l = true := Loc.beq_iff.2 rfl
  simp [upd, h]
theorem upd_ne {σ : St} {l l' : Loc} {c : C} (h : l' ≠ l) : upd σ l c l' = σ l' := by
  have h : l'.beq l = false := by rw [Bool.eq_false_iff]; intro e; exact h (Loc.beq_iff.1 e)
  simp [upd, h]
theorem upd_comm {σ : St} {l l' : Loc} {c c' : C} (h : l ≠ l') : upd (upd σ l c) l' c' = upd (upd σ l' c') l c := by
  funext x
  by_cases h1 : x = l
  · subst h1
    rw [upd_ne h, upd_same, upd_same]
  · rw [upd_ne h1 (σ := upd σ l' c')]
    by_cases h2 : x = l'
    · subst h2; rw [upd_same, upd_same]
    · rw [upd_ne h2, upd_ne h2, upd_ne h1]

/-- Tables of integers that the program's text lays, and nothing turns: their names, kinds, and numbers. -/
def knownTabs : List (String × IntKind × List Int) := [("gunwale/sums.steps", .u32, [0, 79764919])]
/-- The tables hold what the text lays. -/
def GOk (P : Program) (w : World) : Prop := ∀ x ∈ knownTabs, ∀ i, P.globalNamed x.1 = some i → ∀ (j : Nat) (z : Int), x.2.2[j]? = some z → w.cell? ⟨i, j, none⟩ = some (.int x.2.1 z)
theorem cell_below {w w' : World} {B : Nat} (h : Below B w w') {k o : Nat} (hk : k < B) : w'.cell? ⟨k, o, none⟩ = w.cell? ⟨k, o, none⟩ := h.cell (p := ⟨k, o, none⟩) hk
theorem shape_below {w w' : World} {B : Nat} (h : Below B w w') {k : Nat} (hk : k < B) : w'.shape? k = w.shape? k := by
  unfold World.shape?
  rw [h.block k hk]

theorem cell_block {w : World} {k o : Nat} {v : Value} (h : w.cell? ⟨k, o, none⟩ = some v) : k < w.heap.size := by
  rcases Nat.lt_or_ge k w.heap.size with hl | hl
  · exact hl
  · have : w.heap[k]? = none := by simp [hl]
    simp [World.cell?, this] at h
theorem GOk.below {P : Program} {w w' : World} (h : GOk P w) {B : Nat} (hb : Below B w w') (hB : w.heap.size ≤ B) : GOk P w' := fun x hx i hi j z hz => by
  have := h x hx i hi j z hz
  rw [cell_below hb (Nat.lt_of_lt_of_le (cell_block this) hB)]
  exact this
/-- All that was there is as it was, but for some blocks, and these keep their shape. -/
structure BelowX (ex : Nat → Prop) (B : Nat) (w w' : World) : Prop where
  os : w'.os = w.os
  tape : w'.tape = w.tape
  output : w'.output = w.output
  size : w.heap.size ≤ w'.heap.size
  block : ∀ k, k < B → ¬ ex k → w'.heap[k]? = w.heap[k]?
  shape : ∀ k, k < B → w'.shape? k = w.shape? k
theorem belowShapes {B : Nat} {w w' : World} (h : Below B w w') {k : Nat} (hk : k < B) : w'.shape? k = w.shape? k := by
  unfold World.shape?
  rw [h.block k hk]
theorem BelowX.of {ex : Nat → Prop} {B : Nat} {w w' : World} (h : Below B w w') : BelowX ex B w w' := ⟨h.os, h.tape, h.output, h.size, fun k hk _ => h.block k hk, fun _ hk => belowShapes h hk⟩
theorem BelowX.below {ex : Nat → Prop} {B : Nat} {w w' : World} (h : BelowX ex B w w') (he : ∀ k, ¬ ex k) : Below B w w' := ⟨h.os, h.tape, h.output, h.size, fun k hk => h.block k hk (he k)⟩
theorem BelowX.refl (ex : Nat → Prop) (B : Nat) (w : World) : BelowX ex B w w := .of (Below.refl B w)
theorem BelowX.trans {ex : Nat → Prop} {B : Nat} {w w' w'' : World} (h : BelowX ex B w w') (k : BelowX ex B w' w'') : BelowX ex B w w'' :=
  ⟨k.os.trans h.os, k.tape.trans h.tape, k.output.trans h.output, Nat.le_trans h.size k.size, fun i hi hn => (k.block i hi hn).trans (h.block i hi hn), fun i hi => (k.shape i hi).trans (h.shape i hi)⟩
structure Base (P : Program) where
  W : World
  F0 : Nat → Nat → Prop
  ex : Nat → Prop
  gok : ∀ w, BelowX ex W.heap.size W w → GOk P w
  f0lt : ∀ k o, F0 k o → k < W.heap.size
  f0x : ∀ k o, F0 k o → ¬ ex k
/-- Nothing is given. -/
def Base.plain {P : Program} (w : World) (F : Nat → Nat → Prop) (hG : GOk P w) (hF : ∀ k o, F k o → k < w.heap.size) : Base P := ⟨w, F, fun _ => False, fun _ h => hG.below (h.below fun _ h => h) (Nat.le_refl _), hF, fun _ _ _ h => h⟩
/-- A block that may turn: a new one, or one of those that are given. -/
def Base.Mine {P : Program} (b : Base P) (c : Nat) : Prop := b.W.heap.size ≤ c ∨ b.ex c
/-- What there was when the function began. -/
structure Top where
  g0 : G
  w0 : World
  n0 : Nat
  own : ∀ id c, g0.own id = some c → id < n0
  row : ∀ id x, g0.row id = some x → id < n0

structure HSim {P : Program} (b : Base P) (σ : St) (D : Nat → Prop) (g : G) (w : World) : Prop where
  below : BelowX b.ex b.W.heap.size b.W w
  flt : ∀ k o, g.F k o → k < w.heap.size
  f0 : ∀ k o, b.F0 k o → g.F k o
  f1 : ∀ k o, g.F k o → k < b.W.heap.size → ¬ b.ex k → b.F0 k o
  ownlt : ∀ id c, g.own id = some c → D id
  rowlt : ∀ id x, g.row id = some x → D id
  ownsz : ∀ id c, g.own id = some c → c < w.heap.size
  rowsz : ∀ id c N, g.row id = some (some c, N) → c < w.heap.size
  live : ∀ id, (σ (.blk id)).isBlk = true → ∃ c, g.own id = some c ∧ b.Mine c ∧ c < w.heap.size ∧ (∀ o, ¬ g.F c o)
  box : ∀ id t cells c, σ (.blk id) = .box t cells → g.own id = some c → ∃ arr : List Value, w.heap[c]? = some (.cells arr.toArray t (0, 0)) ∧ arr.length = cells.length ∧
    ∀ (i : Nat) (x : V) (v : Value), cells[i]? = some x → arr[i]? = some v → Rep w g x v
  mem : ∀ id t cells c, σ (.blk id) = .mem t cells → g.own id = some c → ∃ (arr : List Value) (z : Nat × Nat), w.heap[c]? = some (.cells arr.toArray t z) ∧ cells.length ≤ arr.length ∧ (∀ o, o < arr.length → ¬ (z.1 ≤ o ∧ o < z.2)) ∧
    ∀ (i : Nat) (x : V) (v : Value), cells[i]? = some x → arr[i]? = some v → PRep w g.F x v
  it : ∀ id s pos c, σ (.blk id) = .it s pos → g.own id = some c → ∃ sb : ByteArray, w.heap[c]? = some (.stringIter sb pos) ∧ sb.data.toList = s
  obj : ∀ id X c, σ (.blk id) = .obj X → g.own id = some c → ObOk w g c X
  ro : ∀ id X c, σ (.blk id) = .ro X → g.own id = some c → c < b.W.heap.size ∧ ¬ b.ex c ∧ ObOk b.W ⟨fun k o => b.F0 k o ∧ ¬ b.ex k, fun _ => none, fun _ => none⟩ c X
  loop : ∀ id st pend nt tm ps assign body c, σ (.blk id) = .loop st pend nt tm ps assign body → g.own id = some c → ∃ r, LoopOk w g c st pend nt tm ps assign body r
  inj : ∀ id id' c, (σ (.blk id)).isBlk = true → (σ (.blk id')).isBlk = true → g.own id = some c → g.own id' = some c → id = id'
  row : ∀ id t sz N, σ (.row id) = .row t sz N → ∃ bk, g.row id = some (bk, N) ∧ ∀ c, bk = some c → b.Mine c ∧ c < w.heap.size ∧ (∀ o, g.F c o → o < N * sz) ∧
    (∀ id', (σ (.blk id')).isBlk = true → g.own id' ≠ some c) ∧ (∀ id' t' sz' N' N'', σ (.row id') = .row t' sz' N' → g.row id' = some (some c, N'') → id' = id) ∧
    ∃ (arr : List Value) (z : Nat × Nat), w.heap[c]? = some (.cells arr.toArray t z) ∧ ∀ o, o < arr.length → ¬ (z.1 ≤ o ∧ o < z.2)

theorem HSim.gok {P : Program} {b : Base P} {σ : St} {D : Nat → Prop} {g : G} {w : World} (h : HSim b σ D g w) : GOk P w := b.gok w h.below

end Go.Am

namespace Go.Am
open Go.RowKit

variable {P : Program} {b : Base P} {σ : St} {D D' : Nat → Prop} {g : G} {w w' : World}

theorem LoopOk.monoC {g g' : G} {c : Nat} {st : LoopState} {pend : Option Code} {nt : Nat} {tm : List (Nat × V)} {ps : List Nat} {assign body : Code} {r : Loop} (hE : EvC g w g' w') (hb : w'.heap[c]? = w.heap[c]?) (h : LoopOk w g c st pend nt tm ps assign body r) : LoopOk w' g' c st pend nt tm ps assign body r :=
  ⟨hb.trans h.heap, h.state, h.pending, h.size, h.params, h.assign, h.body, fun x hx => ⟨(h.tmps x hx).1, (h.tmps x hx).2.monoC hE⟩⟩

theorem HSim.evGrow (h : HSim b σ D g w) (hb : Below w.heap.size w w') (hd : w.drawn ≤ w'.drawn) {F' : Nat → Nat → Prop} (hF : ∀ k o, g.F k o → F' k o) : Ev g w { g with F := F' } w' :=
  ⟨⟨fun k o hk => ⟨hF k o hk, cell_below hb (h.flt k o hk)⟩, fun id c hc => ⟨hc, shape_below hb (h.ownsz id c hc)⟩,
    fun id bk N hr => ⟨bk, N, hr, Nat.le_refl _, fun _ => ⟨rfl, fun c hc => by subst hc; exact shape_below hb (h.rowsz id c N hr)⟩⟩, fun _ _ N h => .inl ⟨N, h⟩⟩, hb.size, hd,
    fun d ds hd => (hb.block d (Array.getElem?_eq_some_iff.1 hd).1).trans hd⟩

/-- Nothing that was there has turned; more cells never turn, all of them new. -/
theorem HSim.grow (h : HSim b σ D g w) (hb : Below w.heap.size w w') (hd : w.drawn ≤ w'.drawn) {F' : Nat → Nat → Prop} (hF : ∀ k o, g.F k o → F' k o)
    (hF1 : ∀ k o, F' k o → g.F k o ∨ (w.heap.size ≤ k ∧ k < w'.heap.size)) : HSim b σ D { g with F := F' } w' := by
  have hE := h.evGrow hb hd hF
  have hW := h.below.size
  refine ⟨h.below.trans (.of (hb.mono hW)), fun k o hk => ?_, fun k o hk => hF k o (h.f0 k o hk), fun k o hk hlt hx => ?_, h.ownlt, h.rowlt, fun id c hc => Nat.lt_of_lt_of_le (h.ownsz id c hc) hb.size,
    fun id c N hc => Nat.lt_of_lt_of_le (h.rowsz id c N hc) hb.size, fun id hl => ?_, fun id t cells c hs hc => ?_, fun id t cells c hs hc => ?_, fun id s pos c hs hc => ?_, fun id X c hs hc => ?_, h.ro, fun id st pend nt tm ps assign body c hs hc => ?_, h.inj, fun id t sz N hs => ?_⟩
  · rcases hF1 k o hk with h1 | h1
    · exact Nat.lt_of_lt_of_le (h.flt k o h1) hb.size
    · exact h1.2
  · rcases hF1 k o hk with h1 | h1
    · exact h.f1 k o h1 hlt hx
    · omega
  · obtain ⟨c, h1, h2, h3, h4⟩ := h.live id hl
    refine ⟨c, h1, h2, Nat.lt_of_lt_of_le h3 hb.size, fun o ho => ?_⟩
    rcases hF1 c o ho with h5 | h5
    · exact h4 o h5
    · omega
  · obtain ⟨arr, h1, h2, h3⟩ := h.box id t cells c hs hc
    exact ⟨arr, (hb.block c (h.ownsz id c hc)).trans h1, h2, fun i x v hx hv => (h3 i x v hx hv).mono hE⟩
  · obtain ⟨arr, z, h1, h2, h3, h4⟩ := h.mem id t cells c hs hc
    exact ⟨arr, z, (hb.block c (h.ownsz id c hc)).trans h1, h2, h3, fun i x v hx hv => (h4 i x v hx hv).mono hE.F⟩
  · obtain ⟨sb, h1, h2⟩ := h.it id s pos c hs hc
    exact ⟨sb, (hb.block c (h.ownsz id c hc)).trans h1, h2⟩
  · exact (h.obj id X c hs hc).monoC hE.toEvC (hb.block c (h.ownsz id c hc))
  · obtain ⟨r, hr⟩ := h.loop id st pend nt tm ps assign body c hs hc
    exact ⟨r, hr.monoC hE.toEvC (hb.block c (h.ownsz id c hc))⟩
  · obtain ⟨bk, h1, h2⟩ := h.row id t sz N hs
    refine ⟨bk, h1, fun c hc => ?_⟩
    obtain ⟨a1, a2, a3, a4, a5, arr, z, a6, a7⟩ := h2 c hc
    refine ⟨a1, Nat.lt_of_lt_of_le a2 hb.size, fun o ho => ?_, a4, a5, arr, z, (hb.block c a2).trans a6, a7⟩
    rcases hF1 c o ho with h5 | h5
    · exact a3 o h5
    · omega

theorem HSim.widen (h : HSim b σ D g w) (hD : ∀ i, D i → D' i) : HSim b σ D' g w :=
  ⟨h.below, h.flt, h.f0, h.f1, fun i c hc => hD i (h.ownlt i c hc), fun i c hc => hD i (h.rowlt i c hc), h.ownsz, h.rowsz, h.live, h.box, h.mem, h.it, h.obj, h.ro, h.loop, h.inj, h.row⟩

/-- What a block of the call's own holds. -/
def Claim (w : World) (g : G) (c : Nat) : C → Prop
  | .box t cells => ∃ arr : List Value, w.heap[c]? = some (.cells arr.toArray t (0, 0)) ∧ arr.length = cells.length ∧ ∀ (i : Nat) (x : V) (v : Value), cells[i]? = some x → arr[i]? = some v → Rep w g x v
  | .mem t cells => ∃ (arr : List Value) (z : Nat × Nat), w.heap[c]? = some (.cells arr.toArray t z) ∧ cells.length ≤ arr.length ∧ (∀ o, o < arr.length → ¬ (z.1 ≤ o ∧ o < z.2)) ∧
    ∀ (i : Nat) (x : V) (v : Value), cells[i]? = some x → arr[i]? = some v → PRep w g.F x v
  | .it s pos => ∃ sb : ByteArray, w.heap[c]? = some (.stringIter sb pos) ∧ sb.data.toList = s
  | .obj X => ObOk w g c X
  | .loop st pend nt tm ps assign body => ∃ r, LoopOk w g c st pend nt tm ps assign body r
  | _ => True

theorem Claim.monoC {g g' : G} {c : Nat} {X : C} (hE : EvC g w g' w') (hb : w'.heap[c]? = w.heap[c]?) (h : Claim w g c X) : Claim w' g' c X := by
  cases X with
  | box t cells =>
    obtain ⟨arr, h1, h2, h3⟩ := h
    exact ⟨arr, hb.trans h1, h2, fun i x v hx hv => (h3 i x v hx hv).monoC hE⟩
  | mem t cells =>
    obtain ⟨arr, z, h1, h2, h3, h4⟩ := h
    exact ⟨arr, z, hb.trans h1, h2, h3, fun i x v hx hv => (h4 i x v hx hv).mono hE.F⟩
  | it s pos =>
    obtain ⟨sb, h1, h2⟩ := h
    exact ⟨sb, hb.trans h1, h2⟩
  | obj X => exact ObOk.monoC hE hb h
  | loop st pend nt tm ps assign body =>
    obtain ⟨r, hr⟩ := h
    exact ⟨r, hr.monoC hE hb⟩
  | _ => trivial
theorem Claim.mono {g g' : G} {c : Nat} {X : C} (hE : Ev g w g' w') (hb : w'.heap[c]? = w.heap[c]?) (h : Claim w g c X) : Claim w' g' c X := h.monoC hE.toEvC hb
theorem HSim.claim (h : HSim b σ D g w) {id c : Nat} (hc : g.own id = some c) : Claim w g c (σ (.blk id)) := by
  cases hs : σ (.blk id) with
  | box t cells => exact h.box id t cells c hs hc
  | mem t cells => exact h.mem id t cells c hs hc
  | it s pos => exact h.it id s pos c hs hc
  | obj X => exact h.obj id X c hs hc
  | loop st pend nt tm ps assign body => exact h.loop id st pend nt tm ps assign body c hs hc
  | _ => trivial

/-- The fields of 'HSim' that speak of blocks, out of claims. -/
theorem HSim.of_claims (below : BelowX b.ex b.W.heap.size b.W w) (flt : ∀ k o, g.F k o → k < w.heap.size) (f0 : ∀ k o, b.F0 k o → g.F k o) (f1 : ∀ k o, g.F k o → k < b.W.heap.size → ¬ b.ex k → b.F0 k o)
    (ownlt : ∀ id c, g.own id = some c → D id) (rowlt : ∀ id x, g.row id = some x → D id) (ownsz : ∀ id c, g.own id = some c → c < w.heap.size) (rowsz : ∀ id c N, g.row id = some (some c, N) → c < w.heap.size)
    (live : ∀ id, (σ (.blk id)).isBlk = true → ∃ c, g.own id = some c ∧ b.Mine c ∧ c < w.heap.size ∧ (∀ o, ¬ g.F c o))
    (claims : ∀ id c, (σ (.blk id)).isBlk = true → g.own id = some c → Claim w g c (σ (.blk id)))
    (inj : ∀ id id' c, (σ (.blk id)).isBlk = true → (σ (.blk id')).isBlk = true → g.own id = some c → g.own id' = some c → id = id')
    (ro : ∀ id X c, σ (.blk id) = .ro X → g.own id = some c → c < b.W.heap.size ∧ ¬ b.ex c ∧ ObOk b.W ⟨fun k o => b.F0 k o ∧ ¬ b.ex k, fun _ => none, fun _ => none⟩ c X)
    (row : ∀ id t sz N, σ (.row id) = .row t sz N → ∃ bk, g.row id = some (bk, N) ∧ ∀ c, bk = some c → b.Mine c ∧ c < w.heap.size ∧ (∀ o, g.F c o → o < N * sz) ∧
    (∀ id', (σ (.blk id')).isBlk = true → g.own id' ≠ some c) ∧ (∀ id' t' sz' N' N'', σ (.row id') = .row t' sz' N' → g.row id' = some (some c, N'') → id' = id) ∧
    ∃ (arr : List Value) (z : Nat × Nat), w.heap[c]? = some (.cells arr.toArray t z) ∧ ∀ o, o < arr.length → ¬ (z.1 ≤ o ∧ o < z.2)) : HSim b σ D g w :=
  ⟨below, flt, f0, f1, ownlt, rowlt, ownsz, rowsz, live, fun id t cells c hs hc => by have := claims id c (by rw [hs]; rfl) hc; rw [hs] at this; exact this,
    fun id t cells c hs hc => by have := claims id c (by rw [hs]; rfl) hc; rw [hs] at this; exact this, fun id s pos c hs hc => by have := claims id c (by rw [hs]; rfl) hc; rw [hs] at this; exact this,
    fun id X c hs hc => by have := claims id c (by rw [hs]; rfl) hc; rw [hs] at this; exact this, ro,
    fun id st pend nt tm ps assign body c hs hc => by have := claims id c (by rw [hs]; rfl) hc; rw [hs] at this; exact this, inj, row⟩

def G.put (g : G) (f c : Nat) : G := { g with own := fun i => if i = f then some c else g.own i }
theorem G.put_same (g : G) (f c : Nat) : (g.put f c).own f = some c := by simp [G.put]
theorem G.put_ne (g : G) {f c i : Nat} (h : i ≠ f) : (g.put f c).own i = g.own i := by simp [G.put, h]

theorem Ev.put {f c : Nat} (hf : g.own f = none) : Ev g w (g.put f c) w :=
  ⟨⟨fun _ _ h => ⟨h, rfl⟩, fun id c' hc => ⟨by rw [G.put_ne g (fun e => by rw [e, hf] at hc; cases hc)]; exact hc, rfl⟩, fun _ bk N h => ⟨bk, N, h, Nat.le_refl _, fun _ => ⟨rfl, fun _ _ => rfl⟩⟩, fun _ _ N h => .inl ⟨N, h⟩⟩, Nat.le_refl _, Nat.le_refl _, fun _ _ h => h⟩

/-- One more block of the call's own, that is there already and nobody's. -/
theorem HSim.add (h : HSim b σ D g w) {f c : Nat} {X : C} (hf : g.own f = none) (_hX : X.isBlk = true) (hc1 : b.Mine c) (hc2 : c < w.heap.size) (hcF : ∀ o, ¬ g.F c o)
    (hown : ∀ id, (σ (.blk id)).isBlk = true → g.own id ≠ some c) (hrow : ∀ id t sz N N', σ (.row id) = .row t sz N → g.row id ≠ some (some c, N')) (hcl : Claim w g c X) :
    HSim b (upd σ (.blk f) X) (fun i => D i ∨ i = f) (g.put f c) w := by
  have hE : Ev g w (g.put f c) w := Ev.put hf
  have e0 : ∀ id, id ≠ f → (upd σ (.blk f) X) (.blk id) = σ (.blk id) := fun id hne => upd_ne (by intro e; cases e; exact hne rfl)
  have e1 : (upd σ (.blk f) X) (.blk f) = X := upd_same _ _ _
  have e2 : ∀ id, (upd σ (.blk f) X) (.row id) = σ (.row id) := fun id => upd_ne (by intro e; cases e)
  refine HSim.of_claims h.below h.flt h.f0 h.f1 (fun id c' hc' => ?_) (fun id x hx => .inl (h.rowlt id x hx)) (fun id c' hc' => ?_) h.rowsz (fun id hl => ?_) (fun id c' hl hc' => ?_) (fun id id' c' hl hl' hc' hc'' => ?_) (fun id X' c' hs hc' => by
    by_cases hid : id = f
    · subst hid; rw [e1] at hs; subst hs; cases _hX
    · rw [e0 id hid] at hs; rw [G.put_ne g hid] at hc'; exact h.ro id X' c' hs hc') (fun id t sz N hs => ?_)
  · by_cases hid : id = f
    · exact .inr hid
    · rw [G.put_ne g hid] at hc'
      exact .inl (h.ownlt id c' hc')
  · by_cases hid : id = f
    · subst hid; rw [G.put_same] at hc'; cases hc'; exact hc2
    · rw [G.put_ne g hid] at hc'
      exact h.ownsz id c' hc'
  · by_cases hid : id = f
    · subst hid; exact ⟨c, G.put_same _ _ _, hc1, hc2, hcF⟩
    · rw [e0 id hid] at hl
      rw [G.put_ne g hid]
      exact h.live id hl
  · by_cases hid : id = f
    · subst hid
      rw [G.put_same] at hc'; cases hc'
      rw [e1]
      exact hcl.mono hE rfl
    · rw [e0 id hid] at hl ⊢
      rw [G.put_ne g hid] at hc'
      exact (h.claim hc').mono hE rfl
  · by_cases hid : id = f
    · subst hid
      rw [G.put_same] at hc'; cases hc'
      by_cases hid' : id' = id
      · exact hid'.symm
      · rw [e0 id' hid'] at hl'
        rw [G.put_ne g hid'] at hc''
        exact absurd hc'' (hown id' hl')
    · by_cases hid' : id' = f
      · subst hid'
        rw [G.put_same] at hc''; cases hc''
        rw [e0 id hid] at hl
        rw [G.put_ne g hid] at hc'
        exact absurd hc' (hown id hl)
      · rw [e0 id hid] at hl
        rw [e0 id' hid'] at hl'
        rw [G.put_ne g hid] at hc'
        rw [G.put_ne g hid'] at hc''
        exact h.inj id id' c' hl hl' hc' hc''
  · rw [e2] at hs
    obtain ⟨bk, h1, h2⟩ := h.row id t sz N hs
    refine ⟨bk, h1, fun c' hc' => ?_⟩
    obtain ⟨a1, a2, a3, a4, a5, a6⟩ := h2 c' hc'
    refine ⟨a1, a2, a3, fun id' hl' => ?_, fun id' t' sz' N' N'' hs' => ?_, a6⟩
    · by_cases hid' : id' = f
      · subst hid'
        rw [G.put_same]
        intro e; cases e
        exact hrow id t sz N N hs (by rw [h1, hc'])
      · rw [e0 id' hid'] at hl'
        rw [G.put_ne g hid']
        exact a4 id' hl'
    · rw [e2] at hs'
      exact a5 id' t' sz' N' N'' hs'

/-- Only block c of w has turned, and it keeps its shape. -/
structure Wr (c : Nat) (w w' : World) : Prop where
  os : w'.os = w.os
  tape : w'.tape = w.tape
  output : w'.output = w.output
  size : w'.heap.size = w.heap.size
  block : ∀ k, k ≠ c → w'.heap[k]? = w.heap[k]?
  shape : w'.shape? c = w.shape? c
  dfr : ∀ (ds : Option (List Deferred)), w.heap[c]? = some (Obj.deferred ds) → w'.heap[c]? = some (Obj.deferred ds)
  drawn : w'.drawn = w.drawn

theorem BelowX.wr {ex : Nat → Prop} {c B : Nat} (h : Wr c w w') (hB : B ≤ c ∨ ex c) : BelowX ex B w w' := by
  refine ⟨h.os, h.tape, h.output, by rw [h.size]; exact Nat.le_refl _, fun k hk hn => h.block k (fun e => ?_), fun k _ => ?_⟩
  · subst e
    rcases hB with hB | hB
    · omega
    · exact hn hB
  · by_cases e : k = c
    · subst e; exact h.shape
    · unfold World.shape?; rw [h.block k e]
theorem Wr.below {c B : Nat} (h : Wr c w w') (hB : B ≤ c) : Below B w w' := ⟨h.os, h.tape, h.output, by rw [h.size]; exact Nat.le_refl _, fun k hk => h.block k (by omega)⟩
theorem Wr.cell {c k o : Nat} (h : Wr c w w') (hk : k ≠ c) : w'.cell? ⟨k, o, none⟩ = w.cell? ⟨k, o, none⟩ := by
  unfold World.cell?
  simp only [h.block k hk]
theorem Wr.shapes {c : Nat} (h : Wr c w w') (k : Nat) : w'.shape? k = w.shape? k := by
  by_cases hk : k = c
  · subst hk; exact h.shape
  · unfold World.shape?
    rw [h.block k hk]

theorem Wr.dfrs {c : Nat} (h : Wr c w w') (d : Nat) (ds : Option (List Deferred)) (hd : w.heap[d]? = some (.deferred ds)) : w'.heap[d]? = some (.deferred ds) := by
  by_cases hk : d = c
  · subst hk; exact h.dfr ds hd
  · exact (h.block d hk).trans hd

theorem Ev.write {c : Nat} (hw : Wr c w w') (hF : ∀ o, ¬ g.F c o) : Ev g w g w' :=
  ⟨⟨fun _ o hk => ⟨hk, hw.cell (fun e => hF o (e ▸ hk))⟩, fun _ c hc => ⟨hc, hw.shapes c⟩, fun _ bk N h => ⟨bk, N, h, Nat.le_refl _, fun _ => ⟨rfl, fun c _ => hw.shapes c⟩⟩, fun _ _ N h => .inl ⟨N, h⟩⟩, Nat.le_of_eq hw.size.symm, Nat.le_of_eq hw.drawn.symm, hw.dfrs⟩

/-- A block of the call's own is written. -/
theorem HSim.write (h : HSim b σ D g w) {id c : Nat} {X : C} (hl : (σ (.blk id)).isBlk = true) (hc : g.own id = some c) (hw : Wr c w w') (hcl : X.isBlk = true → Claim w' g c X) (hro : ∀ Y, X ≠ .ro Y := by intro Y e; cases e) :
    HSim b (upd σ (.blk id) X) D g w' ∧ Ev g w g w' := by
  obtain ⟨c', hc', hc1, hc2, hcF⟩ := h.live id hl
  have : c' = c := by rw [hc] at hc'; cases hc'; rfl
  subst this
  have hE : Ev g w g w' := Ev.write hw hcF
  have e0 : ∀ id', id' ≠ id → (upd σ (.blk id) X) (.blk id') = σ (.blk id') := fun id' hne => upd_ne (by intro e; cases e; exact hne rfl)
  have e1 : (upd σ (.blk id) X) (.blk id) = X := upd_same _ _ _
  have e2 : ∀ id', (upd σ (.blk id) X) (.row id') = σ (.row id') := fun id' => upd_ne (by intro e; cases e)
  have hlv : ∀ id', ((upd σ (.blk id) X) (.blk id')).isBlk = true → (σ (.blk id')).isBlk = true := fun id' h' => by
    by_cases hid : id' = id
    · subst hid; exact hl
    · rwa [e0 id' hid] at h'
  refine ⟨HSim.of_claims (h.below.trans (.wr hw hc1)) (fun k o hk => by rw [hw.size]; exact h.flt k o hk) h.f0 h.f1 h.ownlt h.rowlt (fun id c hc => by rw [hw.size]; exact h.ownsz id c hc) (fun id c N hc => by rw [hw.size]; exact h.rowsz id c N hc)
    (fun id' hl' => by rw [hw.size]; exact h.live id' (hlv id' hl')) (fun id' c'' hl' hc'' => ?_) (fun i j k hi hj => h.inj i j k (hlv i hi) (hlv j hj)) (fun id' Y c'' hs hc'' => by
      by_cases hid : id' = id
      · subst hid; rw [e1] at hs; exact absurd hs (hro Y)
      · rw [e0 id' hid] at hs; exact h.ro id' Y c'' hs hc'') (fun id' t sz N hs => ?_), hE⟩
  · by_cases hid : id' = id
    · subst hid
      rw [e1] at hl' ⊢
      have : c'' = c' := by rw [hc] at hc''; cases hc''; rfl
      subst this
      exact hcl hl'
    · rw [e0 id' hid] at hl' ⊢
      have hne : c'' ≠ c' := fun e => hid (h.inj id' id c' hl' hl (e ▸ hc'') hc)
      exact (h.claim hc'').mono hE (hw.block c'' hne)
  · rw [e2] at hs
    obtain ⟨bk, h1, h2⟩ := h.row id' t sz N hs
    refine ⟨bk, h1, fun k hk => ?_⟩
    obtain ⟨a1, a2, a3, a4, a5, arr, z, a6, a7⟩ := h2 k hk
    have hne : k ≠ c' := fun e => a4 id hl (e ▸ hc)
    exact ⟨a1, by rw [hw.size]; exact a2, a3, fun i hi => a4 i (hlv i hi), fun i t' sz' N' N'' hs' => by rw [e2] at hs'; exact a5 i t' sz' N' N'' hs', arr, z, (hw.block k hne).trans a6, a7⟩

/-- Room of a row of the call's own, behind what is to be seen of it, is written. -/
theorem HSim.writeRow (h : HSim b σ D g w) {id c sz N : Nat} {t : TypeId} (hs : σ (.row id) = .row t sz N) (hr : g.row id = some (some c, N)) (hw : Wr c w w') (hkeep : ∀ o, o < N * sz → w'.cell? ⟨c, o, none⟩ = w.cell? ⟨c, o, none⟩)
    (hcl : ∃ (arr : List Value) (z : Nat × Nat), w'.heap[c]? = some (.cells arr.toArray t z) ∧ ∀ o, o < arr.length → ¬ (z.1 ≤ o ∧ o < z.2)) : HSim b σ D g w' ∧ Ev g w g w' := by
  obtain ⟨bk, h1, h2⟩ := h.row id t sz N hs
  have : bk = some c := by rw [hr] at h1; cases h1; rfl
  subst this
  obtain ⟨a1, a2, a3, a4, a5, _⟩ := h2 c rfl
  have hE : Ev g w g w' := ⟨⟨fun k o hk => ⟨hk, by
    by_cases hkc : k = c
    · subst hkc; exact hkeep o (a3 o hk)
    · exact hw.cell hkc⟩, fun _ c hc => ⟨hc, hw.shapes c⟩, fun _ bk N h => ⟨bk, N, h, Nat.le_refl _, fun _ => ⟨rfl, fun c _ => hw.shapes c⟩⟩, fun _ _ N h => .inl ⟨N, h⟩⟩, Nat.le_of_eq hw.size.symm, Nat.le_of_eq hw.drawn.symm, hw.dfrs⟩
  refine ⟨HSim.of_claims (h.below.trans (.wr hw a1)) (fun k o hk => by rw [hw.size]; exact h.flt k o hk) h.f0 h.f1 h.ownlt h.rowlt (fun id c hc => by rw [hw.size]; exact h.ownsz id c hc) (fun id c N hc => by rw [hw.size]; exact h.rowsz id c N hc)
    (fun id' hl' => by rw [hw.size]; exact h.live id' hl') (fun id' c'' hl' hc'' => ?_) h.inj h.ro (fun id' t' sz' N' hs' => ?_), hE⟩
  · exact (h.claim hc'').mono hE (hw.block c'' (fun e => a4 id' hl' (e ▸ hc'')))
  · obtain ⟨bk, h1', h2'⟩ := h.row id' t' sz' N' hs'
    refine ⟨bk, h1', fun k hk => ?_⟩
    obtain ⟨b1, b2, b3, b4, b5, arr, z, b6, b7⟩ := h2' k hk
    refine ⟨b1, by rw [hw.size]; exact b2, b3, b4, b5, ?_⟩
    by_cases hkc : k = c
    · subst hkc
      obtain ⟨arr', z', e1, e2⟩ := hcl
      have hid : id' = id := a5 id' t' sz' N' N' hs' (by rw [h1', hk])
      subst hid
      have : t' = t := by rw [hs] at hs'; cases hs'; rfl
      subst this
      exact ⟨arr', z', e1, e2⟩
    · exact ⟨arr, z, (hw.block k hkc).trans b6, b7⟩

def G.setRow (g : G) (id c N sz : Nat) : G := { g with F := fun k o => g.F k o ∨ (k = c ∧ o < N * sz), row := fun i => if i = id then some (some c, N) else g.row i }
theorem G.setRow_same (g : G) (id c N sz : Nat) : (g.setRow id c N sz).row id = some (some c, N) := by simp [G.setRow]
theorem G.setRow_ne (g : G) {id c N sz i : Nat} (h : i ≠ id) : (g.setRow id c N sz).row i = g.row i := by simp [G.setRow, h]

theorem Ev.setRow {id c N sz : Nat} (ho : ∀ bk M, g.row id = some (bk, M) → M < N) (hfr : (∃ N0, g.row id = some (some c, N0)) ∨ ∀ o, ¬ g.F c o) : Ev g w (g.setRow id c N sz) w := by
  refine ⟨⟨fun k o hk => ⟨.inl hk, rfl⟩, fun id c hc => ⟨hc, rfl⟩, fun i bk M hi => ?_, fun i k M hi => ?_⟩, Nat.le_refl _, Nat.le_refl _, fun _ _ h => h⟩
  by_cases hid : i = id
  · subst hid
    have := ho bk M hi
    exact ⟨some c, N, G.setRow_same _ _ _ _ _, by omega, fun e => absurd e (by omega)⟩
  · exact ⟨bk, M, by rw [G.setRow_ne g hid]; exact hi, Nat.le_refl _, fun _ => ⟨rfl, fun _ _ => rfl⟩⟩
  by_cases hid : i = id
  · subst hid
    rw [G.setRow_same] at hi
    cases hi
    exact hfr
  · rw [G.setRow_ne g hid] at hi
    exact .inl ⟨M, hi⟩

/-- A row is so long now, and lies there. -/
theorem HSim.setRow (h : HSim b σ D g w) {id c N sz : Nat} {t : TypeId} (ho : ∀ bk M, g.row id = some (bk, M) → M < N) (hfr : (∃ N0, g.row id = some (some c, N0)) ∨ ∀ o, ¬ g.F c o) (hc1 : b.Mine c) (hc2 : c < w.heap.size) (hcF : ∀ o, g.F c o → o < N * sz)
    (hown : ∀ id, (σ (.blk id)).isBlk = true → g.own id ≠ some c) (hrow : ∀ id' t sz N N', id' ≠ id → σ (.row id') = .row t sz N → g.row id' ≠ some (some c, N'))
    (hcl : ∃ (arr : List Value) (z : Nat × Nat), w.heap[c]? = some (.cells arr.toArray t z) ∧ ∀ o, o < arr.length → ¬ (z.1 ≤ o ∧ o < z.2)) :
    HSim b (upd σ (.row id) (.row t sz N)) (fun i => D i ∨ i = id) (g.setRow id c N sz) w := by
  have hE : Ev g w (g.setRow id c N sz) w := Ev.setRow ho hfr
  have e0 : ∀ id', (upd σ (.row id) (.row t sz N)) (.blk id') = σ (.blk id') := fun id' => upd_ne (by intro e; cases e)
  have e1 : (upd σ (.row id) (.row t sz N)) (.row id) = .row t sz N := upd_same _ _ _
  have e2 : ∀ id', id' ≠ id → (upd σ (.row id) (.row t sz N)) (.row id') = σ (.row id') := fun id' hne => upd_ne (by intro e; cases e; exact hne rfl)
  refine HSim.of_claims h.below (fun k o hk => ?_) (fun k o hk => .inl (h.f0 k o hk)) (fun k o hk hlt hx => ?_) (fun i c hc => .inl (h.ownlt i c hc)) (fun i x hx => ?_) h.ownsz (fun i k N' hk => ?_) (fun i hl => ?_) (fun i k hl hk => ?_) (fun i j k hi hj => ?_) (fun i Y k hs hk => by rw [e0] at hs; exact h.ro i Y k hs hk) (fun i t' sz' N' hs => ?_)
  · rcases hk with hk | ⟨rfl, _⟩
    · exact h.flt k o hk
    · exact hc2
  · rcases hk with hk | ⟨rfl, _⟩
    · exact h.f1 k o hk hlt hx
    · rcases hc1 with hc1 | hc1
      · omega
      · exact absurd hc1 hx
  · by_cases hid : i = id
    · exact .inr hid
    · rw [G.setRow_ne g hid] at hx; exact .inl (h.rowlt i x hx)
  · by_cases hid : i = id
    · subst hid; rw [G.setRow_same] at hk; cases hk; exact hc2
    · rw [G.setRow_ne g hid] at hk; exact h.rowsz i k N' hk
  · rw [e0] at hl
    obtain ⟨k, h1, h2, h3, h4⟩ := h.live i hl
    refine ⟨k, h1, h2, h3, fun o ho => ?_⟩
    rcases ho with ho | ⟨rfl, _⟩
    · exact h4 o ho
    · exact hown i hl h1
  · rw [e0] at hl ⊢
    exact (h.claim hk).mono hE rfl
  · rw [e0] at hi hj
    exact h.inj i j k hi hj
  · by_cases hid : i = id
    · subst hid
      rw [e1] at hs; cases hs
      refine ⟨some c, G.setRow_same _ _ _ _ _, fun k hk => ?_⟩
      cases hk
      refine ⟨hc1, hc2, fun o ho => ?_, fun i hl => ?_, fun j t' sz' N' N'' hj hr => ?_, hcl⟩
      · rcases ho with ho | ⟨_, ho⟩
        · exact hcF o ho
        · exact ho
      · rw [e0] at hl
        exact hown i hl
      · by_cases hji : j = i
        · exact hji
        · rw [e2 j hji] at hj
          rw [G.setRow_ne g hji] at hr
          exact absurd hr (hrow j t' sz' N' N'' hji hj)
    · rw [e2 i hid] at hs
      obtain ⟨bk, h1, h2⟩ := h.row i t' sz' N' hs
      refine ⟨bk, by rw [G.setRow_ne g hid]; exact h1, fun k hk => ?_⟩
      obtain ⟨b1, b2, b3, b4, b5, b6⟩ := h2 k hk
      have hne : k ≠ c := fun e => hrow i t' sz' N' N' hid hs (by rw [h1, hk, e])
      refine ⟨b1, b2, fun o ho => ?_, fun j hl => ?_, fun j t'' sz'' M M' hj hr => ?_, b6⟩
      · rcases ho with ho | ⟨e, _⟩
        · exact b3 o ho
        · exact absurd e hne
      · rw [e0] at hl
        exact b4 j hl
      · by_cases hji : j = id
        · subst hji
          rw [G.setRow_same] at hr
          cases hr
          exact absurd rfl hne
        · rw [e2 j hji] at hj
          rw [G.setRow_ne g hji] at hr
          exact b5 j t'' sz'' M M' hj hr

/-- A block, or a row, is not used any more. -/
theorem HSim.drop (h : HSim b σ D g w) (l : Loc) : HSim b (upd σ l .none) D g w := by
  have hb : ∀ id, ((upd σ l .none) (.blk id)).isBlk = true → (upd σ l .none) (.blk id) = σ (.blk id) := fun id hl => by
    by_cases e : (Loc.blk id) = l
    · subst e; rw [upd_same] at hl; cases hl
    · exact upd_ne e
  have hr : ∀ id t sz N, (upd σ l .none) (.row id) = .row t sz N → σ (.row id) = .row t sz N := fun id t sz N hl => by
    by_cases e : (Loc.row id) = l
    · subst e; rw [upd_same] at hl; cases hl
    · rwa [upd_ne e] at hl
  refine HSim.of_claims h.below h.flt h.f0 h.f1 h.ownlt h.rowlt h.ownsz h.rowsz (fun id hl => h.live id (by rw [← hb id hl]; exact hl)) (fun id c hl hc => by rw [hb id hl]; exact h.claim hc)
    (fun i j k hi hj => h.inj i j k (by rw [← hb i hi]; exact hi) (by rw [← hb j hj]; exact hj)) (fun id Y c hs hc => h.ro id Y c (by
      by_cases e : (Loc.blk id) = l
      · subst e; rw [upd_same] at hs; cases hs
      · rwa [upd_ne e] at hs) hc) (fun id t sz N hs => ?_)
  obtain ⟨bk, h1, h2⟩ := h.row id t sz N (hr _ _ _ _ hs)
  refine ⟨bk, h1, fun k hk => ?_⟩
  obtain ⟨b1, b2, b3, b4, b5, b6⟩ := h2 k hk
  exact ⟨b1, b2, b3, fun j hl => b4 j (by rw [← hb j hl]; exact hl), fun j t'' sz'' M M' hj hr' => b5 j t'' sz'' M M' (hr _ _ _ _ hj) hr', b6⟩

/-- Slots are none of it. -/
theorem HSim.congr {σ' : St} (h : HSim b σ D g w) (h1 : ∀ id, σ' (.blk id) = σ (.blk id)) (h2 : ∀ id, σ' (.row id) = σ (.row id)) : HSim b σ' D g w := by
  refine HSim.of_claims h.below h.flt h.f0 h.f1 h.ownlt h.rowlt h.ownsz h.rowsz (fun id hl => h.live id (by rw [← h1]; exact hl)) (fun id c hl hc => by rw [h1]; exact h.claim hc)
    (fun i j k hi hj => h.inj i j k (by rw [← h1]; exact hi) (by rw [← h1]; exact hj)) (fun id Y c hs hc => h.ro id Y c (by rw [← h1]; exact hs) hc) (fun id t sz N hs => ?_)
  rw [h2] at hs
  obtain ⟨bk, a1, a2⟩ := h.row id t sz N hs
  refine ⟨bk, a1, fun k hk => ?_⟩
  obtain ⟨b1, b2, b3, b4, b5, b6⟩ := a2 k hk
  exact ⟨b1, b2, b3, fun j hl => b4 j (by rw [← h1]; exact hl), fun j t'' sz'' M M' hj hr' => b5 j t'' sz'' M M' (by rw [← h2]; exact hj) hr', b6⟩
end Go.Am

namespace Go.Am
open Go.RowKit

inductive TI where
  | int (k : IntKind)
  | bool
  | str
  | slice (e : TypeId)
  | arr (n : Nat) (e : TypeId)
  | struct (fs : List (Nat × TypeId))
  | ptr (e : TypeId)
  | iface
  | func
  | map
  | other

structure TRow where
  ti : TI
  size : Nat
  bytes : Nat
  zero : List V

def nth {α : Type} : List α → Nat → Option α
  | [], _ => none
  | x :: _, 0 => some x
  | _ :: l, n + 1 => nth l n
theorem nth_eq {α : Type} : ∀ (l : List α) (n : Nat), nth l n = l[n]?
  | [], _ => by simp [nth]
  | _ :: _, 0 => by simp [nth]
  | _ :: l, n + 1 => by simp [nth, nth_eq l n]

/-- n of them, from the front. -/
def takeN {α : Type} : List α → Nat → Option (List α)
  | _, 0 => some []
  | [], _ + 1 => none
  | x :: l, n + 1 => match takeN l n with | some r => some (x :: r) | none => none
def dropN {α : Type} : List α → Nat → List α
  | l, 0 => l
  | [], _ + 1 => []
  | _ :: l, n + 1 => dropN l n
theorem dropN_eq {α : Type} : ∀ (l : List α) (n : Nat), dropN l n = l.drop n
  | l, 0 => by simp [dropN]
  | [], _ + 1 => by simp [dropN]
  | _ :: l, n + 1 => by simp [dropN, dropN_eq l n]
theorem takeN_eq {α : Type} : ∀ (l : List α) (n : Nat) (r : List α), takeN l n = some r → r = l.take n ∧ r.length = n
  | l, 0, r, h => by simp [takeN] at h; subst h; simp
  | [], _ + 1, r, h => by simp [takeN] at h
  | x :: l, n + 1, r, h => by
    simp only [takeN] at h
    cases hk : takeN l n with
    | none => simp [hk] at h
    | some q =>
      simp [hk] at h
      obtain ⟨h1, h2⟩ := takeN_eq l n q hk
      subst h
      subst h1
      simp at h2 ⊢
      exact h2
/-- Cells in place of those from a place on. -/
def splice {α : Type} : List α → Nat → List α → Option (List α)
  | l, 0, [] => some l
  | _ :: l, 0, y :: ys => match splice l 0 ys with | some r => some (y :: r) | none => none
  | [], 0, _ :: _ => none
  | x :: l, n + 1, ys => match splice l n ys with | some r => some (x :: r) | none => none
  | [], _ + 1, _ => none
theorem splice_eq {α : Type} : ∀ (l : List α) (n : Nat) (ys r : List α), splice l n ys = some r → n + ys.length ≤ l.length ∧ r = l.take n ++ ys ++ l.drop (n + ys.length)
  | l, 0, [], r, h => by simp [splice] at h; subst h; simp
  | [], 0, _ :: _, r, h => by simp [splice] at h
  | [], _ + 1, _, r, h => by simp [splice] at h
  | x :: l, 0, y :: ys, r, h => by
    simp only [splice] at h
    cases hk : splice l 0 ys with
    | none => simp [hk] at h
    | some q =>
      simp [hk] at h
      obtain ⟨h1, h2⟩ := splice_eq l 0 ys q hk
      subst h
      rw [h2]
      simp at h1 ⊢
      omega
  | x :: l, n + 1, ys, r, h => by
    simp only [splice] at h
    cases hk : splice l n ys with
    | none => simp [hk] at h
    | some q =>
      simp [hk] at h
      obtain ⟨h1, h2⟩ := splice_eq l n ys q hk
      subst h
      rw [h2]
      constructor
      · simp; omega
      · have : n + 1 + ys.length = (n + ys.length) + 1 := by omega
        rw [this]
        simp

def constV : Value → V
  | .int k n => .int k n
  | .bool true => .tt
  | .bool false => .ff
  | .string s => .str s.data.toList
  | .pointer none => .nilp
  | .slice none 0 0 => .lst true 1 [] .tight
  | .nilFunc => .nilf
  | .nilIface => .nili
  | _ => .junk

theorem constV_rep (w : World) (g : G) (v : Value) : Rep w g (constV v) v := by
  cases v with
  | bool b => cases b <;> first | exact .pure .ff | exact .pure .tt
  | pointer a => cases a <;> first | exact .pure .nilp | exact .junk
  | slice a n c =>
    cases a with
    | some a => exact .junk
    | none =>
      cases n with
      | succ n => exact .junk
      | zero =>
        cases c with
        | succ c => exact .junk
        | zero =>
          refine .lst (.lst (els := []) (fun _ _ => undef) rfl (Nat.le_refl _) (by simp) ?_ ?_ ?_) rfl
          · intro i el j x h; simp at h
          · intro i el j x h; simp at h
          · intro i el j x h; simp at h
  | int k n => exact .pure (.int k n)
  | string s => exact .pure (.str rfl)
  | nilFunc => exact .pure .nilf
  | nilIface => exact .pure .nili
  | _ => exact .junk

/-- A zero cell of a type: a constant. A nil slice bears the elements' size 1: it has none, so any size does. -/
def TRow.ok (P : Program) (t : TypeId) (r : TRow) : Prop :=
  (match r.ti with
    | .int k => P.underlying t = some (.int k)
    | .bool => P.underlying t = some .bool
    | .str => P.underlying t = some .string
    | .slice e => P.underlying t = some (.slice e)
    | .arr n e => P.underlying t = some (.array n e)
    | .struct fs => ∃ fields places, P.underlying t = some (.struct fields) ∧ fields.toList.map (fun f => (f.offset, f.type)) = fs ∧ fields.toList.mapM (fun f => (P.info? f.type).map fun i => (f.offset, i.size)) = some places
    | .ptr e => P.underlying t = some (.pointer e)
    | .iface => ∃ ms, P.underlying t = some (.interface ms)
    | .func => ∃ a b c, P.underlying t = some (.func a b c)
    | .map => ∃ a b, P.underlying t = some (.map a b)
    | .other => True) ∧
  ∃ i z, P.info? t = some i ∧ i.size = r.size ∧ i.bytes = r.bytes ∧ i.zero = some z ∧ z.cells.toList.map constV = r.zero ∧ z.cells.size = r.size ∧ (z.cells = #[z] ∨ ∃ cs, z = .agg cs)

abbrev Tab := List (Nat × TRow)
def nthT : Tab → Nat → Option TRow
  | [], _ => none
  | (k, r) :: l, t => match Nat.beq k t with | true => some r | false => nthT l t
def TOk (P : Program) (T : Tab) : Prop := ∀ t r, nthT T t = some r → r.ok P t

def tmpV (σ : St) (t : Nat) : V := match σ (.tmp t) with | .v x => x | _ => .junk
def opV (σ : St) : Operand → V
  | .tmp t => tmpV σ t
  | .const v => constV v
  | .global _ => .junk
  | .func f => .func f [] []

/-- A value of one cell. -/
def oneV : V → Bool
  | .agg _ | .tup _ | .junk => false
  | _ => true
def oneAll : List V → Bool
  | [] => true
  | x :: l => match oneV x with | true => oneAll l | false => false
def cellsOf : V → Option (List V)
  | .agg cs => match oneAll cs with | true => some cs | false => none
  | .junk => none
  | .tup _ => none
  | v => some [v]

/-- Is it pure by its looks? -/
def pureV : V → Bool
  | .int .. | .bool _ | .tt | .ff | .str _ | .nilp | .nilf | .nili => true
  | .lst _ _ _ _ => true
  | .func _ [] [] => true
  | _ => false
def pureAll : List V → Bool
  | [] => true
  | x :: l => match pureV x with | true => pureAll l | false => false
/-- What is known of the room behind it forgotten. -/
def forget : V → V
  | .lst a b c _ => .lst a b c .none
  | .tt => .bool true
  | .ff => .bool false
  | v => v
def forgetAll : List V → List V
  | [] => []
  | x :: l => forget x :: forgetAll l

inductive Req : Type 1 where
  | ok (v : V) (us : List (Loc × C))
  | need (p : Prop) (r : Req)
  | pick (α : Type) (f : α → Req)
  | fail

def Req.wp (K : V → List (Loc × C) → Prop) (r : Req) : Prop :=
  Req.rec (motive := fun _ => Prop) (fun v us => K v us) (fun p _ ih => p ∧ ih) (fun α _ ih => ∃ x : α, ih x) False r
def Req.Gives (v : V) (us : List (Loc × C)) : Req → Prop
  | .ok v' us' => v = v' ∧ us = us'
  | .need p r => p ∧ r.Gives v us
  | .pick α f => ∃ x : α, (f x).Gives v us
  | .fail => False
theorem Req.gives {K : V → List (Loc × C) → Prop} : ∀ (r : Req), r.wp K → ∃ v us, r.Gives v us ∧ K v us
  | .ok v us, h => ⟨v, us, ⟨rfl, rfl⟩, h⟩
  | .need _ r, h => let ⟨v, us, h1, h2⟩ := r.gives h.2; ⟨v, us, ⟨h.1, h1⟩, h2⟩
  | .pick _ f, ⟨x, h⟩ => let ⟨v, us, h1, h2⟩ := (f x).gives h; ⟨v, us, ⟨x, h1⟩, h2⟩
  | .fail, h => h.elim

def updAll (σ : St) : List (Loc × C) → St
  | [] => σ
  | (l, c) :: us => updAll (upd σ l c) us

def bytesV (s : List UInt8) : List V := s.map fun c => .int .u8 c.toNat
def repl (n : Nat) (z : List V) : List V := (List.replicate n z).flatten

/-- Are they alike? Of values whose likeness is plain. -/
def eqV : V → V → Option Bool
  | .int _ a, .int _ b => some (a == b)
  | .str a, .str b => some (decide (a = b))
  | .tt, .tt => some true
  | .ff, .ff => some true
  | .tt, .ff => some false
  | .ff, .tt => some false
  | .bool a, .bool b => some (a == b)
  | .bool a, .tt => some a
  | .tt, .bool a => some a
  | .bool a, .ff => some (!a)
  | .ff, .bool a => some (!a)
  | _, _ => none
def eqAll : List V → List V → Option Bool
  | [], [] => some true
  | [x], [y] => eqV x y
  | x :: l, y :: m => match eqV x y with
    | some a => match eqAll l m with | some b => some (a && b) | none => none
    | none => none
  | _, _ => none

def boolV : Bool → V := .bool
def notV : V → Option V
  | .tt => some .ff
  | .ff => some .tt
  | .bool b => some (.bool (!b))
  | _ => none

def stepInt (op : BinOp) (k : IntKind) (a b : Int) : Req :=
  match op with
  | .add => .ok (.int k (k.wrap (a + b))) []
  | .sub => .ok (.int k (k.wrap (a - b))) []
  | .mul => .ok (.int k (k.wrap (a * b))) []
  | .quo => match b == 0 with | false => .ok (.int k (k.wrap (a.tdiv b))) [] | true => .fail
  | .rem => match b == 0 with | false => .ok (.int k (a.tmod b)) [] | true => .fail
  | .and => .ok (.int k (k.wrap ((BitVec.ofInt k.bits a &&& BitVec.ofInt k.bits b).toNat : Int))) []
  | .or => .ok (.int k (k.wrap ((BitVec.ofInt k.bits a ||| BitVec.ofInt k.bits b).toNat : Int))) []
  | .xor => .ok (.int k (k.wrap ((BitVec.ofInt k.bits a ^^^ BitVec.ofInt k.bits b).toNat : Int))) []
  | .eql => .ok (.bool (a == b)) []
  | .neq => .ok (.bool (a != b)) []
  | .lss => .ok (.bool (decide (a < b))) []
  | .leq => .ok (.bool (decide (a ≤ b))) []
  | .gtr => .ok (.bool (decide (b < a))) []
  | .geq => .ok (.bool (decide (b ≤ a))) []
  | .shl => .need (0 ≤ b) (.ok (.int k (k.wrap (a * 2 ^ min b.toNat k.bits))) [])
  | .shr => .need (0 ≤ b) (.ok (.int k (a.fdiv (2 ^ min b.toNat k.bits))) [])
  | _ => .fail

def isShift : BinOp → Bool
  | .shl | .shr => true
  | _ => false
def kindEq : IntKind → IntKind → Bool
  | .i8, .i8 | .i16, .i16 | .i32, .i32 | .i64, .i64 | .u8, .u8 | .u16, .u16 | .u32, .u32 | .u64, .u64 => true
  | _, _ => false
theorem kindEq_iff {j k : IntKind} (h : kindEq j k = true) : j = k := by cases j <;> cases k <;> first | rfl | cases h

def stepBin (op : BinOp) (x y : V) : Req :=
  match x, y with
  | .int k a, .int j b => match isShift op with
    | true => stepInt op k a b
    | false => match kindEq k j with | true => stepInt op k a b | false => .fail
  | .str a, .str b => match op with
    | .add => .need (a.length + b.length < 9223372036854775808) (.ok (.str (a ++ b)) [])
    | .eql => .ok (.bool (decide (a = b))) []
    | .neq => .ok (.bool (!decide (a = b))) []
    | .lss => .ok (.bool (Op.bytesLess a b)) []
    | .gtr => .ok (.bool (!(Op.bytesLess a b || decide (a = b)))) []
    | .leq => .ok (.bool (Op.bytesLess a b || decide (a = b))) []
    | .geq => .ok (.bool (!Op.bytesLess a b)) []
    | _ => .fail
  | _, _ => .fail
end Go.Am

namespace Go.Am
open Go.RowKit

/-- An operation that touches no memory but what never turns, told by what it answers. (For what 'stepOp' does not know.) -/
def PureOp (P : Program) (σ : St) (o : Oper) (v : V) : Prop :=
  ∀ (g : G) (a : Act) (w : World), (∀ x ∈ o.op.operands, Rep w g (opV σ x) (a.eval x)) → ∃ val, (execOp a.eval o).run P w = .ok (.value val) w ∧ Rep w g v val

def trow (T : Tab) (t : TypeId) : Option TRow := nthT T t
/-- The size of a type that is one cell; of a struct, or array, its size, and true. -/
def tsize (T : Tab) (t : TypeId) : Option (Nat × Bool) :=
  match nthT T t with
  | some ⟨.struct _, n, _, _⟩ => some (n, true)
  | some ⟨.arr _ _, n, _, _⟩ => some (n, true)
  | some ⟨.other, _, _, _⟩ => none
  | some ⟨_, n, _, _⟩ => some (n, false)
  | none => none

/-- Parts laid into cells. -/
def fillV (place : Nat → Option (Nat × Nat)) : List (Nat × V) → List V → Option (List V)
  | [], cells => some cells
  | (i, x) :: ps, cells => match place i with
    | none => none
    | some (off, size) => match cellsOf x with
      | none => none
      | some cs => match Nat.beq cs.length size with
        | false => none
        | true => match splice cells off cs with
          | none => none
          | some cells' => fillV place ps cells'
def partsV (σ : St) : List (Nat × Operand) → List (Nat × V)
  | [] => []
  | (i, x) :: l => (i, opV σ x) :: partsV σ l
/-- Cells by rows of so many. -/
def chunk (sz : Nat) : (n : Nat) → List V → Option (List (List V))
  | 0, [] => some []
  | 0, _ :: _ => none
  | n + 1, l => match takeN l sz with
    | none => none
    | some r => match chunk sz n (dropN l sz) with
      | none => none
      | some rs => some (r :: rs)
/-- Cells of a value that has n: of a struct, or an array, as it is; else the only one. -/
def partV (agg : Bool) (size off : Nat) (cells : List V) : Option V :=
  match agg with
  | true => match takeN (dropN cells off) size with | some cs => some (.agg cs) | none => none
  | false => nth cells off
def intV : V → Option Int
  | .int _ n => some n
  | _ => none
def optInt (σ : St) : Option Operand → Option (Option Int)
  | none => some none
  | some x => match opV σ x with | .int _ n => some (some n) | _ => none

/-- What rows a slice, or a text, has that is appended: elements of so many cells. -/
def rowsOf (σ : St) (T : Tab) (tx : TypeId) (sz : Nat) (x : V) (k : List (List V) → Req) : Req :=
  match x with
  | .lst _ sz' els _ => match trow T tx with
    | some ⟨.slice _, _, _, _⟩ => match Nat.beq sz' sz with
      | true => k els
      | false => .need (els = []) (k [])
    | _ => .fail
  | .str s => match trow T tx, Nat.beq sz 1 with
    | some ⟨.str, _, _, _⟩, true => k (s.map fun c => [.int .u8 c.toNat])
    | _, _ => .fail
  | .own b off sz' len _ => match trow T tx with
    | some ⟨.slice _, _, _, _⟩ => match Nat.beq sz' sz with
      | false => .fail
      | true => match σ (.blk b) with
        | .mem _ cells => .pick (List (List V)) fun els => .need (els.length = len ∧ (∀ el ∈ els, el.length = sz) ∧ off + len * sz ≤ cells.length ∧ (cells.drop off).take (len * sz) = els.flatten ∧ oneAll els.flatten = true) (k els)
        | .box _ cells => .pick (List (List V)) fun els => .need (els.length = len ∧ (∀ el ∈ els, el.length = sz) ∧ off + len * sz ≤ cells.length ∧ forgetAll ((cells.drop off).take (len * sz)) = els.flatten ∧ pureAll ((cells.drop off).take (len * sz)) = true) (k els)
        | _ => .fail
    | _ => .fail
  | _ => .fail

def tokTail : Tok → Tok
  | .tight => .tight
  | _ => .none
def tokHead : Tok → Tok
  | .row id => .row id
  | _ => .none
def Fits (n bytes : Nat) : Prop := n ≤ 140737488355328 ∧ n * bytes ≤ 140737488355328

def appendLst (σ : St) (f : Nat) (e : TypeId) (sz bytes : Nat) (isNil : Bool) (tk : Tok) (news els : List (List V)) : Req :=
  match tk with
  | .none => .fail
  | .tight => .need (Fits (els.length + news.length) bytes) (.ok (.lst (isNil && news.isEmpty) sz (els ++ news) (.row f)) [(.row f, .row e sz (els.length + news.length))])
  | .row id => match σ (.row id) with
    | .row e' sz'' N => match Nat.beq sz'' sz, Nat.beq e' e with
      | true, true => .need (N = els.length ∧ Fits (els.length + news.length) bytes) (.ok (.lst (isNil && news.isEmpty) sz (els ++ news) (.row id)) [(.row id, .row e sz (els.length + news.length))])
      | _, _ => .fail
    | _ => .fail
  | .brow id => match σ (.row id) with
    | .row e' sz'' N => match Nat.beq sz'' sz, Nat.beq e' e with
      | true, true => .need (N = els.length ∧ Fits (els.length + news.length) bytes) (.ok (.lst (isNil && news.isEmpty) sz (els ++ news) (.brow id)) [(.row id, .row e sz (els.length + news.length))])
      | _, _ => .fail
    | _ => .fail

def stepAppend (σ : St) (T : Tab) (f : Nat) (t tx : TypeId) (s x : V) : Req :=
  match trow T t with
  | some ⟨.slice e, _, _, _⟩ => match trow T e with
    | some ⟨_, sz, bytes, _⟩ => rowsOf σ T tx sz x fun news =>
      match s with
      | .lst isNil sz' els tk => match Nat.beq sz' sz with
        | true => appendLst σ f e sz bytes isNil tk news els
        | false => .need (els = []) (appendLst σ f e sz bytes isNil (tokTail tk) news [])
      | .own b 0 sz' len true => match Nat.beq sz' sz with
        | false => .fail
        | true => match σ (.blk b) with
          | .mem bt cells => match Nat.beq bt e with
            | true => .pick (List (List V)) fun els => .need (els.length = len ∧ (∀ el ∈ els, el.length = sz) ∧ cells = els.flatten ∧ oneAll els.flatten = true ∧ Fits (els.length + news.length) bytes)
              (.ok (.lst false sz (els ++ news) (.row f)) [(.blk b, .none), (.row f, .row e sz (els.length + news.length))])
            | false => .fail
          | _ => .fail
      | _ => .fail
    | none => .fail
  | _ => .fail

def srcCells (σ : St) (x : V) (k : Nat → List V → Req) (sz : Nat) : Req :=
  match x with
  | .str s => match Nat.beq sz 1 with
    | true => k s.length (bytesV s)
    | false => .fail
  | .lst _ sz' els _ => match Nat.beq sz' sz with
    | true => k els.length els.flatten
    | false => .need (els = []) (k 0 [])
  | .own b off sz' len _ => match Nat.beq sz' sz with
    | false => .fail
    | true => match σ (.blk b) with
      | .mem _ cells => .need (off + len * sz ≤ cells.length ∧ oneAll ((cells.drop off).take (len * sz)) = true) (k len ((cells.drop off).take (len * sz)))
      | .box _ cells => match pureAll cells with
        | true => .need (off + len * sz ≤ cells.length) (k len (forgetAll ((cells.drop off).take (len * sz))))
        | false => .fail
      | _ => .fail
  | _ => .fail

def stepCopy (σ : St) (T : Tab) (t : TypeId) (d x : V) : Req :=
  match trow T t with
  | some ⟨.slice e, _, _, _⟩ => match trow T e with
    | some ⟨_, sz, _, _⟩ => srcCells σ x (sz := sz) fun n src =>
      match d with
      | .own b off sz' len _ => match Nat.beq sz' sz with
        | false => .fail
        | true => match σ (.blk b) with
          | .mem bt cells => .need (off + len * sz ≤ cells.length) (.ok (.int .i64 (min n len : Nat)) [(.blk b, .mem bt (cells.take off ++ src.take (min n len * sz) ++ cells.drop (off + min n len * sz)))])
          | .box bt cells => .need (off + len * sz ≤ cells.length) (.ok (.int .i64 (min n len : Nat)) [(.blk b, .box bt (cells.take off ++ src.take (min n len * sz) ++ cells.drop (off + min n len * sz)))])
          | _ => .fail
      | _ => .fail
    | none => .fail
  | _ => .fail

def sliceLst (isNil : Bool) (sz : Nat) (tk : Tok) (lo hi mx : Option Int) (els : List (List V)) : Req :=
  match lo, hi, mx with
  | none, none, none => .ok (.lst isNil sz els tk) []
  | some l, none, none => .need (0 ≤ l ∧ l.toNat ≤ els.length) (.ok (.lst isNil sz (els.drop l.toNat) (tokTail tk)) [])
  | none, some h, none => .need (0 ≤ h ∧ h.toNat ≤ els.length) (.ok (.lst isNil sz (els.take h.toNat) (tokHead tk)) [])
  | some l, some h, none => .need (0 ≤ l ∧ l ≤ h ∧ h.toNat ≤ els.length) (.ok (.lst isNil sz ((els.take h.toNat).drop l.toNat) .none) [])
  | none, some h, some m => .need (0 ≤ h ∧ h.toNat ≤ els.length ∧ m = h) (.ok (.lst isNil sz (els.take h.toNat) .tight) [])
  | some l, some h, some m => .need (0 ≤ l ∧ l ≤ h ∧ h.toNat ≤ els.length ∧ m = h) (.ok (.lst isNil sz ((els.take h.toNat).drop l.toNat) .tight) [])
  | _, _, _ => .fail

def stepSlice (_σ : St) (T : Tab) (t : TypeId) (x : V) (lo hi mx : Option (Option Int)) : Req :=
  match x, lo, hi, mx with
  | .str s, some lo, some hi, some none => match trow T t with
    | some ⟨.str, _, _, _⟩ => match lo, hi with
      | none, none => .ok (.str s) []
      | some l, none => .need (0 ≤ l ∧ l.toNat ≤ s.length) (.ok (.str (s.drop l.toNat)) [])
      | none, some h => .need (0 ≤ h ∧ h.toNat ≤ s.length) (.ok (.str (s.take h.toNat)) [])
      | some l, some h => .need (0 ≤ l ∧ l ≤ h ∧ h.toNat ≤ s.length) (.ok (.str ((s.take h.toNat).drop l.toNat)) [])
    | _ => .fail
  | .lst isNil sz els tk, some lo, some hi, some mx => match trow T t with
    | some ⟨.slice e, _, _, _⟩ => match trow T e with
      | some ⟨_, sz', _, _⟩ => match Nat.beq sz sz' with
        | true => sliceLst isNil sz' tk lo hi mx els
        | false => .need (els = []) (sliceLst isNil sz' (tokTail tk) lo hi mx [])
      | none => .fail
    | _ => .fail
  | .own b off sz len full, some lo, some hi, some none => match trow T t with
    | some ⟨.slice e, _, _, _⟩ => match trow T e with
      | some ⟨_, sz', _, _⟩ => match Nat.beq sz sz' with
        | false => .fail
        | true => match lo, hi with
          | none, none => .ok (.own b off sz len full) []
          | some l, none => .need (0 ≤ l ∧ l.toNat ≤ len) (.ok (.own b (off + l.toNat * sz) sz (len - l.toNat) false) [])
          | none, some h => .need (0 ≤ h ∧ h.toNat ≤ len) (.ok (.own b off sz h.toNat false) [])
          | some l, some h => .need (0 ≤ l ∧ l ≤ h ∧ h.toNat ≤ len) (.ok (.own b (off + l.toNat * sz) sz (h.toNat - l.toNat) false) [])
      | none => .fail
    | _ => .fail
  | .own b off sz len _, some lo, some (some h), some (some m) => match trow T t with
    | some ⟨.slice e, _, _, _⟩ => match trow T e with
      | some ⟨_, sz', _, _⟩ => match Nat.beq sz sz' with
        | false => .fail
        | true => match lo with
          | none => .need (0 ≤ h ∧ h.toNat ≤ len ∧ m = h) (.ok (.own b off sz h.toNat false) [])
          | some l => .need (0 ≤ l ∧ l ≤ h ∧ h.toNat ≤ len ∧ m = h) (.ok (.own b (off + l.toNat * sz) sz (h.toNat - l.toNat) false) [])
      | none => .fail
    | _ => .fail
  | .ptr b off, some lo, some hi, some none => match trow T t with
    | some ⟨.arr n e, _, _, _⟩ => match trow T e with
      | some ⟨_, sz, _, _⟩ => match lo, hi with
        | none, none => .ok (.own b off sz n false) []
        | some l, none => .need (0 ≤ l ∧ l.toNat ≤ n) (.ok (.own b (off + l.toNat * sz) sz (n - l.toNat) false) [])
        | none, some h => .need (0 ≤ h ∧ h.toNat ≤ n) (.ok (.own b off sz h.toNat false) [])
        | some l, some h => .need (0 ≤ l ∧ l ≤ h ∧ h.toNat ≤ n) (.ok (.own b (off + l.toNat * sz) sz (h.toNat - l.toNat) false) [])
      | none => .fail
    | _ => .fail
  | _, _, _, _ => .fail

def stepLoad (σ : St) (T : Tab) (t : TypeId) (a : V) : Req :=
  match tsize T t with
  | none => .fail
  | some (size, agg) => match a with
    | .ptr b off => match σ (.blk b) with
      | .box _ cells => match partV agg size off cells with | some x => .ok x [] | none => .fail
      | .mem _ cells => match agg with
        | true => .pick (List V) fun cs => .need (off + size ≤ cells.length ∧ (cells.drop off).take size = cs) (.ok (.agg cs) [])
        | false => .pick V fun x => .need (cells[off]? = some x) (.ok x [])
      | _ => .fail
    | .lptr cs off => match partV agg size off cs with | some x => .ok x [] | none => .fail
    | _ => .fail

def stepStore (σ : St) (T : Tab) (t : TypeId) (a x : V) : Req :=
  match tsize T t with
  | none => .fail
  | some (size, _) => match cellsOf x with
    | none => .fail
    | some cs => match Nat.beq cs.length size with
      | false => .fail
      | true => match a with
        | .ptr b off => match σ (.blk b) with
          | .box bt cells => match splice cells off cs with
            | some cells' => .ok .junk [(.blk b, .box bt cells')]
            | none => .fail
          | .mem bt cells => match pureAll cs with
            | true => .need (off + size ≤ cells.length) (.ok .junk [(.blk b, .mem bt (cells.take off ++ forgetAll cs ++ cells.drop (off + size)))])
            | false => .fail
          | _ => .fail
        | _ => .fail

def stepConv (σ : St) (T : Tab) (f : Nat) (src dst : TypeId) (x : V) : Req :=
  match trow T dst with
  | some ⟨.int k, _, _, _⟩ => match x with
    | .int _ n => match trow T src with
      | some ⟨.int _, _, _, _⟩ => .ok (.int k (k.wrap n)) []
      | _ => .fail
    | _ => .fail
  | some ⟨.str, _, _, _⟩ => match x with
    | .str s => match trow T src with
      | some ⟨.str, _, _, _⟩ => .ok (.str s) []
      | _ => .fail
    | .lst _ sz els _ => match trow T src with
      | some ⟨.slice e, _, _, _⟩ => match trow T e with
        | some ⟨.int .u8, _, _, _⟩ => .pick (List UInt8) fun s => .need ((sz = 1 ∨ els = []) ∧ els = s.map fun c => [.int .u8 c.toNat]) (.ok (.str s) [])
        | _ => .fail
      | _ => .fail
    | .own b off sz len _ => match Nat.beq sz 1 with
      | false => .fail
      | true => match trow T src with
      | some ⟨.slice e, _, _, _⟩ => match trow T e with
        | some ⟨.int .u8, _, _, _⟩ => match σ (.blk b) with
          | .mem _ cells => .pick (List UInt8) fun s => .need (off + len ≤ cells.length ∧ (cells.drop off).take len = bytesV s) (.ok (.str s) [])
          | .box _ cells => .pick (List UInt8) fun s => .need (off + len ≤ cells.length ∧ (cells.drop off).take len = bytesV s) (.ok (.str s) [])
          | _ => .fail
        | _ => .fail
      | _ => .fail
    | _ => .fail
  | some ⟨.slice e, _, _, _⟩ => match x with
    | .str s => match trow T e with
      | some ⟨.int .u8, _, _, _⟩ => match trow T src with
        | some ⟨.str, _, _, _⟩ => .ok (.own f 0 1 s.length true) [(.blk f, .mem e (bytesV s))]
        | _ => .fail
      | _ => .fail
    | _ => .fail
  | _ => .fail

def minMax (mx : Bool) : List V → Option V
  | [] => none
  | [.int k a] => some (.int k a)
  | [.int k a, .int j b] => match kindEq k j with
    | true => some (.int k (match mx with | true => max a b | false => min a b))
    | false => none
  | [.int k a, .int j b, .int l c] => match kindEq k j, kindEq k l with
    | true, true => some (.int k (match mx with | true => max (max a b) c | false => min (min a b) c))
    | _, _ => none
  | _ => none

def opVs (σ : St) : List Operand → List V
  | [] => []
  | x :: l => opV σ x :: opVs σ l

def stepBuiltin (P : Program) (σ : St) (T : Tab) (f : Nat) (o : Oper) (b : Builtin) (ts : List TypeId) (args : List V) : Req :=
  match b, ts, args with
  | .len, [t], [x] => match trow T t with
    | some ⟨.arr n _, _, _, _⟩ => .ok (.int .i64 (n : Int)) []
    | some ⟨.str, _, _, _⟩ => match x with | .str s => .ok (.int .i64 (s.length : Int)) [] | _ => .fail
    | some ⟨.slice _, _, _, _⟩ => match x with
      | .lst _ _ els _ => .ok (.int .i64 (els.length : Int)) []
      | .own _ _ _ n _ => .ok (.int .i64 (n : Int)) []
      | _ => .fail
    | _ => .fail
  | .append, [t, tx], [s, x] => stepAppend σ T f t tx s x
  | .copy, [t, _], [d, x] => stepCopy σ T t d x
  | .min, _, xs => match minMax false xs with | some v => .ok v [] | none => .fail
  | .max, _, xs => match minMax true xs with | some v => .ok v [] | none => .fail
  | _, _, _ => .pick V fun v => .need (PureOp P σ o v) (.ok v [])

/-- The constant 0. -/
def zeroOp : Operand → Bool
  | .const (.int _ (.ofNat 0)) => true
  | _ => false
theorem zeroOp_inv {x : Operand} (h : zeroOp x = true) (a : Act) : ∃ k, a.eval x = .int k 0 := by
  unfold zeroOp at h
  split at h
  · exact ⟨_, rfl⟩
  · cases h

/-- Whether two values that are one cell each are the same. -/
def boolOf : V → Option Bool
  | .bool b => some b
  | .tt => some true
  | .ff => some false
  | _ => none
def cmpV : V → V → Option Bool
  | .int k a, .int j b => match kindEq k j with | true => some (a == b) | false => none
  | .str a, .str b => some (decide (a = b))
  | .bool a, y => match boolOf y with | some b => some (a == b) | none => none
  | .tt, y => match boolOf y with | some b => some (true == b) | none => none
  | .ff, y => match boolOf y with | some b => some (false == b) | none => none
  | _, _ => none
def cmpL : List V → List V → Option Bool
  | [], [] => some true
  | [x], [y] => cmpV x y
  | x :: l, y :: m => match cmpV x y with
    | some b => match cmpL l m with | some c => some (b && c) | none => none
    | none => none
  | _, _ => none
/-- Types whose values are compared cell by cell: what their cells are. -/
def kindsF (P : Program) (q : TypeId → Option (List Nat)) : List Field → Nat → Option (List Nat)
  | [], _ => some []
  | f :: fs, n => if (f.name != "_" && f.offset == n) = true then (match q f.type, P.info? f.type with
      | some ks, some i => if ks.length = i.size ∧ i.size ≠ 0 then (match kindsF P q fs (n + i.size) with | some r => some (ks ++ r) | none => none) else none
      | _, _ => none) else none
def kindsT (P : Program) : Nat → TypeId → Option (List Nat)
  | 0, _ => none
  | d + 1, t => match P.underlying t with
    | some (.int _) => some [0]
    | some .string => some [1]
    | some .bool => some [2]
    | some (.struct fs) => if P.stoodInHeld t = true then none else kindsF P (kindsT P d) fs.toList 0
    | _ => none
def kindV : V → Nat
  | .int _ _ => 0
  | .str _ => 1
  | .bool _ => 2
  | .tt => 2
  | .ff => 2
  | _ => 9
def kindsV : List V → List Nat
  | [] => []
  | x :: l => kindV x :: kindsV l
def eqAllB (P : Program) (t : TypeId) (ks : List Nat) : Bool := !P.eqGuardType P.depth t && (kindsT P 9 t == some ks && (match P.underlying t with | some (.struct _) => true | _ => false))
/-- A comparison with nil. -/
def nilCmp (T : Tab) (t : TypeId) (x y : V) : Option Bool :=
  match trow T t with
  | some ⟨.slice _, _, _, _⟩ => match x, y with
    | .lst n _ _ _, .lst true _ _ _ => some n
    | .lst true _ _ _, .lst n _ _ _ => some n
    | .own _ _ _ _ _, .lst true _ _ _ => some false
    | _, _ => none
  | some ⟨.iface, _, _, _⟩ => match x, y with
    | .iface _ _, .nili => some false
    | .nili, .iface _ _ => some false
    | _, _ => none
  | some ⟨.bool, _, _, _⟩ => match boolOf x, boolOf y with | some p, some q => some (p == q) | _, _ => none
  | some ⟨.ptr _, _, _, _⟩ => match x, y with
    | .nilp, .nilp => some true
    | .ptr _ _, .nilp => some false
    | .lptr _ _, .nilp => some false
    | _, _ => none
  | some ⟨.func, _, _, _⟩ => match x, y with
    | .nilf, .nilf => some true
    | .func _ _ _, .nilf => some false
    | _, _ => none
  | _ => none
def isConst : Operand → Bool
  | .const _ => true
  | _ => false
def bothNil (T : Tab) (t : TypeId) (c : Bool) (x y : V) : Option Bool := match c, x, y with
  | true, .nili, .nili => match trow T t with | some ⟨.iface, _, _, _⟩ => some true | _ => none
  | _, _, _ => nilCmp T t x y
def orB : Bool → Bool → Bool
  | true, _ => true
  | false, b => b

/-- The zero value of a type, by its cells. -/
def zeroV (ti : TI) (zero : List V) : Option (Bool × V) := match ti, zero with
  | .struct _, cs => some (true, .agg cs)
  | .arr _ _, cs => some (true, .agg cs)
  | _, [x] => some (false, x)
  | _, _ => none
def zeroAgg (P : Program) (t : TypeId) : Option Bool := match P.info? t with
  | some i => match i.zero with
    | some (.agg _) => some true
    | some _ => some false
    | none => none
  | none => none

def failV (P : Program) (ti : TI) (zero : List V) (at_ : TypeId) : Bool → Req
  | true => match zeroV ti zero with
    | some (q, z) => .need (zeroAgg P at_ = some q) (.ok (.tup [z, .ff]) [])
    | none => .fail
  | false => .fail
def assertV (P : Program) (ti : TI) (zero : List V) (at_ : TypeId) (ok : Bool) : V → Req
  | .iface t v => match Nat.beq t at_, ok with
    | true, true => .ok (.tup [v, .tt]) []
    | true, false => .ok v []
    | false, ok => failV P ti zero at_ ok
  | .nili => failV P ti zero at_ ok
  | _ => .fail

/-- One operation that calls no function of the program's: what it answers, and which blocks are what behind it. f: the number of a block that it may make. -/
def stepOp (P : Program) (T : Tab) (σ : St) (f : Nat) (o : Oper) : Req :=
  match o.op with
  | .move x => .ok (opV σ x) []
  | .assign x => .ok (opV σ x) []
  | .pick c a b => match opV σ c with
    | .tt => .ok (opV σ a) []
    | .ff => .ok (opV σ b) []
    | .bool q => match boolOf (opV σ a), boolOf (opV σ b) with
      | some p, some r => .ok (.bool (match q with | true => p | false => r)) []
      | _, _ => .fail
    | _ => .fail
  | .alloc t => match trow T t with
    | some r => .ok (.ptr f 0) [(.blk f, .box t r.zero)]
    | none => .fail
  | .box t x => match cellsOf (opV σ x) with
    | some cs => .ok (.ptr f 0) [(.blk f, .box t cs)]
    | none => .fail
  | .build t parts => match trow T t with
    | some ⟨.struct fs, _, _, zero⟩ => match fillV (fun i => match nth fs i with | some (off, ft) => (match trow T ft with | some r => some (off, r.size) | none => none) | none => none) (partsV σ parts.toList) zero with
      | some cs => .ok (.agg cs) []
      | none => .fail
    | some ⟨.arr _ e, _, _, zero⟩ => match trow T e with
      | some r => match fillV (fun i => some (i * r.size, r.size)) (partsV σ parts.toList) zero with
        | some cs => .ok (.agg cs) []
        | none => .fail
      | none => .fail
    | _ => .fail
  | .buildSlice t n parts => match trow T t with
    | some ⟨.slice e, _, _, _⟩ => match trow T e with
      | some r => match Nat.ble (n * r.size) 1000000 with
        | false => .fail
        | true => match fillV (fun i => some (i * r.size, r.size)) (partsV σ parts.toList) (repl n r.zero) with
          | some cs => match pureAll cs with
            | true => match chunk r.size n (forgetAll cs) with
              | some els => .ok (.lst false r.size els .tight) []
              | none => .fail
            | false => .ok (.own f 0 r.size n false) [(.blk f, .box e cs)]
          | none => .fail
      | none => .fail
    | _ => .fail
  | .load t a => stepLoad σ T t (opV σ a)
  | .store t a x => stepStore σ T t (opV σ a) (opV σ x)
  | .nilCheck x => match opV σ x with
    | .ptr b off => .ok (.ptr b off) []
    | .lptr cs off => .ok (.lptr cs off) []
    | .func f a b => .ok (.func f a b) []
    | _ => .fail
  | .binOp op t x y _ => match opV σ x, opV σ y with
    | .int j a, .int k b => stepBin op (.int j a) (.int k b)
    | .str a, .str b => stepBin op (.str a) (.str b)
    | .agg cs, .agg ds => match op, cmpL cs ds with
      | .eql, some b => .need (eqAllB P t (kindsV cs) = true) (.ok (.bool b) [])
      | .neq, some b => .need (eqAllB P t (kindsV cs) = true) (.ok (.bool (!b)) [])
      | _, _ => .pick V fun v => .need (PureOp P σ o v) (.ok v [])
    | vx, vy => match op, bothNil T t (orB (isConst x) (isConst y)) vx vy with
      | .eql, some b => .ok (.bool b) []
      | .neq, some b => .ok (.bool (!b)) []
      | _, _ => .pick V fun v => .need (PureOp P σ o v) (.ok v [])
  | .unOp .not _ x => match notV (opV σ x) with | some v => .ok v [] | none => .fail
  | .unOp .neg _ x => match opV σ x with | .int k n => .ok (.int k (k.wrap (0 - n))) [] | _ => .fail
  | .convert src dst x => stepConv σ T f src dst (opV σ x)
  | .slice t x lo hi mx => stepSlice σ T t (opV σ x) (optInt σ lo) (optInt σ hi) (optInt σ mx)
  | .fieldAddr s x i => match trow T s with
    | some ⟨.struct fs, _, _, _⟩ => match nth fs i with
      | some (off, ft) => match trow T ft with
        | some r => match r.size with
          | 0 => .fail
          | _ + 1 => match opV σ x with
            | .ptr b o => .ok (.ptr b (o + off)) []
            | .lptr cs o => .ok (.lptr cs (o + off)) []
            | _ => .fail
        | none => .fail
      | none => .fail
    | _ => .fail
  | .field s x i => match trow T s with
    | some ⟨.struct fs, _, _, _⟩ => match nth fs i with
      | some (off, ft) => match tsize T ft with
        | some (size, agg) => match opV σ x with
          | .agg cs => match partV agg size off cs with | some v => .ok v [] | none => .fail
          | _ => .fail
        | none => .fail
      | none => .fail
    | _ => .fail
  | .indexAddr t x i => match intV (opV σ i) with
    | none => .fail
    | some n => match trow T t with
      | some ⟨.slice e, _, _, _⟩ => match trow T e with
        | none => .fail
        | some r => match opV σ x with
          | .lst _ sz els _ => match Nat.beq sz r.size, r.size with
            | true, _ + 1 => .pick (List V) fun el => .need (0 ≤ n ∧ els[n.toNat]? = some el) (.ok (.lptr el 0) [])
            | _, _ => .fail
          | .own b off sz len _ => match Nat.beq sz r.size with
            | true => .need (0 ≤ n ∧ n.toNat < len) (.ok (.ptr b (off + n.toNat * sz)) [])
            | false => .fail
          | _ => .fail
      | some ⟨.arr m e, _, _, _⟩ => match trow T e with
        | none => .fail
        | some r => match opV σ x with
          | .ptr b off => .need (0 ≤ n ∧ n.toNat < m) (.ok (.ptr b (off + n.toNat * r.size)) [])
          | .lptr cs off => .need (0 ≤ n ∧ n.toNat < m) (.ok (.lptr cs (off + n.toNat * r.size)) [])
          | _ => .fail
      | _ => .fail
  | .index t x i => match intV (opV σ i) with
    | none => .fail
    | some n => match opV σ x with
      | .str s => match trow T t with
        | some ⟨.str, _, _, _⟩ => .pick UInt8 fun c => .need (0 ≤ n ∧ s[n.toNat]? = some c) (.ok (.int .u8 c.toNat) [])
        | _ => .fail
      | _ => .pick V fun v => .need (PureOp P σ o v) (.ok v [])
  | .extract x i => match opV σ x with
    | .tup vs => match nth vs i with | some v => .ok v [] | none => .fail
    | _ => .fail
  | .makeSlice t l c => match trow T t with
    | some ⟨.slice e, _, _, _⟩ => match trow T e with
      | none => .fail
      | some ⟨_, sz, bytes, zero⟩ => match zeroOp l with
        | true => match opV σ c with
          | .int _ m => .need (0 ≤ m ∧ Fits m.toNat bytes) (.ok (.lst false sz [] (.row f)) [(.row f, .row e sz 0)])
          | _ => .fail
        | false => match opV σ l, opV σ c with
          | .int _ n, .int _ m => match pureAll zero with
            | true => .need (0 ≤ n ∧ n = m ∧ Fits m.toNat bytes) (.ok (.own f 0 sz n.toNat true) [(.blk f, .mem e (repl n.toNat (forgetAll zero)))])
            | false => .fail
          | _, _ => .fail
    | _ => .fail
  | .makeInterface t x => match trow T t with
    | some ⟨.iface, _, _, _⟩ => .fail
    | some ⟨.other, _, _, _⟩ => .fail
    | none => .fail
    | some _ => .ok (.iface t (opV σ x)) []
  | .range t x => match opV σ x with
    | .str s => match trow T t with
      | some ⟨.str, _, _, _⟩ => .ok (.it f) [(.blk f, .it s 0)]
      | _ => .fail
    | _ => .fail
  | .next x str => match str, opV σ x with
    | true, .it c => match σ (.blk c) with
      | .it s pos => .pick Bool fun q => .need (q = decide (pos < s.length)) (match q with
        | true => .ok (.tup [.tt, .int .i64 (pos : Int), .int .i32 ((Utf8.decode ⟨s.toArray⟩ pos).1 : Int)]) [(.blk c, .it s (pos + (Utf8.decode ⟨s.toArray⟩ pos).2))]
        | false => .ok (.tup [.ff]) [])
      | _ => .fail
    | _, _ => .fail
  | .typeAssert x _ at_ ok => match trow T at_ with
    | none => .fail
    | some ⟨.iface, _, _, _⟩ => .fail
    | some ⟨.other, _, _, _⟩ => .fail
    | some ⟨ti, _, _, zero⟩ => assertV P ti zero at_ ok (opV σ x)
  | .makeFunc (.func fn) first captured => .ok (.func fn (opVs σ first.toList) (opVs σ captured.toList)) []
  | .call c => match c.callee with
    | .builtin b => stepBuiltin P σ T f o b c.argTypes.toList (opVs σ c.args.toList)
    | _ => .fail
  | _ => .pick V fun v => .need (PureOp P σ o v) (.ok v [])
end Go.Am

namespace Go.Am
open Go.RowKit

section inv
variable {w : World} {g : G} {v : Value}
theorem Rep.int_inv {k n} (h : Rep w g (.int k n) v) : v = .int k n := by cases h with | pure h => cases h; rfl
theorem Rep.bool_inv {x} (h : Rep w g (.bool x) v) : v = .bool x := by cases h with | pure h => cases h; rfl
theorem Rep.tt_inv (h : Rep w g .tt v) : v = .bool true := by cases h with | pure h => cases h; rfl
theorem Rep.ff_inv (h : Rep w g .ff v) : v = .bool false := by cases h with | pure h => cases h; rfl
theorem Rep.str_inv {s} (h : Rep w g (.str s) v) : ∃ b : ByteArray, v = .string b ∧ b.data.toList = s := by cases h with | pure h => cases h with | str h => exact ⟨_, rfl, h⟩
theorem Rep.ptr_inv {x off} (h : Rep w g (.ptr x off) v) : ∃ c, g.own x = some c ∧ v = .pointer (some ⟨c, off, none⟩) := by
  cases h with
  | pure h => cases h
  | ptr h => exact ⟨_, h, rfl⟩
theorem Rep.nilp_inv (h : Rep w g .nilp v) : v = .pointer none := by cases h with | pure h => cases h; rfl
theorem Rep.lptr_inv {cs off} (h : Rep w g (.lptr cs off) v) : ∃ (blk base : Nat) (vals : Nat → Value), v = .pointer (some ⟨blk, base + off, none⟩) ∧ (∀ (j : Nat) (x : V), cs[j]? = some x → g.F blk (base + j) ∧ w.cell? ⟨blk, base + j, none⟩ = some (vals j)) ∧
    (∀ (j : Nat) (x : V), cs[j]? = some x → PRep w g.F x (vals j)) := by
  cases h with
  | pure h => cases h
  | lptr vals ha h => exact ⟨_, _, vals, rfl, ha, h⟩
theorem Rep.agg_inv {cs} (h : Rep w g (.agg cs) v) : ∃ vs : List Value, v = .agg vs.toArray ∧ vs.length = cs.length ∧ ∀ (i : Nat) (x : V) (u : Value), cs[i]? = some x → vs[i]? = some u → Rep w g x u := by
  cases h with
  | pure h => cases h with | agg hl h => exact ⟨_, rfl, hl, fun i x u h1 h2 => .pure (h i x u h1 h2)⟩
  | agg hl h => exact ⟨_, rfl, hl, h⟩
theorem Rep.tup_inv {cs} (h : Rep w g (.tup cs) v) : ∃ vs : List Value, v = .tuple vs.toArray ∧ vs.length = cs.length ∧ ∀ (i : Nat) (x : V) (u : Value), cs[i]? = some x → vs[i]? = some u → Rep w g x u := by
  cases h with
  | pure h => cases h with | tup hl h => exact ⟨_, rfl, hl, fun i x u h1 h2 => .pure (h i x u h1 h2)⟩
  | tup hl h => exact ⟨_, rfl, hl, h⟩
theorem Rep.lst_inv {isNil sz els tk} (h : Rep w g (.lst isNil sz els tk) v) : ∃ ad c, v = .slice ad els.length c ∧ PRep w g.F (.lst isNil sz els .none) (.slice ad els.length c) ∧ TokOk w g tk els.length sz ad c := by
  cases h with
  | pure h => cases h with | lst vals hnil hc hsz ha hone h => exact ⟨_, _, rfl, .lst vals hnil hc hsz ha hone h, trivial⟩
  | lst h ht => cases h with | lst vals hnil hc hsz ha hone h => exact ⟨_, _, rfl, .lst vals hnil hc hsz ha hone h, ht⟩
theorem Rep.own_inv {x off sz len full} (h : Rep w g (.own x off sz len full) v) : ∃ c cap ad, g.own x = some c ∧ v = .slice ad len cap ∧ (0 < len → ad = some ⟨c, off, none⟩) ∧ ad.isSome ∧ len ≤ cap ∧
    (full = true → off = 0 ∧ ad = some ⟨c, 0, none⟩ ∧ ∃ t, w.shape? c = some (t, cap * sz)) := by
  cases h with
  | pure h => cases h
  | own h ha hs hl hf => exact ⟨_, _, _, h, rfl, ha, hs, hl, hf⟩
theorem Rep.func_inv {f fs cs} (h : Rep w g (.func f fs cs) v) : ∃ vs us : List Value, v = .func (.func f) vs.toArray us.toArray ∧ vs.length = fs.length ∧ us.length = cs.length ∧ (∀ (i : Nat) (x : V) (u : Value), fs[i]? = some x → vs[i]? = some u → Rep w g x u) ∧
    (∀ (i : Nat) (x : V) (u : Value), cs[i]? = some x → us[i]? = some u → Rep w g x u) := by
  cases h with
  | pure h => cases h with | func f => exact ⟨[], [], rfl, rfl, rfl, by simp, by simp⟩
  | func hl hm h hh => exact ⟨_, _, rfl, hl, hm, h, hh⟩
theorem Rep.iface_inv {t x} (h : Rep w g (.iface t x) v) : ∃ u, v = .iface t u ∧ Rep w g x u := by
  cases h with
  | pure h => cases h with | iface h => exact ⟨_, rfl, .pure h⟩
  | iface h => exact ⟨_, rfl, h⟩
theorem Rep.nili_inv (h : Rep w g .nili v) : v = .nilIface := by cases h with | pure h => cases h; rfl
theorem Rep.nilf_inv (h : Rep w g .nilf v) : v = .nilFunc := by cases h with | pure h => cases h; rfl
theorem Rep.it_inv {x} (h : Rep w g (.it x) v) : ∃ c, g.own x = some c ∧ v = .pointer (some ⟨c, 0, none⟩) := by
  cases h with
  | pure h => cases h
  | it h => exact ⟨_, h, rfl⟩
theorem Rep.mp_inv {x} (h : Rep w g (.mp x) v) : ∃ c, g.own x = some c ∧ v = .map (some c) := by
  cases h with
  | pure h => cases h
  | mp h => exact ⟨_, h, rfl⟩
theorem Rep.yield_inv {x} (h : Rep w g (.yield x) v) : ∃ c, g.own x = some c ∧ v = .func (.yield c) #[] #[] := by
  cases h with
  | pure h => cases h
  | yield h => exact ⟨_, h, rfl⟩

theorem oneV_oneCell {x : V} (h : Rep w g x v) (hx : oneV x = true) : v.oneCell' = true := by
  cases x with
  | agg as => cases hx
  | tup as => cases hx
  | junk => cases hx
  | int k n => rw [h.int_inv]; rfl
  | bool x => rw [h.bool_inv]; rfl
  | tt => rw [h.tt_inv]; rfl
  | ff => rw [h.ff_inv]; rfl
  | str s => obtain ⟨b, e, _⟩ := h.str_inv; rw [e]; rfl
  | ptr b off => obtain ⟨b, _, e⟩ := h.ptr_inv; rw [e]; rfl
  | lptr _ _ => obtain ⟨_, _, _, e, _⟩ := h.lptr_inv; rw [e]; rfl
  | nilp => rw [h.nilp_inv]; rfl
  | lst _ _ _ _ => obtain ⟨_, _, e, _⟩ := h.lst_inv; rw [e]; rfl
  | own _ _ _ _ _ => obtain ⟨_, _, _, _, e, _⟩ := h.own_inv; rw [e]; rfl
  | func _ _ _ => obtain ⟨_, _, e, _⟩ := h.func_inv; rw [e]; rfl
  | nilf => rw [h.nilf_inv]; rfl
  | iface _ _ => obtain ⟨_, e, _⟩ := h.iface_inv; rw [e]; rfl
  | nili => rw [h.nili_inv]; rfl
  | it b => obtain ⟨_, _, e⟩ := h.it_inv; rw [e]; rfl
  | yield b => obtain ⟨_, _, e⟩ := h.yield_inv; rw [e]; rfl
  | mp b => obtain ⟨_, _, e⟩ := h.mp_inv; rw [e]; rfl
theorem oneAll_get : ∀ {cs : List V}, oneAll cs = true → ∀ (i : Nat) (x : V), cs[i]? = some x → oneV x = true
  | [], _, i, x, h => by simp at h
  | c :: cs, hc, i, x, h => by
    simp only [oneAll] at hc
    cases hx : oneV c with
    | false => simp [hx] at hc
    | true =>
      simp only [hx] at hc
      cases i with
      | zero => simp at h; subst h; exact hx
      | succ i => exact oneAll_get hc i x (by simpa using h)
/-- The cells of a value. -/
theorem Rep.cells {x : V} {cs : List V} (h : Rep w g x v) (hc : cellsOf x = some cs) : v.cells.toList.length = cs.length ∧ (∀ (i : Nat) (y : V) (u : Value), cs[i]? = some y → v.cells.toList[i]? = some u → Rep w g y u) ∧
    (∀ u ∈ v.cells.toList, u.oneCell' = true) := by
  have one : oneV x = true → v.cells = #[v] → cs = [x] → v.cells.toList.length = cs.length ∧ (∀ (i : Nat) (y : V) (z : Value), cs[i]? = some y → v.cells.toList[i]? = some z → Rep w g y z) ∧ (∀ u ∈ v.cells.toList, u.oneCell' = true) := by
    intro hx hu hcs
    subst hcs
    rw [hu]
    refine ⟨rfl, fun i y z h1 h2 => ?_, fun u hu => ?_⟩
    · cases i with
      | zero => simp at h1 h2; subst h1; subst h2; exact h
      | succ i => simp at h1
    · simp at hu; subst hu; exact oneV_oneCell h hx
  have two : v.oneCell' = true → v.cells = #[v] := by intro h; cases v <;> first | rfl | cases h
  cases x with
  | agg as =>
    obtain ⟨vs, rfl, hl, hr⟩ := h.agg_inv
    simp only [cellsOf] at hc
    cases ho : oneAll as with
    | false => simp [ho] at hc
    | true =>
      simp only [ho, Option.some.injEq] at hc
      subst hc
      refine ⟨by simpa [Value.cells] using hl, fun i y u h1 h2 => hr i y u h1 (by simpa [Value.cells] using h2), fun u hu => ?_⟩
      simp only [Value.cells, List.toList_toArray] at hu
      obtain ⟨i, hi, rfl⟩ := List.getElem_of_mem hu
      have hi' : i < as.length := by omega
      exact oneV_oneCell (hr i as[i] vs[i] (List.getElem?_eq_getElem hi') (List.getElem?_eq_getElem hi)) (oneAll_get ho i _ (List.getElem?_eq_getElem hi'))
  | junk => cases hc
  | tup as => cases hc
  | _ => exact one rfl (two (oneV_oneCell h rfl)) (by cases hc; rfl)
end inv
end Go.Am

namespace Go.Am
open Go.RowKit

variable {P : Program} {T : Tab} {b : Base P} {σ : St} {D : Nat → Prop} {g : G} {a : Act} {w : World}

/-- An operation that was told by 'stepOp' has run. -/
def Did (P : Program) (b : Base P) (σ : St) (us : List (Loc × C)) (f : Nat) (D : Nat → Prop) (g : G) (a : Act) (w : World) (o : Oper) (v : V) : Prop :=
  ∃ nx val w' g', (execOp a.eval o).run P w = .ok nx w' ∧ (nx = .value val ∨ (nx = .skip ∧ val = undef)) ∧ Rep w' g' v val ∧ HSim b (updAll σ us) (fun i => D i ∨ i = f) g' w' ∧ Ev g w g' w'

theorem Did.val {o : Oper} {v : V} {f : Nat} {val : Value} (h : HSim b σ D g w) (hr : (execOp a.eval o).run P w = .ok (.value val) w) (hv : Rep w g v val) : Did P b σ [] f D g a w o v :=
  ⟨_, val, w, g, hr, .inl rfl, hv, h.widen (fun _ hi => .inl hi), Ev.refl g w⟩

theorem run_size {t : TypeId} {i : TypeInfo} (hi : P.info? t = some i) (w : World) : (sizeOf t).run P w = .ok i.size w := by
  simp [sizeOf, typeInfo, hi]
theorem run_isAgg {t : TypeId} {d : TypeDesc} (h : P.underlying t = some d) (w : World) : (isAgg t).run P w = .ok (match d with | .struct _ | .array _ _ => true | _ => false) w := by
  cases d <;> simp [isAgg, run_underlying h]

theorem tsize_agg (hT : TOk P T) {t : TypeId} {n : Nat} {agg : Bool} (h : tsize T t = some (n, agg)) (w : World) : (isAgg t).run P w = .ok agg w ∧ (sizeOf t).run P w = .ok n w := by
  unfold tsize at h
  cases hr : nthT T t with
  | none => simp [hr] at h
  | some r =>
    obtain ⟨ti, size, bytes, zero⟩ := r
    obtain ⟨h1, i, z, hi, hs, _⟩ := hT t _ hr
    have hsz : (sizeOf t).run P w = .ok size w := by rw [run_size hi, hs]
    cases ti <;> simp only [hr, Option.some.injEq, Prod.mk.injEq, reduceCtorEq] at h <;> first
      | (obtain ⟨rfl, rfl⟩ := h
         refine ⟨?_, hsz⟩
         first
           | (obtain ⟨_, _, h1, _⟩ := h1; exact run_isAgg h1 w)
           | (obtain ⟨_, h1⟩ := h1; exact run_isAgg h1 w)
           | (obtain ⟨_, _, h1⟩ := h1; exact run_isAgg h1 w)
           | (obtain ⟨_, _, _, h1⟩ := h1; exact run_isAgg h1 w)
           | exact run_isAgg h1 w)
      | cases h

theorem addr_add0 (k off j : Nat) : (⟨k, off, none⟩ : Addr).add j = ⟨k, off + j, none⟩ := by unfold Addr.add; split <;> simp_all

/-- Cells that lie in a row are loaded. -/
theorem run_loadCellsFrom (k off : Nat) : ∀ (n i : Nat) (vs : List Value) (acc : Array Value), vs.length = n → (∀ j u, vs[j]? = some u → w.cell? ⟨k, off + (i + j), none⟩ = some u) →
    (loadCellsFrom ⟨k, off, none⟩ i n acc).run P w = .ok (acc ++ vs.toArray) w
  | 0, i, vs, acc, hl, _ => by
    have : vs = [] := List.eq_nil_of_length_eq_zero hl
    subst this
    simp [loadCellsFrom]
  | n + 1, i, vs, acc, hl, hc => by
    cases vs with
    | nil => simp at hl
    | cons u vs =>
      have h0 := hc 0 u rfl
      simp only [Nat.add_zero] at h0
      have ih := run_loadCellsFrom k off n (i + 1) vs (acc.push u) (by simpa using hl) (fun j x hx => by have := hc (j + 1) x (by simpa using hx); rwa [show i + 1 + j = i + (j + 1) by omega])
      simp only [loadCellsFrom, addr_add0, Sem.run_bind]
      have hl' : (load ⟨k, off + i, none⟩).run P w = .ok u w := by simp [load, Sem.run, h0]
      rw [hl']
      simp only [Result.andThen_ok]
      rw [ih]
      congr 1
      apply Array.toList_inj.1
      simp

theorem run_loadVar (hT : TOk P T) {t : TypeId} {n : Nat} {agg : Bool} (h : tsize T t = some (n, agg)) {k off : Nat} {cs : List V} {vs : Nat → Value} (hc : ∀ j x, cs[j]? = some x → w.cell? ⟨k, off + j, none⟩ = some (vs j))
    (hr : ∀ j x, cs[j]? = some x → Rep w g x (vs j)) {x : V} (hx : partV agg n 0 cs = some x) : ∃ v, (loadVar t ⟨k, off, none⟩).run P w = .ok v w ∧ Rep w g x v := by
  obtain ⟨h1, h2⟩ := tsize_agg hT h w
  cases agg with
  | false =>
    simp only [partV, nth_eq] at hx
    refine ⟨vs 0, ?_, hr 0 x hx⟩
    have h0 := hc 0 x hx
    simp only [Nat.add_zero] at h0
    simp [loadVar, h1, load, Sem.run, h0]
  | true =>
    simp only [partV, dropN] at hx
    cases ht : takeN cs n with
    | none => simp [ht] at hx
    | some r =>
      simp only [ht, Option.some.injEq] at hx
      subst hx
      obtain ⟨e1, e2⟩ := takeN_eq cs n r ht
      have hlen : n ≤ cs.length := by rw [e1, List.length_take] at e2; omega
      have hget : ∀ j x, r[j]? = some x → cs[j]? = some x := fun j x hj => by
        rw [e1, List.getElem?_take] at hj
        split at hj
        · exact hj
        · cases hj
      have hrun := run_loadCellsFrom (P := P) (w := w) k off n 0 ((List.range n).map vs) #[] (by simp) (fun j u hj => by
        rw [List.getElem?_map] at hj
        by_cases hjn : j < n
        · rw [List.getElem?_range hjn] at hj
          simp at hj
          subst hj
          have : j < cs.length := by omega
          rw [Nat.zero_add]
          exact hc j cs[j] (List.getElem?_eq_getElem this)
        · rw [List.getElem?_eq_none (by simp; omega)] at hj
          cases hj)
      refine ⟨.agg ((List.range n).map vs).toArray, ?_, .agg (by simp [e2]) (fun i y u hy hu => ?_)⟩
      · simp only [loadVar, Sem.run_bind, h1, Result.andThen_ok, if_true, h2, loadCells, hrun]
        simp
      · have hi : i < n := by
          have := (List.getElem?_eq_some_iff.1 hy).1
          omega
        rw [List.getElem?_map, List.getElem?_range hi] at hu
        simp at hu
        subst hu
        exact hr i y (hget i y hy)
end Go.Am

namespace Go.Am
open Go.RowKit

variable {P : Program} {T : Tab} {b : Base P} {σ : St} {D : Nat → Prop} {g : G} {a : Act} {w : World}

theorem boolOf_inv {x : V} {p : Bool} {v : Value} (h : Rep w g x v) (hb : boolOf x = some p) : v = .bool p := by
  cases x with
  | bool c => simp only [boolOf, Option.some.injEq] at hb; subst hb; exact h.bool_inv
  | tt => simp only [boolOf, Option.some.injEq] at hb; subst hb; exact h.tt_inv
  | ff => simp only [boolOf, Option.some.injEq] at hb; subst hb; exact h.ff_inv
  | _ => cases hb

/-- What two cells are when they were compared. -/
inductive Cmp : Value → Value → Bool → Prop
  | int (k : IntKind) (p q : Int) : Cmp (.int k p) (.int k q) (p == q)
  | str (s t : ByteArray) : Cmp (.string s) (.string t) (s.toList == t.toList)
  | bool (p q : Bool) : Cmp (.bool p) (.bool q) (p == q)

theorem cmpV_inv {x y : V} {u v : Value} {r : Bool} (hx : Rep w g x u) (hy : Rep w g y v) (h : cmpV x y = some r) : Cmp u v r := by
  have bb : ∀ {p : Bool}, boolOf x = some p → (match boolOf y with | some b => some (p == b) | none => none) = some r → Cmp u v r := by
    intro p hp hh
    cases hq : boolOf y with
    | none => simp [hq] at hh
    | some q =>
      simp only [hq, Option.some.injEq] at hh
      subst hh
      rw [boolOf_inv hx hp, boolOf_inv hy hq]
      exact .bool _ _
  cases x with
  | int k p =>
    cases y with
    | int j q =>
      simp only [cmpV] at h
      cases hk : kindEq k j with
      | false => simp [hk] at h
      | true =>
        simp only [hk, Option.some.injEq] at h
        subst h
        have := kindEq_iff hk
        subst this
        rw [hx.int_inv, hy.int_inv]
        exact .int _ _ _
    | _ => simp [cmpV] at h
  | str p =>
    cases y with
    | str q =>
      simp only [cmpV, Option.some.injEq] at h
      subst h
      obtain ⟨s, rfl, hs⟩ := hx.str_inv
      obtain ⟨t, rfl, ht⟩ := hy.str_inv
      have e : (s.toList == t.toList) = decide (p = q) := by
        rw [Lib.toList_data, Lib.toList_data, hs, ht]
        by_cases h : p = q
        · simp [h]
        · simp [h]
      rw [← e]
      exact .str _ _
    | _ => simp [cmpV] at h
  | bool p => exact bb rfl h
  | tt => exact bb rfl h
  | ff => exact bb rfl h
  | _ => simp [cmpV] at h

/-- Cells, compared one by one. -/
inductive CmpL : List Value → List Value → Bool → Prop
  | nil : CmpL [] [] true
  | cons {u v : Value} {us vs : List Value} {p q : Bool} (h : Cmp u v p) (h' : CmpL us vs q) : CmpL (u :: us) (v :: vs) (p && q)
theorem cmpL_inv : ∀ {cs ds : List V} {us vs : List Value} {r : Bool}, us.length = cs.length → vs.length = ds.length → (∀ (i : Nat) (x : V) (u : Value), cs[i]? = some x → us[i]? = some u → Rep w g x u) →
    (∀ (i : Nat) (x : V) (u : Value), ds[i]? = some x → vs[i]? = some u → Rep w g x u) → cmpL cs ds = some r → CmpL us vs r
  | [], [], us, vs, r, hl, hm, _, _, h => by
    rw [List.eq_nil_of_length_eq_zero hl, List.eq_nil_of_length_eq_zero hm]
    simp only [cmpL, Option.some.injEq] at h
    subst h
    exact .nil
  | [x], [y], [u], [v], r, _, _, hx, hy, h => by
    simp only [cmpL] at h
    have := CmpL.cons (cmpV_inv (hx 0 x u rfl rfl) (hy 0 y v rfl rfl) h) .nil
    rwa [Bool.and_true] at this
  | x :: x' :: l, y :: m, us, vs, r, hl, hm, hx, hy, h => by
    match us, vs, hl, hm, hx, hy with
    | u :: us, v :: vs, hl, hm, hx, hy =>
      simp only [cmpL] at h
      cases h1 : cmpV x y with
      | none => simp [h1] at h
      | some p =>
        cases h2 : cmpL (x' :: l) m with
        | none => simp [h1, h2] at h
        | some q =>
          simp only [h1, h2, Option.some.injEq] at h
          subst h
          exact .cons (cmpV_inv (hx 0 x u rfl rfl) (hy 0 y v rfl rfl) h1) (cmpL_inv (by simpa using hl) (by simpa using hm) (fun i => hx (i + 1)) (fun i => hy (i + 1)) h2)
  | [x], y :: y' :: m, us, vs, r, hl, hm, hx, hy, h => by
    simp only [cmpL] at h
    cases h1 : cmpV x y <;> simp [h1] at h
  | [], _ :: _, _, _, _, _, _, _, _, h => by simp [cmpL] at h
  | _ :: _, [], _, _, _, _, _, _, _, h => by simp [cmpL] at h

theorem CmpL.len : ∀ {us vs : List Value} {r : Bool}, CmpL us vs r → us.length = vs.length
  | _, _, _, .nil => rfl
  | _, _, _, .cons _ h => by simp [h.len]
theorem CmpL.split : ∀ {n : Nat} {us vs : List Value} {r : Bool}, CmpL us vs r → ∃ p q, CmpL (us.take n) (vs.take n) p ∧ CmpL (us.drop n) (vs.drop n) q ∧ r = (p && q)
  | 0, us, vs, r, h => ⟨true, r, by simpa using CmpL.nil, by simpa using h, by simp⟩
  | n + 1, _, _, _, .nil => ⟨true, true, .nil, .nil, rfl⟩
  | n + 1, _, _, _, .cons h h' => by
    obtain ⟨p, q, h1, h2, rfl⟩ := h'.split (n := n)
    exact ⟨_, q, .cons h h1, h2, by rw [Bool.and_assoc]⟩

def kindVal : Value → Nat
  | .int _ _ => 0
  | .string _ => 1
  | .bool _ => 2
  | _ => 9
theorem Cmp.eqInt {t : TypeId} {u v : Value} {r : Bool} (h : Cmp u v r) (d : Nat) (w : World) {k : IntKind} (hu : P.underlying t = some (.int k)) (hk : kindVal u = 0) : (Op.equalIn (d + 1) t u v).run P w = .ok r w := by
  cases h with
  | int k' p q => exact run_equalIn_int w d t k' _ p q hu
  | _ => cases hk
theorem Cmp.str' {t : TypeId} {u v : Value} {r : Bool} (h : Cmp u v r) (d : Nat) (w : World) (hu : P.underlying t = some .string) (hk : kindVal u = 1) : (Op.equalIn (d + 1) t u v).run P w = .ok r w := by
  cases h with
  | str s q => exact run_equalIn_string w d t s q hu
  | _ => cases hk
theorem Cmp.bool' {t : TypeId} {u v : Value} {r : Bool} (h : Cmp u v r) (d : Nat) (w : World) (hu : P.underlying t = some .bool) (hk : kindVal u = 2) : (Op.equalIn (d + 1) t u v).run P w = .ok r w := by
  cases h with
  | bool p q => exact run_equalIn_bool' w d t p q hu
  | _ => cases hk

def notArr : TypeDesc → Prop
  | .array _ _ => False
  | _ => True
def oneIf (n : Nat) : TypeDesc → Prop
  | .struct _ => True
  | _ => n = 1
/-- A value of such a type, by its cells. -/
def AsT (P : Program) (t : TypeId) (us : List Value) (x : Value) : Prop := match P.underlying t with
  | some (.struct _) => x = .agg us.toArray
  | _ => us = [x]
def EqAt' (P : Program) (d : Nat) (q : TypeId → Option (List Nat)) : Prop := ∀ (t : TypeId) (ks : List Nat), q t = some ks →
  (∃ k, P.underlying t = some k ∧ notArr k) ∧ ∀ (us vs : List Value) (r : Bool), us.map kindVal = ks → CmpL us vs r → ∀ (x y : Value), AsT P t us x → AsT P t vs y → ∀ w, (Op.equalIn d t x y).run P w = .ok r w

theorem part_as {t : TypeId} {k : TypeDesc} (hu : P.underlying t = some k) (hk : notArr k) {i : TypeInfo} (hi : P.info? t = some i) {us : List Value} {off : Nat} {n : Nat} (hn : n = i.size) (h1 : oneIf n k)
    (hl : off + n ≤ us.length) (w : World) : ∃ x, (part t us.toArray off).run P w = .ok x w ∧ AsT P t ((us.drop off).take n) x := by
  subst hn
  unfold AsT
  rw [hu]
  cases k with
  | struct fs =>
    refine ⟨_, ?_, rfl⟩
    simp only [part, Sem.run_bind, run_isAgg hu, Result.andThen_ok, if_true, run_size hi, Sem.run_pure]
    congr 2
    apply Array.toList_inj.1
    simp [List.extract_eq_take_drop]
  | array n e => exact hk.elim
  | _ =>
    rw [h1] at hl ⊢
    have hlt : off < us.length := by omega
    refine ⟨us[off], ?_, ?_⟩
    · have hg : us.toArray[off]? = some us[off] := by simp [hlt]
      simp only [part, Sem.run_bind, run_isAgg hu, Result.andThen_ok]
      simp [hg]
    · simp only
      rw [List.drop_eq_getElem_cons hlt]
      rfl

theorem kindsT_one {d : Nat} {t : TypeId} {ks : List Nat} (h : kindsT P d t = some ks) : ∃ k, P.underlying t = some k ∧ (notArr k) ∧ oneIf ks.length k := by
  cases d with
  | zero => cases h
  | succ d =>
    simp only [kindsT] at h
    cases hu : P.underlying t with
    | none => simp [hu] at h
    | some k =>
      refine ⟨k, rfl, ?_⟩
      cases k <;> simp only [hu, Option.some.injEq, reduceCtorEq] at h <;> first | (subst h; exact ⟨trivial, rfl⟩) | exact ⟨trivial, trivial⟩

theorem run_eqFields_am {d : Nat} {q : TypeId → Option (List Nat)} (hq : EqAt' P d q) (hq1 : ∀ t ks, q t = some ks → ∃ k, P.underlying t = some k ∧ (notArr k) ∧ oneIf ks.length k) {us vs : List Value} : ∀ (fs : List Field) (n : Nat) (ks : List Nat) (r : Bool), kindsF P q fs n = some ks →
    (us.drop n).map kindVal = ks → CmpL (us.drop n) (vs.drop n) r → ∀ w, (Op.eqFields d us.toArray vs.toArray fs).run P w = .ok r w
  | [], n, ks, r, hk, hm, hc, w => by
    simp only [kindsF, Option.some.injEq] at hk
    subst hk
    have h0 : us.drop n = [] := by simpa using hm
    rw [h0] at hc
    have hr : r = true := by
      generalize vs.drop n = vs' at hc
      cases hc
      rfl
    subst hr
    simp [Op.eqFields]
  | f :: fs, n, ks, r, hk, hm, hc, w => by
    simp only [kindsF] at hk
    split at hk
    · rename_i hcond
      simp only [Bool.and_eq_true, bne_iff_ne, ne_eq, beq_iff_eq] at hcond
      cases h1 : q f.type with
      | none => simp [h1] at hk
      | some k1 =>
        cases h2 : P.info? f.type with
        | none => simp [h1, h2] at hk
        | some i =>
          simp only [h1, h2] at hk
          split at hk
          · rename_i hlen
            cases h3 : kindsF P q fs (n + i.size) with
            | none => simp [h3] at hk
            | some k2 =>
              simp only [h3, Option.some.injEq] at hk
              subst hk
              obtain ⟨p, q', c1, c2, rfl⟩ := hc.split (n := i.size)
              have hlen0 := hc.len
              have hml := congrArg List.length hm
              simp only [List.length_map, List.length_drop, List.length_append] at hml hlen0
              rw [List.drop_drop, List.drop_drop] at c2
              have hm1 : ((us.drop n).take i.size).map kindVal = k1 := by
                rw [List.map_take, hm, List.take_append_of_le_length (by omega), List.take_of_length_le (by omega)]
              have hm2 : (us.drop (n + i.size)).map kindVal = k2 := by
                rw [← List.drop_drop, List.map_drop, hm, ← hlen.1, List.drop_left]
              obtain ⟨k, hu, hk1, hk2⟩ := hq1 _ _ h1
              have h1' : oneIf i.size k := by rw [← hlen.1]; exact hk2
              · obtain ⟨x, p1, p2⟩ := part_as hu hk1 h2 (us := us) (off := n) rfl h1' (by omega) w
                obtain ⟨y, p3, p4⟩ := part_as hu hk1 h2 (us := vs) (off := n) rfl h1' (by omega) w
                have he := (hq _ _ h1).2 _ _ _ hm1 c1 x y p2 p4 w
                have ih := run_eqFields_am hq hq1 fs (n + i.size) k2 q' h3 hm2 c2 w
                simp only [Op.eqFields, hcond.1, ne_eq, not_false_eq_true, if_true, Sem.run_bind, hcond.2, p1, p3, he, Result.andThen_ok]
                cases p with
                | false => simp
                | true => simp [ih]
          · cases hk
    · cases hk

theorem kindsT_eq : ∀ (d : Nat) (e : Nat), EqAt' P (d + e) (kindsT P d)
  | 0, _ => fun t ks h => by cases h
  | d + 1, e => fun t ks h => by
    obtain ⟨k, hu, h1, _⟩ := kindsT_one h
    refine ⟨⟨k, hu, h1⟩, fun us vs r hm hc x y hx hy w => ?_⟩
    simp only [kindsT] at h
    unfold AsT at hx hy
    rw [hu] at h hx hy
    rw [show d + 1 + e = d + e + 1 by omega]
    cases k with
    | int k =>
      simp only [Option.some.injEq] at h hx hy
      subst h hx hy
      cases hc with | cons hc _ => cases ‹CmpL [] [] _›; rw [Bool.and_true]; exact hc.eqInt _ _ hu (by simpa using hm)
    | string =>
      simp only [Option.some.injEq] at h hx hy
      subst h hx hy
      cases hc with | cons hc _ => cases ‹CmpL [] [] _›; rw [Bool.and_true]; exact hc.str' _ _ hu (by simpa using hm)
    | bool =>
      simp only [Option.some.injEq] at h hx hy
      subst h hx hy
      cases hc with | cons hc _ => cases ‹CmpL [] [] _›; rw [Bool.and_true]; exact hc.bool' _ _ hu (by simpa using hm)
    | struct fs =>
      simp only at h hx hy
      split at h
      · cases h
      · rename_i hst
        subst hx hy
        have hf : P.fieldsOf t = fs := by simp [Program.fieldsOf, hu]
        rw [run_equalIn_struct w _ t _ _ (by rw [hf]; exact hu) (by simpa using hst), hf]
        exact run_eqFields_am (kindsT_eq d e) (fun t ks h => kindsT_one h) fs.toList 0 ks r h (by simpa using hm) (by simpa using hc) w
    | _ => simp only [reduceCtorEq] at h

theorem kindsV_val : ∀ {cs : List V} {us : List Value}, us.length = cs.length → (∀ (i : Nat) (x : V) (u : Value), cs[i]? = some x → us[i]? = some u → Rep w g x u) → (∀ k ∈ kindsV cs, k ≠ 9) → us.map kindVal = kindsV cs
  | [], us, hl, _, _ => by rw [List.eq_nil_of_length_eq_zero hl]; rfl
  | x :: cs, u :: us, hl, h, hk => by
    have h0 := h 0 x u rfl rfl
    have hk0 : kindV x ≠ 9 := hk _ (by simp [kindsV])
    simp only [List.map_cons, kindsV]
    rw [kindsV_val (cs := cs) (us := us) (by simpa using hl) (fun i => h (i + 1)) (fun k hk' => hk k (by simp [kindsV, hk']))]
    congr 1
    cases x with
    | int k n => rw [h0.int_inv]; rfl
    | str s => obtain ⟨b, rfl, _⟩ := h0.str_inv; rfl
    | bool p => rw [h0.bool_inv]; rfl
    | tt => rw [h0.tt_inv]; rfl
    | ff => rw [h0.ff_inv]; rfl
    | _ => exact absurd rfl hk0
  | x :: cs, [], hl, _, _ => by simp at hl

theorem kinds_ok : ∀ (d : Nat) (t : TypeId) (ks : List Nat), kindsT P d t = some ks → ∀ k ∈ ks, k ≠ 9
  | 0, t, ks, h => by cases h
  | d + 1, t, ks, h => by
    simp only [kindsT] at h
    have fields : ∀ (fs : List Field) (n : Nat) (ks : List Nat), kindsF P (kindsT P d) fs n = some ks → ∀ k ∈ ks, k ≠ 9 := by
      intro fs
      induction fs with
      | nil => intro n ks h k hk; simp only [kindsF, Option.some.injEq] at h; subst h; simp at hk
      | cons f fs ih =>
        intro n ks h
        simp only [kindsF] at h
        split at h
        · cases h1 : kindsT P d f.type with
          | none => simp [h1] at h
          | some k1 =>
            cases h2 : P.info? f.type with
            | none => simp [h1, h2] at h
            | some i =>
              simp only [h1, h2] at h
              split at h
              · cases h3 : kindsF P (kindsT P d) fs (n + i.size) with
                | none => simp [h3] at h
                | some k2 =>
                  simp only [h3, Option.some.injEq] at h
                  subst h
                  intro k hk
                  rcases List.mem_append.1 hk with hk | hk
                  · exact kinds_ok d _ _ h1 k hk
                  · exact ih _ _ h3 k hk
              · cases h
        · cases h
    cases hu : P.underlying t with
    | none => simp [hu] at h
    | some k =>
      cases k <;> simp only [hu, Option.some.injEq, reduceCtorEq] at h <;> first
        | (subst h; simp)
        | (split at h
           · cases h
           · exact fields _ _ _ h)

/-- TWO STRUCTS ARE COMPARED CELL BY CELL. -/
theorem agg_eq {t : TypeId} {cs ds : List V} {xs ys : List Value} {r : Bool} (hl : xs.length = cs.length) (hm : ys.length = ds.length) (hx : ∀ (i : Nat) (x : V) (u : Value), cs[i]? = some x → xs[i]? = some u → Rep w g x u)
    (hy : ∀ (i : Nat) (x : V) (u : Value), ds[i]? = some x → ys[i]? = some u → Rep w g x u) (hc : cmpL cs ds = some r) (hk : eqAllB P t (kindsV cs) = true) : P.eqGuardType P.depth t = false ∧ (Op.equalIn 10000 t (.agg xs.toArray) (.agg ys.toArray)).run P w = .ok r w := by
  simp only [eqAllB, Bool.and_eq_true, Bool.not_eq_true', beq_iff_eq] at hk
  obtain ⟨h1, h2, h3⟩ := hk
  refine ⟨h1, ?_⟩
  have hst : ∃ fs, P.underlying t = some (.struct fs) := by
    split at h3
    · rename_i fs hu; exact ⟨fs, hu⟩
    · cases h3
  obtain ⟨fs, hu⟩ := hst
  refine (kindsT_eq 9 9991 t _ h2).2 xs ys r (kindsV_val hl hx (kinds_ok _ _ _ h2)) (cmpL_inv hl hm hx hy hc) _ _ ?_ ?_ w
  · unfold AsT; rw [hu]
  · unfold AsT; rw [hu]
end Go.Am

namespace Go.Am
open Go.RowKit

variable {P : Program} {T : Tab} {b : Base P} {σ : St} {D : Nat → Prop} {g : G} {a : Act} {w : World}

theorem partV_drop {agg : Bool} {n off : Nat} {cs : List V} {x : V} (h : partV agg n off cs = some x) : partV agg n 0 (cs.drop off) = some x := by
  cases agg with
  | false => simp only [partV, nth_eq] at h ⊢; simpa using h
  | true => simp only [partV, dropN_eq] at h ⊢; simpa using h

theorem cell_row {c off : Nat} {arr : List Value} {t : TypeId} {z : Nat × Nat} (h : w.heap[c]? = some (.cells arr.toArray t z)) : w.cell? ⟨c, off, none⟩ = arr[off]? := by
  simp [World.cell?, h]
theorem frozen_row {c off : Nat} {arr : List Value} {t : TypeId} {z : Nat × Nat} (h : w.heap[c]? = some (.cells arr.toArray t z)) (ho : ¬ (z.1 ≤ off ∧ off < z.2)) : w.frozen? ⟨c, off, none⟩ = false := by
  obtain ⟨lo, hi⟩ := z
  simp [World.frozen?, h]
  intro h1
  have := fun h2 => ho ⟨h1, h2⟩
  simp at this
  exact this

/-- The cells of a block of the call's own. -/
theorem HSim.box_cell (h : HSim b σ D g w) {id c : Nat} {bt : TypeId} {cells : List V} (hs : σ (.blk id) = .box bt cells) (hc : g.own id = some c) :
    ∃ vs : Nat → Value, ∀ j x, cells[j]? = some x → w.cell? ⟨c, j, none⟩ = some (vs j) ∧ Rep w g x (vs j) := by
  obtain ⟨arr, h1, h2, h3⟩ := h.box id bt cells c hs hc
  refine ⟨fun j => arr.getD j undef, fun j x hx => ?_⟩
  have hj : j < arr.length := by have := (List.getElem?_eq_some_iff.1 hx).1; omega
  have e : arr.getD j undef = arr[j] := by rw [List.getD_eq_getElem?_getD, List.getElem?_eq_getElem hj]; rfl
  show _ = some (arr.getD j undef) ∧ _
  simp only [e]
  rw [cell_row h1]
  exact ⟨List.getElem?_eq_getElem hj, h3 j x _ hx (List.getElem?_eq_getElem hj)⟩
theorem HSim.mem_cell (h : HSim b σ D g w) {id c : Nat} {bt : TypeId} {cells : List V} (hs : σ (.blk id) = .mem bt cells) (hc : g.own id = some c) :
    ∃ vs : Nat → Value, ∀ j x, cells[j]? = some x → w.cell? ⟨c, j, none⟩ = some (vs j) ∧ PRep w g.F x (vs j) := by
  obtain ⟨arr, z, h1, h2, h2', h3⟩ := h.mem id bt cells c hs hc
  refine ⟨fun j => arr.getD j undef, fun j x hx => ?_⟩
  have hj : j < arr.length := by have := (List.getElem?_eq_some_iff.1 hx).1; omega
  have e : arr.getD j undef = arr[j] := by rw [List.getD_eq_getElem?_getD, List.getElem?_eq_getElem hj]; rfl
  show _ = some (arr.getD j undef) ∧ _
  simp only [e]
  rw [cell_row h1]
  exact ⟨List.getElem?_eq_getElem hj, h3 j x _ hx (List.getElem?_eq_getElem hj)⟩

theorem load_run (hT : TOk P T) (h : HSim b σ D g w) {t : TypeId} {p v : V} {us : List (Loc × C)} {pv : Value} (hp : Rep w g p pv) (hg : (stepLoad σ T t p).Gives v us) :
    us = [] ∧ ∃ val, (Instr.loadAt t pv).run P w = .ok val w ∧ Rep w g v val := by
  unfold stepLoad at hg
  cases ht : tsize T t with
  | none => simp only [ht] at hg; exact hg.elim
  | some r =>
    obtain ⟨size, agg⟩ := r
    simp only [ht] at hg
    have fin : ∀ (k off : Nat) (cs : List V) (vs : Nat → Value), (∀ j x, cs[j]? = some x → w.cell? ⟨k, off + j, none⟩ = some (vs j)) → (∀ j x, cs[j]? = some x → Rep w g x (vs j)) → partV agg size 0 cs = some v →
        pv = .pointer (some ⟨k, off, none⟩) → ∃ val, (Instr.loadAt t pv).run P w = .ok val w ∧ Rep w g v val := by
      intro k off cs vs h1 h2 h3 h4
      subst h4
      obtain ⟨val, h5, h6⟩ := run_loadVar hT ht h1 h2 h3
      exact ⟨val, by simp [Instr.loadAt, Instr.sureAddr, h5], h6⟩
    cases p with
    | ptr id off =>
      obtain ⟨c, hc, e⟩ := hp.ptr_inv
      simp only at hg
      cases hs : σ (.blk id) with
      | box bt cells =>
        simp only [hs] at hg
        cases hpt : partV agg size off cells with
        | none => simp only [hpt] at hg; exact hg.elim
        | some x =>
          simp only [hpt] at hg
          obtain ⟨e1, e2⟩ := hg
          subst e1
          obtain ⟨vs, hv⟩ := h.box_cell hs hc
          exact ⟨e2, fin c off (cells.drop off) (fun j => vs (off + j)) (fun j x hx => (hv (off + j) x (by simpa using hx)).1) (fun j x hx => (hv (off + j) x (by simpa using hx)).2) (partV_drop hpt) e⟩
      | mem bt cells =>
        simp only [hs] at hg
        obtain ⟨vs, hv⟩ := h.mem_cell hs hc
        have h1 : ∀ j x, (cells.drop off)[j]? = some x → w.cell? ⟨c, off + j, none⟩ = some (vs (off + j)) := fun j x hx => (hv (off + j) x (by simpa using hx)).1
        have h2 : ∀ j x, (cells.drop off)[j]? = some x → Rep w g x (vs (off + j)) := fun j x hx => .pure (hv (off + j) x (by simpa using hx)).2
        cases agg with
        | true =>
          simp only at hg
          obtain ⟨cs, ⟨hl, hcs⟩, e1, e2⟩ := hg
          subst e1
          refine ⟨e2, fin c off (cells.drop off) (fun j => vs (off + j)) h1 h2 ?_ e⟩
          simp only [partV, dropN]
          cases hk : takeN (cells.drop off) size with
          | some r => obtain ⟨h3, _⟩ := takeN_eq _ _ _ hk; simp only; rw [h3, hcs]
          | none =>
            exfalso
            have : ∀ (l : List V) (n : Nat), n ≤ l.length → takeN l n ≠ none := by
              intro l
              induction l with
              | nil => intro n hn; have : n = 0 := by simpa using hn
                       subst this; simp [takeN]
              | cons y l ih =>
                intro n hn
                cases n with
                | zero => simp [takeN]
                | succ n =>
                  simp only [takeN]
                  cases hq : takeN l n with
                  | none => exact absurd hq (ih n (by simpa using hn))
                  | some q => simp
            exact this _ _ (by rw [List.length_drop]; omega) hk
        | false =>
          simp only at hg
          obtain ⟨x, hx, e1, e2⟩ := hg
          subst e1
          exact ⟨e2, fin c off (cells.drop off) (fun j => vs (off + j)) h1 h2 (by simp only [partV, nth_eq]; simpa using hx) e⟩
      | _ => simp only [hs] at hg; exact hg.elim
    | lptr cs off =>
      obtain ⟨blk, base, vals, e, h1, h2⟩ := hp.lptr_inv
      simp only at hg
      cases hpt : partV agg size off cs with
      | none => simp only [hpt] at hg; exact hg.elim
      | some x =>
        simp only [hpt] at hg
        obtain ⟨e1, e2⟩ := hg
        subst e1
        exact ⟨e2, fin blk (base + off) (cs.drop off) (fun j => vals (off + j)) (fun j x hx => by rw [Nat.add_assoc]; exact (h1 (off + j) x (by simpa using hx)).2) (fun j x hx => .pure (h2 (off + j) x (by simpa using hx))) (partV_drop hpt) e⟩
    | _ => exact hg.elim

/-- Cells are stored into a row. -/
theorem run_storeCells_row (c : Nat) {t : TypeId} {z : Nat × Nat} : ∀ (vs : List Value) (off i : Nat) (arr : List Value) (w : World), w.heap[c]? = some (.cells arr.toArray t z) → off + i + vs.length ≤ arr.length →
    (∀ o, o < arr.length → ¬ (z.1 ≤ o ∧ o < z.2)) → (∀ u ∈ vs, u.oneCell' = true) →
    ∃ w', (storeCells ⟨c, off, none⟩ vs i).run P w = .ok () w' ∧ Wr c w w' ∧ w'.heap[c]? = some (.cells (arr.take (off + i) ++ vs ++ arr.drop (off + i + vs.length)).toArray t z)
  | [], off, i, arr, w, h, _, _, _ => ⟨w, by simp [storeCells], ⟨rfl, rfl, rfl, rfl, fun _ _ => rfl, rfl, fun _ h => h, rfl⟩, by simp [h]⟩
  | u :: vs, off, i, arr, w, h, hl, hz, hu => by
    have hlt : off + i < arr.length := by simp at hl; omega
    have hcell : w.cell? ⟨c, off + i, none⟩ = some arr[off + i] := by rw [cell_row h]; exact List.getElem?_eq_getElem hlt
    have hfr := frozen_row (w := w) h (hz (off + i) hlt)
    have hst : (store ⟨c, off + i, none⟩ u).run P w = .ok () (w.setCell ⟨c, off + i, none⟩ u) := by
      rw [run_store P w _ u .plain (hu u (by simp))]
      simp [hcell, hfr]
    have hheap : (w.setCell ⟨c, off + i, none⟩ u).heap[c]? = some (.cells (arr.set (off + i) u).toArray t z) := by
      simp [World.setCell, Array.getElem?_modify, h]
    have hw1 : Wr c w (w.setCell ⟨c, off + i, none⟩ u) := ⟨rfl, rfl, rfl, by simp [World.setCell], fun k hk => Below.heap_setCell _ _ _ _ hk, by
      unfold World.shape?; rw [hheap, h]; simp, fun ds hd => (by rw [h] at hd; cases hd), rfl⟩
    obtain ⟨w', h1, h2, h3⟩ := run_storeCells_row c vs off (i + 1) (arr.set (off + i) u) _ hheap (by simp at hl ⊢; omega) (fun o ho => hz o (by simpa using ho)) (fun x hx => hu x (by simp [hx]))
    refine ⟨w', ?_, ⟨h2.os.trans hw1.os, h2.tape.trans hw1.tape, h2.output.trans hw1.output, h2.size.trans hw1.size, fun k hk => (h2.block k hk).trans (hw1.block k hk), h2.shape.trans hw1.shape, fun ds hd => (by rw [h] at hd; cases hd), h2.drawn.trans hw1.drawn⟩, ?_⟩
    · simp only [storeCells, addr_add0, Sem.run_bind, hst, Result.andThen_ok]
      exact h1
    · rw [h3]
      congr 2
      congr 1
      have e1 : (arr.set (off + i) u).take (off + (i + 1)) = arr.take (off + i) ++ [u] := by
        rw [show off + (i + 1) = (off + i) + 1 by omega, List.take_succ_eq_append_getElem (by simpa using hlt)]
        simp [List.take_set_of_le]
      have e2 : (arr.set (off + i) u).drop (off + (i + 1) + vs.length) = arr.drop (off + i + (u :: vs).length) := by
        rw [List.drop_set_of_lt (by omega)]
        congr 1
        simp; omega
      rw [e1, e2]
      simp

theorem pureV_rep {x : V} {v : Value} (hx : pureV x = true) (h : Rep w g x v) : PRep w g.F (forget x) v := by
  cases h with
  | pure h => cases h <;> first | (constructor <;> assumption) | constructor | (rename_i h1 h2 h3 h4 h5 h6; exact .lst _ h1 h2 h3 h4 h5 h6) | cases hx | exact .bool _
  | lst h ht => exact h
  | func hl hm h hh =>
    rename_i f fs cs vs us
    cases fs with
    | cons y fs => cases hx
    | nil =>
      cases cs with
      | cons y cs => cases hx
      | nil =>
        have e1 : vs = [] := List.eq_nil_of_length_eq_zero hl
        have e2 : us = [] := List.eq_nil_of_length_eq_zero hm
        subst e1 e2
        exact .func f
  | _ => cases hx
theorem forgetAll_get : ∀ {cs : List V} {i : Nat} {y : V}, (forgetAll cs)[i]? = some y → ∃ x, cs[i]? = some x ∧ y = forget x
  | [], i, y, h => by simp [forgetAll] at h
  | c :: cs, 0, y, h => by simp [forgetAll] at h; exact ⟨c, rfl, h.symm⟩
  | c :: cs, i + 1, y, h => by
    obtain ⟨x, h1, h2⟩ := forgetAll_get (cs := cs) (i := i) (y := y) (by simpa [forgetAll] using h)
    exact ⟨x, by simpa using h1, h2⟩
theorem forgetAll_len : ∀ (cs : List V), (forgetAll cs).length = cs.length
  | [] => rfl
  | c :: cs => by simp [forgetAll, forgetAll_len cs]
theorem pureAll_get : ∀ {cs : List V}, pureAll cs = true → ∀ (i : Nat) (x : V), cs[i]? = some x → pureV x = true
  | [], _, i, x, h => by simp at h
  | c :: cs, hc, i, x, h => by
    simp only [pureAll] at hc
    cases hx : pureV c with
    | false => simp [hx] at hc
    | true =>
      simp only [hx] at hc
      cases i with
      | zero => simp at h; subst h; exact hx
      | succ i => exact pureAll_get hc i x (by simpa using h)

theorem store_run (hT : TOk P T) (h : HSim b σ D g w) {t : TypeId} {p x v : V} {us : List (Loc × C)} {pv xv : Value} (hp : Rep w g p pv) (hx : Rep w g x xv) (hg : (stepStore σ T t p x).Gives v us) :
    v = .junk ∧ ∃ w', (Instr.storeAt t pv xv).run P w = .ok () w' ∧ HSim b (updAll σ us) D g w' ∧ Ev g w g w' := by
  unfold stepStore at hg
  cases ht : tsize T t with
  | none => simp only [ht] at hg; exact hg.elim
  | some r =>
    obtain ⟨size, agg⟩ := r
    simp only [ht] at hg
    cases hcs : cellsOf x with
    | none => simp only [hcs] at hg; exact hg.elim
    | some cs =>
      simp only [hcs] at hg
      cases hsz : Nat.beq cs.length size with
      | false => simp only [hsz] at hg; exact hg.elim
      | true =>
        simp only [hsz] at hg
        have hlen : cs.length = size := Nat.eq_of_beq_eq_true hsz
        obtain ⟨hc1, hc2, hc3⟩ := hx.cells hcs
        obtain ⟨_, hsize⟩ := tsize_agg hT ht w
        have hst : ∀ (k off : Nat), (Instr.storeAt t (.pointer (some ⟨k, off, none⟩)) xv).run P w = (storeCells ⟨k, off, none⟩ xv.cells.toList).run P w := by
          intro k off
          have e : xv.cells.size = size := by have : xv.cells.toList.length = xv.cells.size := rfl
                                              omega
          simp [Instr.storeAt, Instr.sureAddr, storeVar, hsize, e]
        generalize xv.cells.toList = ul at *
        cases p with
        | ptr id off =>
          obtain ⟨c, hc, e⟩ := hp.ptr_inv
          subst e
          simp only at hg
          cases hs : σ (.blk id) with
          | box bt cells =>
            simp only [hs] at hg
            cases hspl : splice cells off cs with
            | none => simp only [hspl] at hg; exact hg.elim
            | some cells' =>
              simp only [hspl] at hg
              obtain ⟨e1, e2⟩ := hg
              obtain ⟨hs1, hs2⟩ := splice_eq _ _ _ _ hspl
              obtain ⟨arr, ha1, ha2, ha3⟩ := h.box id bt cells c hs hc
              obtain ⟨w', hr, hw, hh⟩ := run_storeCells_row (P := P) c ul off 0 arr w ha1 (by omega) (fun o _ ho => by omega) hc3
              have hl : (σ (.blk id)).isBlk = true := by rw [hs]; rfl
              obtain ⟨k1, k2⟩ := h.write (X := .box bt cells') hl hc hw (fun _ => by
                have hE : Ev g w g w' := Ev.write hw (fun o => by obtain ⟨c', q1, _, _, q2⟩ := h.live id hl; rw [hc] at q1; cases q1; exact q2 o)
                refine ⟨_, hh, by rw [hs2]; simp; omega, fun i y u hy hu => ?_⟩
                rw [hs2] at hy
                simp only [Nat.add_zero] at hu
                refine Rep.mono hE ?_
                by_cases h1 : i < off
                · rw [List.append_assoc, List.getElem?_append_left (by simp; omega), List.getElem?_take, if_pos h1] at hy hu
                  exact ha3 i y u hy hu
                · by_cases h2 : i < off + cs.length
                  · rw [List.append_assoc, List.getElem?_append_right (by simp; omega), List.getElem?_append_left (by simp; omega)] at hy hu
                    have m1 : min off cells.length = off := by omega
                    have m2 : min off arr.length = off := by omega
                    simp only [List.length_take, m1, m2] at hy hu
                    exact hc2 _ y u hy hu
                  · rw [List.getElem?_append_right (by simp; omega)] at hy hu
                    have m1 : min off cells.length = off := by omega
                    have m2 : min off arr.length = off := by omega
                    simp only [List.length_append, List.length_take, m1, m2, List.getElem?_drop] at hy hu
                    rw [show off + cs.length + (i - (off + cs.length)) = i by omega] at hy
                    rw [show off + ul.length + (i - (off + ul.length)) = i by omega] at hu
                    exact ha3 i y u hy hu)
              subst e2
              exact ⟨e1, w', (hst c off).trans hr, k1, k2⟩
          | mem bt cells =>
            simp only [hs] at hg
            cases hpu : pureAll cs with
            | false => simp only [hpu] at hg; exact hg.elim
            | true =>
              simp only [hpu] at hg
              obtain ⟨hb, e1, e2⟩ := hg
              obtain ⟨arr, z, ha1, ha2, hz, ha3⟩ := h.mem id bt cells c hs hc
              obtain ⟨w', hr, hw, hh⟩ := run_storeCells_row (P := P) c ul off 0 arr w ha1 (by omega) hz hc3
              have hl : (σ (.blk id)).isBlk = true := by rw [hs]; rfl
              obtain ⟨k1, k2⟩ := h.write (X := .mem bt (cells.take off ++ forgetAll cs ++ cells.drop (off + size))) hl hc hw (fun _ => by
                have hE : Ev g w g w' := Ev.write hw (fun o => by obtain ⟨c', q1, _, _, q2⟩ := h.live id hl; rw [hc] at q1; cases q1; exact q2 o)
                have hfl := forgetAll_len cs
                refine ⟨_, z, hh, by simp; omega, fun o ho => hz o (by simp at ho; omega), fun i y u hy hu => ?_⟩
                simp only [Nat.add_zero] at hu
                refine PRep.mono hE.F ?_
                by_cases h1 : i < off
                · rw [List.append_assoc, List.getElem?_append_left (by simp; omega), List.getElem?_take, if_pos h1] at hy hu
                  exact ha3 i y u hy hu
                · by_cases h2 : i < off + cs.length
                  · rw [List.append_assoc, List.getElem?_append_right (by simp; omega), List.getElem?_append_left (by simp; omega)] at hy hu
                    have m1 : min off cells.length = off := by omega
                    have m2 : min off arr.length = off := by omega
                    simp only [List.length_take, m1, m2] at hy hu
                    obtain ⟨y', hy', rfl⟩ := forgetAll_get hy
                    exact pureV_rep (pureAll_get hpu _ y' hy') (hc2 _ y' u hy' hu)
                  · rw [List.getElem?_append_right (by simp; omega)] at hy hu
                    have m1 : min off cells.length = off := by omega
                    have m2 : min off arr.length = off := by omega
                    simp only [List.length_append, List.length_take, m1, m2, List.getElem?_drop] at hy hu
                    rw [show off + size + (i - (off + (forgetAll cs).length)) = i by omega] at hy
                    rw [show off + ul.length + (i - (off + ul.length)) = i by omega] at hu
                    exact ha3 i y u hy hu)
              subst e2
              exact ⟨e1, w', (hst c off).trans hr, k1, k2⟩
          | _ => simp only [hs] at hg; exact hg.elim
        | _ => exact hg.elim
end Go.Am

namespace Go.Am
open Go.RowKit

variable {P : Program} {T : Tab} {b : Base P} {σ : St} {D : Nat → Prop} {g : G} {a : Act} {w : World}

theorem HSim.grow0 (h : HSim b σ D g w) {w' : World} (hb : Below w.heap.size w w') (hd : w.drawn ≤ w'.drawn := by first | exact Nat.le_refl _ | exact Nat.le_succ _) : HSim b σ D g w' ∧ Ev g w g w' :=
  ⟨h.grow hb hd (F' := g.F) (fun _ _ h => h) (fun _ _ h => .inl h), h.evGrow hb hd (F' := g.F) (fun _ _ h => h)⟩

/-- A new block. -/
theorem HSim.newBlk (h : HSim b σ D g w) {f : Nat} (hf : g.own f = none) {X : C} (hX : X.isBlk = true) (o : Obj) (hcl : ∀ g' w', Ev g w g' w' → w'.heap[w.heap.size]? = some o → g'.F = g.F → Claim w' g' w.heap.size X) :
    HSim b (upd σ (.blk f) X) (fun i => D i ∨ i = f) (g.put f w.heap.size) (w.alloc o) ∧ Ev g w (g.put f w.heap.size) (w.alloc o) := by
  obtain ⟨h1, e1⟩ := h.grow0 ((Below.refl _ w).alloc (Nat.le_refl _) o)
  have hnew : (w.alloc o).heap[w.heap.size]? = some o := heap_alloc_new w o
  have e2 := e1.trans (Ev.put (c := w.heap.size) hf)
  refine ⟨h1.add hf hX (.inl h.below.size) (by simp) (fun o ho => ?_) (fun id hl hc => ?_) (fun id t sz N N' _ hr => ?_) (hcl g _ e1 hnew rfl), e2⟩
  · exact absurd (h.flt _ _ ho) (Nat.lt_irrefl _)
  · exact absurd (h.ownsz _ _ hc) (Nat.lt_irrefl _)
  · exact absurd (h.rowsz _ _ _ hr) (Nat.lt_irrefl _)

theorem HSim.newBox (h : HSim b σ D g w) {f : Nat} (hf : g.own f = none) {t : TypeId} {cells : List V} {arr : List Value} (hl : arr.length = cells.length)
    (hr : ∀ (i : Nat) (x : V) (v : Value), cells[i]? = some x → arr[i]? = some v → Rep w g x v) :
    HSim b (upd σ (.blk f) (.box t cells)) (fun i => D i ∨ i = f) (g.put f w.heap.size) (w.alloc (.cells arr.toArray t)) ∧ Ev g w (g.put f w.heap.size) (w.alloc (.cells arr.toArray t)) :=
  h.newBlk hf rfl _ fun _ _ hE hh _ => ⟨arr, hh, hl, fun i x v hx hv => (hr i x v hx hv).mono hE⟩
theorem HSim.newMem (h : HSim b σ D g w) {f : Nat} (hf : g.own f = none) {t : TypeId} {cells : List V} {arr : List Value} {z : Nat × Nat} (hl : cells.length ≤ arr.length) (hz : ∀ o, o < arr.length → ¬ (z.1 ≤ o ∧ o < z.2))
    (hr : ∀ (i : Nat) (x : V) (v : Value), cells[i]? = some x → arr[i]? = some v → PRep w g.F x v) :
    HSim b (upd σ (.blk f) (.mem t cells)) (fun i => D i ∨ i = f) (g.put f w.heap.size) (w.alloc (.cells arr.toArray t z)) ∧ Ev g w (g.put f w.heap.size) (w.alloc (.cells arr.toArray t z)) :=
  h.newBlk hf rfl _ fun _ _ hE hh _ => ⟨arr, z, hh, hl, hz, fun i x v hx hv => (hr i x v hx hv).mono hE.F⟩

/-- What a row of the table gives. -/
theorem TRow.zero_rep (hT : TOk P T) {t : TypeId} {r : TRow} (h : nthT T t = some r) : ∃ i z, P.info? t = some i ∧ i.zero = some z ∧ i.size = r.size ∧ i.bytes = r.bytes ∧ z.cells.size = r.size ∧ r.zero.length = r.size ∧
    (∀ (w : World) (g : G) (j : Nat) (x : V) (v : Value), r.zero[j]? = some x → z.cells.toList[j]? = some v → Rep w g x v) ∧ (z.cells = #[z] ∨ ∃ cs, z = .agg cs) := by
  obtain ⟨_, i, z, h1, h2, h3, h4, h5, h6, h7⟩ := hT t r h
  refine ⟨i, z, h1, h4, h2, h3, h6, by rw [← h5, List.length_map]; exact h6, fun w g j x v hx hv => ?_, h7⟩
  rw [← h5, List.getElem?_map, hv] at hx
  simp at hx
  subst hx
  exact constV_rep w g v

theorem alloc_did (hT : TOk P T) (h : HSim b σ D g w) {f : Nat} (hf : g.own f = none) {t : TypeId} {r : TRow} (hr : nthT T t = some r) {dst ty pos after guard} :
    Did P b σ [(.blk f, .box t r.zero)] f D g a w ⟨dst, .alloc t, ty, pos, after, guard⟩ (.ptr f 0) := by
  obtain ⟨i, z, h1, h2, _, _, h3, h4, h5, _⟩ := TRow.zero_rep hT hr
  obtain ⟨k1, k2⟩ := h.newBox hf (t := t) (cells := r.zero) (arr := z.cells.toList) (by rw [h4]; exact h3) (h5 w g)
  refine ⟨_, .pointer (some ⟨w.heap.size, 0, none⟩), _, _, ?_, .inl rfl, .ptr (G.put_same _ _ _), k1, k2⟩
  simp [execOp, Instr.alloc, zeroValue, typeInfo, h1, h2, newVar, newRow]

theorem box_did (h : HSim b σ D g w) {f : Nat} (hf : g.own f = none) {t : TypeId} {x : Operand} {cs : List V} (hc : cellsOf (opV σ x) = some cs) (hx : Rep w g (opV σ x) (a.eval x)) {dst ty pos after guard} :
    Did P b σ [(.blk f, .box t cs)] f D g a w ⟨dst, .box t x, ty, pos, after, guard⟩ (.ptr f 0) := by
  obtain ⟨h1, h2, _⟩ := hx.cells hc
  obtain ⟨k1, k2⟩ := h.newBox hf (t := t) (cells := cs) (arr := (a.eval x).cells.toList) h1 h2
  refine ⟨_, .pointer (some ⟨w.heap.size, 0, none⟩), _, _, ?_, .inl rfl, .ptr (G.put_same _ _ _), k1, k2⟩
  simp [execOp, Instr.box, newVar, newRow]



theorem cellsOf_len {x : V} {cs : List V} {v : Value} (h : Rep w g x v) (hc : cellsOf x = some cs) : v.cells.size = cs.length := (h.cells hc).1

theorem fill_cells (off : Nat) : ∀ (vs cells : List Value) (k : Nat), off + k + vs.length ≤ cells.length →
    (vs.zipIdx k).foldl (fun (cs : Array Value) (p : Value × Nat) => cs.setIfInBounds (off + p.2) p.1) cells.toArray = (cells.take (off + k) ++ vs ++ cells.drop (off + k + vs.length)).toArray
  | [], cells, k, _ => by simp
  | v :: vs, cells, k, h => by
    simp only [List.zipIdx_cons, List.foldl_cons, List.setIfInBounds_toArray]
    rw [fill_cells off vs (cells.set (off + k) v) (k + 1) (by simp at h ⊢; omega)]
    congr 1
    have hlt : off + k < cells.length := by simp at h; omega
    have e1 : (cells.set (off + k) v).take (off + (k + 1)) = cells.take (off + k) ++ [v] := by
      rw [show off + (k + 1) = (off + k) + 1 by omega, List.take_succ_eq_append_getElem (by simpa using hlt)]
      simp [List.take_set_of_le]
    have e2 : (cells.set (off + k) v).drop (off + (k + 1) + vs.length) = cells.drop (off + k + (v :: vs).length) := by
      rw [List.drop_set_of_lt (by omega)]
      congr 1
      simp; omega
    rw [e1, e2]
    simp

theorem fill_rep (place place' : Nat → Option (Nat × Nat)) (hpp : ∀ i p, place i = some p → place' i = some p) : ∀ (ps : List (Nat × V)) (qs : List (Nat × Value)) (cells cells' : List V) (vals : List Value),
    ps.length = qs.length → (∀ (j : Nat) (i : Nat) (x : V) (i' : Nat) (v : Value), ps[j]? = some (i, x) → qs[j]? = some (i', v) → i = i' ∧ Rep w g x v) →
    vals.length = cells.length → (∀ (j : Nat) (x : V) (v : Value), cells[j]? = some x → vals[j]? = some v → Rep w g x v) →
    fillV place ps cells = some cells' → ∃ vals' : List Value, Instr.fill place' vals.toArray qs = some vals'.toArray ∧ vals'.length = cells'.length ∧ cells'.length = cells.length ∧
      ∀ (j : Nat) (x : V) (v : Value), cells'[j]? = some x → vals'[j]? = some v → Rep w g x v
  | [], qs, cells, cells', vals, hl, _, hv, hr, hf => by
    have : qs = [] := List.eq_nil_of_length_eq_zero (by simpa using hl.symm)
    subst this
    simp only [fillV, Option.some.injEq] at hf
    subst hf
    exact ⟨vals, rfl, hv, rfl, hr⟩
  | (i, x) :: ps, qs, cells, cells', vals, hl, hp, hv, hr, hf => by
    cases qs with
    | nil => simp at hl
    | cons q qs =>
      obtain ⟨i', v⟩ := q
      obtain ⟨rfl, hx⟩ := hp 0 i x i' v rfl rfl
      simp only [fillV] at hf
      cases hpl : place i with
      | none => simp [hpl] at hf
      | some os =>
        obtain ⟨off, size⟩ := os
        simp only [hpl] at hf
        cases hc : cellsOf x with
        | none => simp [hc] at hf
        | some cs =>
          simp only [hc] at hf
          cases hb : Nat.beq cs.length size with
          | false => simp [hb] at hf
          | true =>
            simp only [hb] at hf
            cases hs : splice cells off cs with
            | none => simp [hs] at hf
            | some c2 =>
              simp only [hs] at hf
              obtain ⟨s1, s2⟩ := splice_eq _ _ _ _ hs
              obtain ⟨x1, x2, _⟩ := hx.cells hc
              have hsz : cs.length = size := Nat.eq_of_beq_eq_true hb
              have x1' : v.cells.size = cs.length := x1
              have hle : c2.length = cells.length := by rw [s2]; simp; omega
              have hfold := fill_cells off v.cells.toList vals 0 (by omega)
              obtain ⟨vals', f1, f2, f3, f4⟩ := fill_rep place place' hpp ps qs c2 cells' (vals.take off ++ v.cells.toList ++ vals.drop (off + v.cells.toList.length)) (by simpa using hl)
                (fun j i x i' v h1 h2 => hp (j + 1) i x i' v (by simpa using h1) (by simpa using h2)) (by rw [hle]; simp; omega) (fun j y u hy hu => by
                  rw [s2] at hy
                  generalize v.cells.toList = ul at *
                  by_cases h1 : j < off
                  · rw [List.append_assoc, List.getElem?_append_left (by simp; omega), List.getElem?_take, if_pos h1] at hy hu
                    exact hr j y u hy hu
                  · by_cases h2 : j < off + cs.length
                    · rw [List.append_assoc, List.getElem?_append_right (by simp; omega), List.getElem?_append_left (by simp; omega)] at hy hu
                      have m1 : min off cells.length = off := by omega
                      have m2 : min off vals.length = off := by omega
                      simp only [List.length_take, m1, m2] at hy hu
                      exact x2 _ y u hy hu
                    · rw [List.getElem?_append_right (by simp; omega)] at hy hu
                      have m1 : min off cells.length = off := by omega
                      have m2 : min off vals.length = off := by omega
                      simp only [List.length_append, List.length_take, m1, m2, List.getElem?_drop] at hy hu
                      rw [show off + cs.length + (j - (off + cs.length)) = j by omega] at hy
                      rw [show off + ul.length + (j - (off + ul.length)) = j by omega] at hu
                      exact hr j y u hy hu) hf
              refine ⟨vals', ?_, f2, f3.trans hle, f4⟩
              rw [← f1]
              simp only [Instr.fill, hpp _ _ hpl]
              rw [if_neg (by simp; omega)]
              congr 1
              rw [← Array.foldl_toList, Array.toList_zipIdx]
              simpa using hfold

theorem parts_get : ∀ (ps : List (Nat × Operand)) (j i : Nat) (x : V), (partsV σ ps)[j]? = some (i, x) → ∃ o, ps[j]? = some (i, o) ∧ x = opV σ o
  | [], j, i, x, h => by simp [partsV] at h
  | (i', o) :: ps, 0, i, x, h => by simp [partsV] at h; obtain ⟨rfl, rfl⟩ := h; exact ⟨o, rfl, rfl⟩
  | (i', o) :: ps, j + 1, i, x, h => parts_get ps j i x (by simpa [partsV] using h)
theorem parts_len : ∀ (ps : List (Nat × Operand)), (partsV σ ps).length = ps.length
  | [] => rfl
  | (_, _) :: ps => by simp [partsV, parts_len ps]

theorem parts_rep {ps : Array (Nat × Operand)} (hop : ∀ p ∈ ps, Rep w g (opV σ p.2) (a.eval p.2)) (j i : Nat) (x : V) (i' : Nat) (v : Value) (h1 : (partsV σ ps.toList)[j]? = some (i, x))
    (h2 : (ps.map fun (i, x) => (i, a.eval x)).toList[j]? = some (i', v)) : i = i' ∧ Rep w g x v := by
  obtain ⟨o, ho, rfl⟩ := parts_get _ _ _ _ h1
  rw [Array.toList_map, List.getElem?_map, ho] at h2
  simp only [Option.map_some, Option.some.injEq, Prod.mk.injEq] at h2
  obtain ⟨rfl, rfl⟩ := h2
  exact ⟨rfl, hop (i, o) (by rw [← Array.mem_toList_iff]; exact List.mem_of_getElem? ho)⟩

theorem mapM_get {α β : Type} (f : α → Option β) : ∀ (l : List α) (r : List β), l.mapM f = some r → ∀ (i : Nat) (x : α), l[i]? = some x → r[i]? = f x
  | [], r, h, i, x, hx => by simp at hx
  | y :: l, r, h, i, x, hx => by
    simp only [List.mapM_cons, Option.bind_eq_bind, Option.pure_def] at h
    cases hy : f y with
    | none => simp [hy] at h
    | some z =>
      cases hr : l.mapM f with
      | none => simp [hy, hr] at h
      | some rest =>
        simp [hy, hr] at h
        subst h
        cases i with
        | zero => simp at hx; subst hx; simp [hy]
        | succ i => simpa using mapM_get f l rest hr i x (by simpa using hx)

theorem build_did (hT : TOk P T) (h : HSim b σ D g w) {f : Nat} {t : TypeId} {ps : Array (Nat × Operand)} {us : List (Loc × C)} {v : V} {dst ty pos after guard} (hg : (stepOp P T σ f ⟨dst, .build t ps, ty, pos, after, guard⟩).Gives v us)
    (hop : ∀ p ∈ ps, Rep w g (opV σ p.2) (a.eval p.2)) : Did P b σ us f D g a w ⟨dst, .build t ps, ty, pos, after, guard⟩ v := by
  simp only [stepOp, trow] at hg
  cases hr : nthT T t with
  | none => simp only [hr] at hg; exact hg.elim
  | some r =>
    obtain ⟨i, z, h1, h2, h3, _, h4, h5, h6, _⟩ := TRow.zero_rep hT hr
    have hrow := (hT t _ hr).1
    obtain ⟨ti, n, bytes, zero⟩ := r
    simp only [hr] at hg hrow
    have fin : ∀ (place place' : Nat → Option (Nat × Nat)) (cs : List V), (∀ i p, place i = some p → place' i = some p) → fillV place (partsV σ ps.toList) zero = some cs →
        (∀ cells, Instr.fill place' z.cells (ps.map fun (i, x) => (i, a.eval x)).toList = some cells → P.built t (ps.map fun (i, x) => (i, a.eval x)).toList = some cells) →
        v = .agg cs → us = [] → Did P b σ us f D g a w ⟨dst, .build t ps, ty, pos, after, guard⟩ v := by
      intro place place' cs hpp hf hb e1 e2
      subst e1 e2
      obtain ⟨vals', f1, f2, f3, f4⟩ := fill_rep (w := w) (g := g) place place' hpp (partsV σ ps.toList) (ps.map fun (i, x) => (i, a.eval x)).toList zero cs z.cells.toList (by rw [parts_len]; simp)
        (fun j i x i' v h1 h2 => parts_rep hop j i x i' v h1 h2) (by rw [h5]; exact h4) (fun j x v hx hv => h6 w g j x v hx hv) hf
      refine Did.val h (val := .agg vals'.toArray) ?_ (.agg f2 f4)
      have := run_build (P := P) w t (ps.map fun (i, x) => (i, a.eval x)) _ (hb _ f1)
      simp only [execOp, Sem.run_bind, this, Result.andThen_ok]
      rfl
    cases ti with
    | struct fs =>
      simp only at hg hrow
      obtain ⟨fields, places, hu, hfs, hpl⟩ := hrow
      generalize hpf : (fun i => match nth fs i with | some (off, ft) => (match nthT T ft with | some r => some (off, r.size) | none => none) | none => none : Nat → Option (Nat × Nat)) = place at hg
      cases hf : fillV place (partsV σ ps.toList) zero with
      | none => simp only [hf] at hg; exact hg.elim
      | some cs =>
        simp only [hf] at hg
        obtain ⟨e1, e2⟩ := hg
        refine fin place (places.toArray[·]?) cs (fun i p hp => ?_) hf (fun cells hc => ?_) e1 e2
        · rw [← hpf] at hp
          simp only at hp
          cases hn : nth fs i with
          | none => simp [hn] at hp
          | some q =>
            obtain ⟨off, ft⟩ := q
            simp only [hn] at hp
            cases hft : nthT T ft with
            | none => simp [hft] at hp
            | some r =>
              simp only [hft, Option.some.injEq] at hp
              subst hp
              obtain ⟨j, _, q1, _, q2, _⟩ := TRow.zero_rep hT hft
              rw [nth_eq, ← hfs, List.getElem?_map] at hn
              cases hfi : fields.toList[i]? with
              | none => simp [hfi] at hn
              | some fd =>
                simp only [hfi, Option.map_some, Option.some.injEq, Prod.mk.injEq] at hn
                obtain ⟨rfl, rfl⟩ := hn
                have := mapM_get _ _ _ hpl i fd hfi
                simp only [List.getElem?_toArray, this, q1, Option.map_some, q2]
        · simp only [Program.built, h1, hu, h2, hpl]
          exact hc
    | arr m e =>
      simp only at hg hrow
      cases he : nthT T e with
      | none => simp only [he] at hg; exact hg.elim
      | some r =>
        simp only [he] at hg
        cases hf : fillV (fun i => some (i * r.size, r.size)) (partsV σ ps.toList) zero with
        | none => simp only [hf] at hg; exact hg.elim
        | some cs =>
          simp only [hf] at hg
          obtain ⟨e1, e2⟩ := hg
          obtain ⟨j, _, q1, _, q2, _⟩ := TRow.zero_rep hT he
          refine fin _ (fun i => some (i * r.size, r.size)) cs (fun i p hp => hp) hf (fun cells hc => ?_) e1 e2
          simp only [Program.built, h1, hrow, h2, q1, q2]
          exact hc
    | _ => exact hg.elim
end Go.Am

namespace Go.Am
open Go.RowKit

variable {P : Program} {T : Tab} {b : Base P} {σ : St} {D : Nat → Prop} {g : G} {a : Act} {w : World}

theorem chunk_eq (sz : Nat) : ∀ (n : Nat) (l : List V) (els : List (List V)), chunk sz n l = some els → els.length = n ∧ (∀ el ∈ els, el.length = sz) ∧ l = els.flatten
  | 0, [], els, h => by simp [chunk] at h; subst h; simp
  | 0, _ :: _, els, h => by simp [chunk] at h
  | n + 1, l, els, h => by
    simp only [chunk] at h
    cases ht : takeN l sz with
    | none => simp [ht] at h
    | some r =>
      simp only [ht] at h
      cases hc : chunk sz n (dropN l sz) with
      | none => simp [hc] at h
      | some rs =>
        simp only [hc, Option.some.injEq] at h
        subst h
        obtain ⟨h1, h2⟩ := takeN_eq _ _ _ ht
        obtain ⟨h3, h4, h5⟩ := chunk_eq sz n _ _ hc
        refine ⟨by simp [h3], fun el hel => ?_, ?_⟩
        · rcases List.mem_cons.1 hel with rfl | hel
          · exact h2
          · exact h4 el hel
        · rw [dropN_eq] at h5
          rw [List.flatten_cons, ← h5, h1, List.take_append_drop]

theorem pureV_oneV {x : V} (h : pureV x = true) : oneV x = true := by cases x <;> first | rfl | cases h

/-- A cell of rows. -/
theorem flat_get {α : Type} (sz : Nat) : ∀ (els : List (List α)) (i j : Nat) (el : List α) (x : α), (∀ el ∈ els, el.length = sz) → els[i]? = some el → el[j]? = some x → els.flatten[i * sz + j]? = some x
  | [], i, j, el, x, _, h, _ => by simp at h
  | e :: els, 0, j, el, x, hs, h, hx => by
    simp at h; subst h
    have : j < e.length := (List.getElem?_eq_some_iff.1 hx).1
    rw [List.flatten_cons, Nat.zero_mul, Nat.zero_add, List.getElem?_append_left this]
    exact hx
  | e :: els, i + 1, j, el, x, hs, h, hx => by
    have he : e.length = sz := hs e (by simp)
    rw [List.flatten_cons, List.getElem?_append_right (by rw [he, Nat.succ_mul]; omega), he]
    rw [show (i + 1) * sz + j - sz = i * sz + j by rw [Nat.succ_mul]; omega]
    exact flat_get sz els i j el x (fun y hy => hs y (by simp [hy])) (by simpa using h) hx
theorem flat_len {α : Type} (sz : Nat) : ∀ (els : List (List α)), (∀ el ∈ els, el.length = sz) → els.flatten.length = els.length * sz
  | [], _ => by simp
  | e :: els, hs => by
    rw [List.flatten_cons, List.length_append, flat_len sz els (fun y hy => hs y (by simp [hy])), hs e (by simp), List.length_cons, Nat.succ_mul]
    omega

/-- A row of cells that never turn reads as a slice. -/
theorem prep_row {F : Nat → Nat → Prop} {c sz : Nat} {t : TypeId} {z : Nat × Nat} {arr : List Value} {els : List (List V)} {cap : Nat} (hh : w.heap[c]? = some (.cells arr.toArray t z)) (hF : ∀ o, o < els.length * sz → F c o)
    (hcap : els.length ≤ cap) (hsz : ∀ el ∈ els, el.length = sz) (hl : els.length * sz ≤ arr.length)
    (ho : ∀ (i : Nat) (x : V) (v : Value), els.flatten[i]? = some x → arr[i]? = some v → v.oneCell' = true)
    (hr : ∀ (i : Nat) (x : V) (v : Value), els.flatten[i]? = some x → arr[i]? = some v → PRep w F x v) : PRep w F (.lst false sz els .none) (.slice (some ⟨c, 0, none⟩) els.length cap) := by
  have key : ∀ (i : Nat) (el : List V) (j : Nat) (x : V), els[i]? = some el → el[j]? = some x → els.flatten[i * sz + j]? = some x ∧ i * sz + j < els.length * sz := by
    intro i el j x h1 h2
    have h3 := flat_get sz els i j el x hsz h1 h2
    refine ⟨h3, ?_⟩
    have := (List.getElem?_eq_some_iff.1 h3).1
    rwa [flat_len sz els hsz] at this
  refine .lst (fun i j => arr.getD (i * sz + j) undef) rfl hcap hsz (fun i el j x h1 h2 => ?_) (fun i el j x h1 h2 => ?_) (fun i el j x h1 h2 => ?_)
  · obtain ⟨h3, h4⟩ := key i el j x h1 h2
    refine ⟨c, 0, rfl, by rw [Nat.zero_add]; exact hF _ h4, ?_⟩
    show _ = some (arr.getD (i * sz + j) undef)
    rw [Nat.zero_add, cell_row hh, List.getD_eq_getElem?_getD, List.getElem?_eq_getElem (by omega)]
    rfl
  · obtain ⟨h3, h4⟩ := key i el j x h1 h2
    refine ho _ x _ h3 ?_
    rw [List.getD_eq_getElem?_getD, List.getElem?_eq_getElem (by omega)]
    rfl
  · obtain ⟨h3, h4⟩ := key i el j x h1 h2
    refine hr _ x _ h3 ?_
    rw [List.getD_eq_getElem?_getD, List.getElem?_eq_getElem (by omega)]
    rfl

/-- Cells of a new block never turn from now on. -/
theorem HSim.newFix (h : HSim b σ D g w) (arr : List Value) (t : TypeId) (z : Nat × Nat) : ∃ g', HSim b σ D g' (w.alloc (.cells arr.toArray t z)) ∧ Ev g w g' (w.alloc (.cells arr.toArray t z)) ∧ (∀ o, g'.F w.heap.size o) ∧
    g'.own = g.own ∧ g'.row = g.row ∧ (∀ k o, g.F k o → g'.F k o) := by
  have hb := (Below.refl _ w).alloc (Nat.le_refl _) (.cells arr.toArray t z)
  refine ⟨{ g with F := fun k o => g.F k o ∨ k = w.heap.size }, h.grow hb (Nat.le_refl _) (fun _ _ h => .inl h) (fun k o hk => ?_), h.evGrow hb (Nat.le_refl _) (fun _ _ h => .inl h), fun _ => .inr rfl, rfl, rfl, fun _ _ h => .inl h⟩
  rcases hk with hk | rfl
  · exact .inl hk
  · exact .inr ⟨Nat.le_refl _, by simp⟩

theorem repl_len (n : Nat) (z : List V) : (repl n z).length = n * z.length := by
  unfold repl
  rw [flat_len z.length _ (fun el hel => by rw [List.eq_of_mem_replicate hel]), List.length_replicate]
theorem repl_get (n : Nat) (z : List V) (i : Nat) (x : V) (h : (repl n z)[i]? = some x) : z[i % z.length]? = some x ∧ i < n * z.length := by
  have hi : i < n * z.length := by have := (List.getElem?_eq_some_iff.1 h).1; rwa [repl_len] at this
  have hz : 0 < z.length := by
    rcases Nat.eq_zero_or_pos z.length with h0 | h0
    · rw [h0, Nat.mul_zero] at hi; omega
    · exact h0
  have hq : i / z.length < n := by rw [Nat.div_lt_iff_lt_mul hz]; exact hi
  have hm : i % z.length < z.length := Nat.mod_lt _ hz
  have := flat_get z.length (List.replicate n z) (i / z.length) (i % z.length) z z[i % z.length] (fun el hel => by rw [List.eq_of_mem_replicate hel]) (by rw [List.getElem?_replicate, if_pos hq]) (List.getElem?_eq_getElem hm)
  rw [show i / z.length * z.length + i % z.length = i from by rw [Nat.mul_comm]; exact Nat.div_add_mod i z.length] at this
  unfold repl at h
  rw [h] at this
  cases this
  exact ⟨List.getElem?_eq_getElem hm, hi⟩

/-- n zero elements, as the model lays them. -/
theorem zeros_rep (hT : TOk P T) {t : TypeId} {r : TRow} (hr : nthT T t = some r) (n : Nat) : ∃ i z, P.info? t = some i ∧ i.zero = some z ∧ i.size = r.size ∧ i.bytes = r.bytes ∧ z.cells.size = r.size ∧ r.zero.length = r.size ∧
    (∀ (w : World) (g : G) (j : Nat) (x : V) (v : Value), (repl n r.zero)[j]? = some x → ((Array.range (n * r.size)).map (z.cells[· % z.cells.size]!)).toList[j]? = some v → Rep w g x v) := by
  obtain ⟨i, z, h1, h2, h3, h3', h4, h5, h6, _⟩ := TRow.zero_rep hT hr
  refine ⟨i, z, h1, h2, h3, h3', h4, h5, fun w g j x v hx hv => ?_⟩
  obtain ⟨h7, h8⟩ := repl_get n r.zero j x hx
  rw [h5] at h7 h8
  have hz : 0 < r.size := by
    rcases Nat.eq_zero_or_pos r.size with h0 | h0
    · rw [h0, Nat.mul_zero] at h8; omega
    · exact h0
  have hm : j % r.size < z.cells.size := by rw [h4]; exact Nat.mod_lt _ hz
  simp only [Array.toList_map, Array.toList_range, List.getElem?_map, List.getElem?_range h8, Option.map_some, Option.some.injEq] at hv
  refine h6 w g (j % r.size) x v h7 ?_
  rw [← hv, h4, getElem!_pos z.cells (j % r.size) hm, Array.getElem?_toList, Array.getElem?_eq_getElem hm]

theorem buildSlice_did (hT : TOk P T) (h : HSim b σ D g w) {f : Nat} (hf : g.own f = none) {t : TypeId} {n : Nat} {ps : Array (Nat × Operand)} {us : List (Loc × C)} {v : V} {dst ty pos after guard}
    (hg : (stepOp P T σ f ⟨dst, .buildSlice t n ps, ty, pos, after, guard⟩).Gives v us)
    (hop : ∀ p ∈ ps, Rep w g (opV σ p.2) (a.eval p.2)) : Did P b σ us f D g a w ⟨dst, .buildSlice t n ps, ty, pos, after, guard⟩ v := by
  simp only [stepOp, trow] at hg
  cases hr : nthT T t with
  | none => simp only [hr] at hg; exact hg.elim
  | some r =>
    have hrow := (hT t _ hr).1
    obtain ⟨ti, m, bytes, zero⟩ := r
    simp only [hr] at hg hrow
    cases ti with
    | slice e =>
      simp only at hg hrow
      cases he : nthT T e with
      | none => simp only [he] at hg; exact hg.elim
      | some r =>
        simp only [he] at hg
        obtain ⟨i, z, q1, q2, q3, _, q4, q5, q6⟩ := zeros_rep hT he n
        cases hb : Nat.ble (n * r.size) 1000000 with
        | false => simp only [hb] at hg; exact hg.elim
        | true =>
          simp only [hb] at hg
          have hle : n * r.size ≤ 1000000 := Nat.le_of_ble_eq_true hb
          cases hfl : fillV (fun i => some (i * r.size, r.size)) (partsV σ ps.toList) (repl n r.zero) with
          | none => simp only [hfl] at hg; exact hg.elim
          | some cs =>
            simp only [hfl] at hg
            obtain ⟨vals', f1, f2, f3, f4⟩ := fill_rep (w := w) (g := g) _ (fun i => some (i * r.size, r.size)) (fun _ _ h => h) (partsV σ ps.toList) (ps.map fun (i, x) => (i, a.eval x)).toList (repl n r.zero) cs
              ((Array.range (n * r.size)).map (z.cells[· % z.cells.size]!)).toList (by rw [parts_len]; simp) (fun j i x i' v h1 h2 => parts_rep hop j i x i' v h1 h2) (by rw [repl_len, q5]; simp) (fun j x v hx hv => q6 w g j x v hx hv) hfl
            have hrun : (execOp a.eval ⟨dst, .buildSlice t n ps, ty, pos, after, guard⟩).run P w = .ok (.value (.slice (some ⟨w.heap.size, 0, none⟩) n n)) (w.alloc (.cells vals'.toArray e)) := by
              have hs := run_size q1 w
              rw [q3] at hs
              rw [show ((Array.range (n * r.size)).map (z.cells[· % z.cells.size]!)).toList.toArray = ((Array.range (n * r.size)).map (z.cells[· % z.cells.size]!)) from rfl] at f1
              simp only [execOp, Instr.buildSlice, Sem.run_bind, run_underlying hrow, Result.andThen_ok, hs]
              rw [if_neg (by omega)]
              by_cases h0 : n * r.size = 0
              · have e0 : ∀ fn : Nat → Value, (Array.range 0).map fn = #[] := fun _ => by simp
                rw [h0] at f1
                simp only [h0, if_true, Sem.run_bind, Sem.run_pure, Result.andThen_ok, e0] at f1 ⊢
                rw [f1]
                simp [newRow]
              · simp only [if_neg h0, Sem.run_bind, Sem.run_pure, Result.andThen_ok, zeroValue, typeInfo, run_program, q1, q2]
                rw [f1]
                simp [newRow]
            have hcl : cs.length = n * r.size := by rw [f3, repl_len, q5]
            cases hp : pureAll cs with
            | true =>
              simp only [hp] at hg
              cases hch : chunk r.size n (forgetAll cs) with
              | none => simp only [hch] at hg; exact hg.elim
              | some els =>
                simp only [hch] at hg
                obtain ⟨e1, e2⟩ := hg
                subst e1 e2
                obtain ⟨c1, c2, c3⟩ := chunk_eq _ _ _ _ hch
                obtain ⟨g', k1, k2, k3, k4, k5, k6⟩ := h.newFix vals' e (0, 0)
                refine ⟨_, _, _, g', hrun, .inl rfl, ?_, k1.widen (fun _ hi => .inl hi), k2⟩
                rw [← c1]
                refine .lst (prep_row (heap_alloc_new w _) (fun o _ => k3 o) (Nat.le_refl _) c2 (by rw [f2, hcl, c1]; exact Nat.le_refl _) (fun i x u hx hu => by
                  rw [← c3] at hx
                  obtain ⟨y, hy, rfl⟩ := forgetAll_get hx
                  exact oneV_oneCell (f4 i y u hy hu) (pureV_oneV (pureAll_get hp i y hy))) (fun i x u hx hu => ?_)) rfl
                rw [← c3] at hx
                obtain ⟨y, hy, rfl⟩ := forgetAll_get hx
                exact (pureV_rep (pureAll_get hp i y hy) (f4 i y u hy hu)).mono k2.F
            | false =>
              simp only [hp] at hg
              obtain ⟨e1, e2⟩ := hg
              subst e1 e2
              obtain ⟨k1, k2⟩ := h.newBox hf (t := e) (cells := cs) (arr := vals') f2 f4
              exact ⟨_, _, _, _, hrun, .inl rfl, .own (G.put_same _ _ _) (fun _ => rfl) rfl (Nat.le_refl _) (fun e => by cases e), k1, k2⟩
    | _ => exact hg.elim
end Go.Am

namespace Go.Am
open Go.RowKit

variable {P : Program} {T : Tab} {b : Base P} {σ : St} {D : Nat → Prop} {g : G} {a : Act} {w : World}

theorem run_sliceBound {k : IntKind} {n : Int} {y : Nat} {code : BoundsCode} (h0 : 0 ≤ n) (h1 : n.toNat ≤ y) : (Instr.sliceBound (.int k n) y code).run P w = .ok n.toNat w := by
  simp only [Instr.sliceBound, asIntOf, Sem.run_bind, Sem.run_pure, Result.andThen_ok]
  rw [if_pos ⟨h0, by omega⟩]
  rfl

theorem optInt_inv {x : Option Operand} {r : Option Int} (h : optInt σ x = some r) (hx : ∀ y, x = some y → Rep w g (opV σ y) (a.eval y)) : (r = none ∧ x = none) ∨ ∃ n y k, r = some n ∧ x = some y ∧ a.eval y = .int k n := by
  cases x with
  | none => simp [optInt] at h; exact .inl ⟨h.symm, rfl⟩
  | some y =>
    simp only [optInt] at h
    have := hx y rfl
    cases hv : opV σ y with
    | int k n =>
      simp only [hv, Option.some.injEq] at h
      rw [hv] at this
      exact .inr ⟨n, y, k, h.symm, rfl, this.int_inv⟩
    | _ => simp [hv] at h

def bnd (o : Option Int) (d : Nat) : Nat := match o with | some n => n.toNat | none => d

/-- The bounds of a slice expression: from, to, and up to where there is room. -/
theorem run_sliceBounds {isS : Bool} {len cap : Nat} (hcap : len ≤ cap) {lo hi mx : Option Operand} {l h m : Option Int} (hl : optInt σ lo = some l) (hh : optInt σ hi = some h) (hm : optInt σ mx = some m)
    (hop : ∀ y, (lo = some y ∨ hi = some y ∨ mx = some y) → Rep w g (opV σ y) (a.eval y)) (hmh : ∀ m', m = some m' → h = some m')
    (h1 : ∀ n, l = some n → 0 ≤ n ∧ n.toNat ≤ bnd h len) (h2 : ∀ n, h = some n → 0 ≤ n ∧ n.toNat ≤ len) :
    (Instr.sliceBounds isS len cap (lo.map a.eval) (hi.map a.eval) (mx.map a.eval)).run P w = .ok (bnd l 0, bnd h len, bnd m cap) w := by
  rcases optInt_inv hm (fun y hy => hop y (.inr (.inr hy))) with ⟨rfl, rfl⟩ | ⟨n3, y3, k3, rfl, rfl, e3⟩
  · rcases optInt_inv hh (fun y hy => hop y (.inr (.inl hy))) with ⟨rfl, rfl⟩ | ⟨n2, y2, k2, rfl, rfl, e2⟩
    · simp only [Instr.sliceBounds, Option.map_none, Sem.run_bind, Sem.run_pure, Result.andThen_ok, Option.isSome_none]
      rcases optInt_inv hl (fun y hy => hop y (.inl hy)) with ⟨rfl, rfl⟩ | ⟨n1, y1, k1, rfl, rfl, e1⟩
      · simp [bnd]
      · have h4 := h1 n1 rfl
        simp only [bnd] at h4
        simp only [Option.map_some, e1, Sem.run_bind]
        rw [run_sliceBound h4.1 h4.2]
        rfl
    · have h3 := h2 n2 rfl
      simp only [Instr.sliceBounds, Option.map_none, Option.map_some, Sem.run_bind, Sem.run_pure, Result.andThen_ok, Option.isSome_none]
      rw [e2, run_sliceBound h3.1 (by omega)]
      simp only [Result.andThen_ok]
      rcases optInt_inv hl (fun y hy => hop y (.inl hy)) with ⟨rfl, rfl⟩ | ⟨n1, y1, k1, rfl, rfl, e1⟩
      · simp [bnd]
      · have h4 := h1 n1 rfl
        simp only [bnd] at h4
        simp only [Option.map_some, e1, Sem.run_bind]
        rw [run_sliceBound h4.1 h4.2]
        rfl
  · have e := hmh n3 rfl
    subst e
    rcases optInt_inv hh (fun y hy => hop y (.inr (.inl hy))) with ⟨e, _⟩ | ⟨n2, y2, k2, e, rfl, e2⟩
    · cases e
    · cases e
      have h3 := h2 n3 rfl
      simp only [Instr.sliceBounds, Option.map_some, Sem.run_bind, Option.isSome_some]
      rw [e3, run_sliceBound h3.1 (by omega)]
      simp only [Result.andThen_ok]
      rw [e2, run_sliceBound h3.1 (by omega)]
      simp only [Result.andThen_ok]
      rcases optInt_inv hl (fun y hy => hop y (.inl hy)) with ⟨rfl, rfl⟩ | ⟨n1, y1, k1, rfl, rfl, e1⟩
      · simp [bnd]
      · have h4 := h1 n1 rfl
        simp only [bnd] at h4
        simp only [Option.map_some, e1, Sem.run_bind]
        rw [run_sliceBound h4.1 h4.2]
        rfl

theorem addr_add2 (ad : Addr) (i j : Nat) : (ad.add i).add j = ad.add (i + j) := by
  unfold Addr.add
  by_cases hi : i = 0 <;> by_cases hj : j = 0 <;> simp [hi, hj, Nat.add_assoc]

/-- A piece of a slice of cells that never turn. -/
theorem PRep.sub {F : Nat → Nat → Prop} {isNil : Bool} {sz : Nat} {els : List (List V)} {ad : Option Addr} {n c : Nat} (h : PRep w F (.lst isNil sz els .none) (.slice ad n c)) {l k m : Nat} (hl : l ≤ k) (hk : k ≤ n) (hm : k ≤ m) :
    PRep w F (.lst isNil sz ((els.take k).drop l) .none) (.slice (if m = l then ad else ad.map (·.add (l * sz))) (k - l) (m - l)) := by
  cases h with
  | lst vals hnil hc hsz ha hone h =>
    have hlen : ((els.take k).drop l).length = k - l := by simp; omega
    rw [← hlen]
    have hget : ∀ (i : Nat) (el : List V), ((els.take k).drop l)[i]? = some el → els[l + i]? = some el ∧ l + i < k := by
      intro i el hi
      rw [List.getElem?_drop, List.getElem?_take] at hi
      split at hi
      · exact ⟨hi, by assumption⟩
      · cases hi
    refine .lst (fun i j => vals (l + i) j) ?_ (by rw [hlen]; omega) (fun el hel => hsz el (List.mem_of_mem_take (List.mem_of_mem_drop hel))) (fun i el j x h1 h2 => ?_) (fun i el j x h1 h2 => hone (l + i) el j x (hget i el h1).1 h2) (fun i el j x h1 h2 => h (l + i) el j x (hget i el h1).1 h2)
    · split
      · exact hnil
      · rw [hnil]; simp
    · obtain ⟨h3, h4⟩ := hget i el h1
      obtain ⟨blk, base, e, hf, hcell⟩ := ha (l + i) el j x h3 h2
      have hne : m ≠ l := by omega
      rw [if_neg hne]
      refine ⟨blk, base + l * sz, by rw [e]; simp [addr_add0], ?_, ?_⟩
      · rw [show base + l * sz + i * sz + j = base + (l + i) * sz + j by rw [Nat.add_mul]; omega]; exact hf
      · rw [show base + l * sz + i * sz + j = base + (l + i) * sz + j by rw [Nat.add_mul]; omega]; exact hcell

theorem trow_size (hT : TOk P T) {t : TypeId} {r : TRow} (h : nthT T t = some r) (w : World) : (sizeOf t).run P w = .ok r.size w := by
  obtain ⟨i, _, h1, _, h2, _⟩ := TRow.zero_rep hT h
  rw [run_size h1, h2]

theorem ba_extract (s : ByteArray) (l h : Nat) : (s.extract l h).data.toList = (s.data.toList.take h).drop l := by
  rw [ByteArray.data_extract, Array.toList_extract, List.extract]
  rw [List.drop_take]

theorem els_nil {F : Nat → Nat → Prop} {isNil : Bool} {sz sz' : Nat} {ad : Option Addr} {n c : Nat} (h : PRep w F (.lst isNil sz [] .none) (.slice ad n c)) : PRep w F (.lst isNil sz' [] .none) (.slice ad n c) := by
  cases h with
  | lst vals hnil hc hsz ha hone h => exact .lst vals hnil hc (by simp) (fun i el j x h => by simp at h) (fun i el j x h => by simp at h) (fun i el j x h => by simp at h)

theorem slice_lst (hT : TOk P T) (h : HSim b σ D g w) {t e : TypeId} {n0 b0 : Nat} {z0 : List V} (hr : nthT T t = some ⟨.slice e, n0, b0, z0⟩) {r : TRow} (he : nthT T e = some r) {x : Operand} {lo hi mx : Option Operand} {l k m : Option Int}
    (hl : optInt σ lo = some l) (hh : optInt σ hi = some k) (hm : optInt σ mx = some m) {isNil : Bool} {els : List (List V)} {tk tk' : Tok} {f : Nat}
    (hx : Rep w g (.lst isNil r.size els tk) (a.eval x)) (hop : ∀ y, (lo = some y ∨ hi = some y ∨ mx = some y) → Rep w g (opV σ y) (a.eval y)) (hmh : ∀ m', m = some m' → k = some m')
    (h1 : ∀ n, l = some n → 0 ≤ n ∧ n.toNat ≤ bnd k els.length) (h2 : ∀ n, k = some n → 0 ≤ n ∧ n.toNat ≤ els.length)
    (htk : ∀ ad c, els.length ≤ c → TokOk w g tk els.length r.size ad c → TokOk w g tk' (bnd k els.length - bnd l 0) r.size (if bnd m c = bnd l 0 then ad else ad.map (·.add (bnd l 0 * r.size))) (bnd m c - bnd l 0))
    {dst ty pos after guard} :
    Did P b σ [] f D g a w ⟨dst, .slice t x lo hi mx, ty, pos, after, guard⟩ (.lst isNil r.size ((els.take (bnd k els.length)).drop (bnd l 0)) tk') := by
  obtain ⟨ad, c, e1, e2, e3⟩ := hx.lst_inv
  have hc : els.length ≤ c := by cases e2; assumption
  have hb := run_sliceBounds (P := P) (isS := true) hc hl hh hm hop hmh h1 h2
  have hrow := (hT t _ hr).1
  simp only at hrow
  have ht := htk ad c hc e3
  have hsub := e2.sub (l := bnd l 0) (k := bnd k els.length) (m := bnd m c) (by
    cases l with
    | none => exact Nat.zero_le _
    | some n => exact (h1 n rfl).2) (by
    cases k with
    | none => exact Nat.le_refl _
    | some n => exact (h2 n rfl).2) (by
    cases m with
    | none => cases k with
      | none => exact hc
      | some n => have := (h2 n rfl).2; simp only [bnd]; omega
    | some n => have := hmh n rfl; subst this; exact Nat.le_refl _)
  refine Did.val h ?_ (.lst hsub ht)
  simp only [execOp, Instr.sliceAt, Sem.run_bind, run_underlying hrow, Result.andThen_ok, Instr.slice, e1, hb, trow_size hT he, Sem.run_pure]
end Go.Am

namespace Go.Am
open Go.RowKit

variable {P : Program} {T : Tab} {b : Base P} {σ : St} {D : Nat → Prop} {g : G} {a : Act} {w : World}

theorem Rep.lst_sz {isNil : Bool} {sz sz' : Nat} {tk : Tok} {v : Value} (h : Rep w g (.lst isNil sz [] tk) v) (ht : ∀ id, tk ≠ .row id) (hb : ∀ id, tk ≠ .brow id) : Rep w g (.lst isNil sz' [] tk) v := by
  obtain ⟨ad, c, rfl, h2, h3⟩ := h.lst_inv
  refine .lst (els_nil h2) ?_
  cases tk with
  | none => trivial
  | tight => exact h3
  | row id => exact absurd rfl (ht id)
  | brow id => exact absurd rfl (hb id)

theorem TokOk.same {w : World} {g : G} {tk : Tok} {n sz : Nat} {ad : Option Addr} {c : Nat} (h : TokOk w g tk n sz ad c) : TokOk w g tk (n - 0) sz (if c = 0 then ad else ad.map (·.add (0 * sz))) (c - 0) := by
  have e : (if c = 0 then ad else ad.map (·.add (0 * sz))) = ad := by
    split
    · rfl
    · cases ad with
      | none => rfl
      | some ad => simp [Addr.add]
  rw [e]
  exact h

theorem slice_str (hT : TOk P T) (h : HSim b σ D g w) {t : TypeId} {n0 b0 : Nat} {z0 : List V} (hr : nthT T t = some ⟨.str, n0, b0, z0⟩) {x : Operand} {lo hi : Option Operand} {l k : Option Int}
    (hl : optInt σ lo = some l) (hh : optInt σ hi = some k) {s : List UInt8} {f : Nat} (hx : Rep w g (.str s) (a.eval x)) (hop : ∀ y, (lo = some y ∨ hi = some y) → Rep w g (opV σ y) (a.eval y))
    (h1 : ∀ n, l = some n → 0 ≤ n ∧ n.toNat ≤ bnd k s.length) (h2 : ∀ n, k = some n → 0 ≤ n ∧ n.toNat ≤ s.length) {dst ty pos after guard} :
    Did P b σ [] f D g a w ⟨dst, .slice t x lo hi none, ty, pos, after, guard⟩ (.str ((s.take (bnd k s.length)).drop (bnd l 0))) := by
  obtain ⟨ba, e1, e2⟩ := hx.str_inv
  have hlen : ba.size = s.length := by rw [← e2]; rfl
  have hb := run_sliceBounds (P := P) (w := w) (g := g) (a := a) (isS := false) (Nat.le_refl s.length) hl hh (m := none) (mx := none) rfl (fun y hy => hop y (by simpa using hy)) (by simp) h1 h2
  have hrow := (hT t _ hr).1
  simp only at hrow
  refine Did.val h (val := .string (ba.extract (bnd l 0) (bnd k s.length))) ?_ (.pure (.str (by rw [ba_extract, e2])))
  simp only [Option.map_none] at hb
  simp only [execOp, Instr.sliceAt, Sem.run_bind, run_underlying hrow, Result.andThen_ok, Instr.slice, e1, Option.map_none, Option.isSome_none, hlen, hb, Sem.run_pure, Bool.false_eq_true, if_false]

theorem slice_own (hT : TOk P T) (h : HSim b σ D g w) {t e : TypeId} {n0 b0 : Nat} {z0 : List V} (hr : nthT T t = some ⟨.slice e, n0, b0, z0⟩) {r : TRow} (he : nthT T e = some r) {x : Operand} {lo hi mx : Option Operand} {l k m : Option Int}
    (hl : optInt σ lo = some l) (hh : optInt σ hi = some k) (hm : optInt σ mx = some m) {id off len : Nat} {full full' : Bool} {f : Nat}
    (hx : Rep w g (.own id off r.size len full) (a.eval x)) (hop : ∀ y, (lo = some y ∨ hi = some y ∨ mx = some y) → Rep w g (opV σ y) (a.eval y)) (hmh : ∀ m', m = some m' → k = some m')
    (h1 : ∀ n, l = some n → 0 ≤ n ∧ n.toNat ≤ bnd k len) (h2 : ∀ n, k = some n → 0 ≤ n ∧ n.toNat ≤ len) (hfull : full' = true → full = true ∧ l = none ∧ k = none ∧ m = none)
    {dst ty pos after guard} :
    Did P b σ [] f D g a w ⟨dst, .slice t x lo hi mx, ty, pos, after, guard⟩ (.own id (off + bnd l 0 * r.size) r.size (bnd k len - bnd l 0) full') := by
  obtain ⟨c, cap, ad, q1, q2, q3, q4, q5, q6⟩ := hx.own_inv
  have hb := run_sliceBounds (P := P) (isS := true) q5 hl hh hm hop hmh h1 h2
  have hrow := (hT t _ hr).1
  simp only at hrow
  have hlk : bnd l 0 ≤ bnd k len := by
    cases l with
    | none => exact Nat.zero_le _
    | some n => exact (h1 n rfl).2
  have hkl : bnd k len ≤ len := by
    cases k with
    | none => exact Nat.le_refl _
    | some n => exact (h2 n rfl).2
  have hkm : bnd k len ≤ bnd m cap := by
    cases m with
    | none => exact Nat.le_trans hkl q5
    | some n => have := hmh n rfl; subst this; exact Nat.le_refl _
  refine Did.val h (val := .slice (if bnd m cap = bnd l 0 then ad else ad.map (·.add (bnd l 0 * r.size))) (bnd k len - bnd l 0) (bnd m cap - bnd l 0)) ?_ (.own q1 (fun hp => ?_) ?_ (by omega) (fun hf => ?_))
  · simp only [execOp, Instr.sliceAt, Sem.run_bind, run_underlying hrow, Result.andThen_ok, Instr.slice, q2, hb, trow_size hT he, Sem.run_pure]
  · rw [if_neg (by omega), q3 (by omega)]
    simp [addr_add0]
  · split
    · exact q4
    · simpa using q4
  · obtain ⟨f1, rfl, rfl, rfl⟩ := hfull hf
    obtain ⟨g1, g2, g3⟩ := q6 f1
    subst g1 g2
    refine ⟨by simp [bnd], ?_, by simpa [bnd] using g3⟩
    by_cases hc0 : bnd none cap = bnd none 0
    · rw [if_pos hc0]
    · rw [if_neg hc0]; simp [Addr.add, bnd]

theorem slice_arr (hT : TOk P T) (h : HSim b σ D g w) {t e n : Nat} {n0 b0 : Nat} {z0 : List V} (hr : nthT T t = some ⟨.arr n e, n0, b0, z0⟩) {r : TRow} (he : nthT T e = some r) {x : Operand} {lo hi : Option Operand} {l k : Option Int}
    (hl : optInt σ lo = some l) (hh : optInt σ hi = some k) {id off : Nat} {f : Nat}
    (hx : Rep w g (.ptr id off) (a.eval x)) (hop : ∀ y, (lo = some y ∨ hi = some y) → Rep w g (opV σ y) (a.eval y))
    (h1 : ∀ m, l = some m → 0 ≤ m ∧ m.toNat ≤ bnd k n) (h2 : ∀ m, k = some m → 0 ≤ m ∧ m.toNat ≤ n) {dst ty pos after guard} :
    Did P b σ [] f D g a w ⟨dst, .slice t x lo hi none, ty, pos, after, guard⟩ (.own id (off + bnd l 0 * r.size) r.size (bnd k n - bnd l 0) false) := by
  obtain ⟨c, q1, q2⟩ := hx.ptr_inv
  have hb := run_sliceBounds (P := P) (w := w) (g := g) (a := a) (isS := false) (Nat.le_refl n) hl hh (m := none) (mx := none) rfl (fun y hy => hop y (by simpa using hy)) (by simp) h1 h2
  have hrow := (hT t _ hr).1
  simp only at hrow
  have hlk : bnd l 0 ≤ bnd k n := by
    cases l with
    | none => exact Nat.zero_le _
    | some m => exact (h1 m rfl).2
  have hkl : bnd k n ≤ n := by
    cases k with
    | none => exact Nat.le_refl _
    | some m => exact (h2 m rfl).2
  simp only [Option.map_none] at hb
  refine Did.val h (val := .slice (some (if n = bnd l 0 then ⟨c, off, none⟩ else (⟨c, off, none⟩ : Addr).add (bnd l 0 * r.size))) (bnd k n - bnd l 0) (n - bnd l 0)) ?_ (.own q1 (fun hp => ?_) rfl (by omega) (fun hf => by cases hf))
  · have hbn : bnd none n = n := rfl
    simp only [execOp, Instr.sliceAt, Sem.run_bind, run_underlying hrow, Result.andThen_ok, Instr.sureAddr, q2, Option.map_none, hb, hbn, trow_size hT he, Sem.run_pure]
  · rw [if_neg (by omega), addr_add0]

theorem slice_did (hT : TOk P T) (h : HSim b σ D g w) {f : Nat} {t : TypeId} {x : Operand} {lo hi mx : Option Operand} {us : List (Loc × C)} {v : V} {dst ty pos after guard}
    (hg : (stepSlice σ T t (opV σ x) (optInt σ lo) (optInt σ hi) (optInt σ mx)).Gives v us) (hx : Rep w g (opV σ x) (a.eval x)) (hop : ∀ y, (lo = some y ∨ hi = some y ∨ mx = some y) → Rep w g (opV σ y) (a.eval y)) :
    Did P b σ us f D g a w ⟨dst, .slice t x lo hi mx, ty, pos, after, guard⟩ v := by
  have hno : ∀ {m : Option Int}, m = none → optInt σ mx = some m → mx = none := fun e1 e2 => by
    subst e1
    cases mx with
    | none => rfl
    | some y => simp only [optInt] at e2; split at e2 <;> cases e2
  generalize hX : opV σ x = X at hg hx
  cases hl : optInt σ lo with
  | none => rw [hl] at hg; unfold stepSlice at hg; cases X <;> exact hg.elim
  | some l =>
  cases hk : optInt σ hi with
  | none => rw [hl, hk] at hg; unfold stepSlice at hg; cases X <;> exact hg.elim
  | some k =>
  cases hm : optInt σ mx with
  | none => rw [hl, hk, hm] at hg; unfold stepSlice at hg; cases X <;> (try exact hg.elim) <;> (cases k <;> exact hg.elim)
  | some m =>
  rw [hl, hk, hm] at hg
  cases X with
  | str s =>
    cases m with
    | some m => exact hg.elim
    | none =>
      have e := hno rfl hm
      subst e
      simp only [stepSlice, trow] at hg
      cases hr : nthT T t with
      | none => simp only [hr] at hg; exact hg.elim
      | some r =>
        obtain ⟨ti, n0, b0, z0⟩ := r
        simp only [hr] at hg
        cases ti with
        | str =>
          simp only at hg
          have hop' : ∀ y, (lo = some y ∨ hi = some y) → Rep w g (opV σ y) (a.eval y) := fun y hy => hop y (by rcases hy with hy | hy; exact .inl hy; exact .inr (.inl hy))
          cases l with
          | none => cases k with
            | none =>
              obtain ⟨e1, e2⟩ := hg
              subst e1 e2
              have := slice_str (f := f) hT h hr hl hk hx hop' (by simp) (by simp) (dst := dst) (ty := ty) (pos := pos) (after := after) (guard := guard)
              simpa [bnd] using this
            | some k =>
              obtain ⟨⟨h1, h2⟩, e1, e2⟩ := hg
              subst e1 e2
              have := slice_str (f := f) hT h hr hl hk hx hop' (by simp) (fun n hn => by cases hn; exact ⟨h1, h2⟩) (dst := dst) (ty := ty) (pos := pos) (after := after) (guard := guard)
              simpa [bnd] using this
          | some l => cases k with
            | none =>
              obtain ⟨⟨h1, h2⟩, e1, e2⟩ := hg
              subst e1 e2
              have := slice_str (f := f) hT h hr hl hk hx hop' (fun n hn => by cases hn; exact ⟨h1, h2⟩) (by simp) (dst := dst) (ty := ty) (pos := pos) (after := after) (guard := guard)
              simpa [bnd] using this
            | some k =>
              obtain ⟨⟨h1, h2, h3⟩, e1, e2⟩ := hg
              subst e1 e2
              exact slice_str (f := f) hT h hr hl hk hx hop' (fun n hn => by cases hn; simp only [bnd]; omega) (fun n hn => by cases hn; omega) (dst := dst) (ty := ty) (pos := pos) (after := after) (guard := guard)
        | _ => exact hg.elim
  | lst isNil sz els tk =>
    simp only [stepSlice, trow] at hg
    cases hr : nthT T t with
    | none => simp only [hr] at hg; exact hg.elim
    | some r =>
      obtain ⟨ti, n0, b0, z0⟩ := r
      simp only [hr] at hg
      cases ti with
      | slice e =>
        simp only at hg
        cases he : nthT T e with
        | none => simp only [he] at hg; exact hg.elim
        | some r =>
          simp only [he] at hg
          have key : ∀ (els : List (List V)) (tk : Tok), Rep w g (.lst isNil r.size els tk) (a.eval x) → (sliceLst isNil r.size tk l k m els).Gives v us → Did P b σ us f D g a w ⟨dst, .slice t x lo hi mx, ty, pos, after, guard⟩ v := by
            intro els tk hx hg
            have hs := @slice_lst P T b σ D g a w hT h t e n0 b0 z0 hr r he x lo hi mx l k m hl hk hm isNil els tk
            cases l with
            | none => cases k with
              | none => cases m with
                | none =>
                  obtain ⟨e1, e2⟩ := hg
                  subst e1 e2
                  have := hs (tk' := tk) (f := f) hx hop (by simp) (by simp) (by simp) (fun ad c hc ht => by simp only [bnd]; exact ht.same) (dst := dst) (ty := ty) (pos := pos) (after := after) (guard := guard)
                  simpa [bnd] using this
                | some m => exact hg.elim
              | some k => cases m with
                | none =>
                  obtain ⟨⟨h1, h2⟩, e1, e2⟩ := hg
                  subst e1 e2
                  have := hs (tk' := tokHead tk) (f := f) hx hop (by simp) (by simp) (fun n hn => by cases hn; exact ⟨h1, h2⟩) (fun ad c hc ht => by
                    simp only [bnd]
                    cases tk with
                    | none => trivial
                    | tight => trivial
                    | brow id => trivial
                    | row id =>
                      obtain ⟨bk, N, t1, t2, t3⟩ := ht
                      have : TokOk w g (.row id) (k.toNat - 0) r.size (if c = 0 then ad else ad.map (·.add (0 * r.size))) (c - 0) := by
                        refine TokOk.same ⟨bk, N, t1, by omega, fun e => ?_⟩
                        have : k.toNat = els.length := by omega
                        rw [this]
                        exact t3 (by omega)
                      exact this) (dst := dst) (ty := ty) (pos := pos) (after := after) (guard := guard)
                  simpa [bnd] using this
                | some m =>
                  obtain ⟨⟨h1, h2, h3⟩, e1, e2⟩ := hg
                  subst e1 e2 h3
                  have := hs (tk' := .tight) (f := f) hx hop (by simp) (by simp) (fun n hn => by cases hn; exact ⟨h1, h2⟩) (fun ad c hc ht => rfl) (dst := dst) (ty := ty) (pos := pos) (after := after) (guard := guard)
                  simpa [bnd] using this
            | some l => cases k with
              | none => cases m with
                | none =>
                  obtain ⟨⟨h1, h2⟩, e1, e2⟩ := hg
                  subst e1 e2
                  have := hs (tk' := tokTail tk) (f := f) hx hop (by simp) (fun n hn => by cases hn; exact ⟨h1, h2⟩) (by simp) (fun ad c hc ht => by
                    cases tk with
                    | none => trivial
                    | row id => trivial
                    | brow id => trivial
                    | tight =>
                      have e : c = els.length := ht
                      show bnd none c - bnd (some l) 0 = bnd none els.length - bnd (some l) 0
                      rw [e]) (dst := dst) (ty := ty) (pos := pos) (after := after) (guard := guard)
                  simpa [bnd] using this
                | some m => exact hg.elim
              | some k => cases m with
                | none =>
                  obtain ⟨⟨h1, h2, h3⟩, e1, e2⟩ := hg
                  subst e1 e2
                  exact hs (tk' := .none) (f := f) hx hop (by simp) (fun n hn => by cases hn; simp only [bnd]; omega) (fun n hn => by cases hn; omega) (fun ad c hc ht => trivial)
                | some m =>
                  obtain ⟨⟨h1, h2, h3, h4⟩, e1, e2⟩ := hg
                  subst e1 e2 h4
                  exact hs (tk' := .tight) (f := f) hx hop (by simp) (fun n hn => by cases hn; simp only [bnd]; omega) (fun n hn => by cases hn; omega) (fun ad c hc ht => rfl)
          cases hb : Nat.beq sz r.size with
          | true =>
            simp only [hb] at hg
            have e : sz = r.size := Nat.eq_of_beq_eq_true hb
            subst e
            exact key els tk hx hg
          | false =>
            simp only [hb] at hg
            obtain ⟨e, hg⟩ := hg
            subst e
            obtain ⟨ad, c, e1, e2, e3⟩ := hx.lst_inv
            refine key [] (tokTail tk) ?_ hg
            rw [e1]
            refine .lst (els_nil e2) ?_
            cases tk with
            | none => trivial
            | tight => exact e3
            | row id => trivial
            | brow id => trivial
      | _ => exact hg.elim
  | own id off sz len full =>
    cases hr : nthT T t with
    | none => simp only [stepSlice, trow, hr] at hg; cases m <;> (try exact hg.elim) <;> (cases k <;> exact hg.elim)
    | some r =>
      obtain ⟨ti, n0, b0, z0⟩ := r
      cases ti with
      | slice e =>
        cases he : nthT T e with
        | none => simp only [stepSlice, trow, hr, he] at hg; cases m <;> (try exact hg.elim) <;> (cases k <;> exact hg.elim)
        | some r =>
          cases hb : Nat.beq sz r.size with
          | false => cases m <;> cases k <;> simp only [stepSlice, trow, hr, he, hb] at hg <;> exact hg.elim
          | true =>
            have e0 : sz = r.size := Nat.eq_of_beq_eq_true hb
            subst e0
            have hs := fun full' => @slice_own P T b σ D g a w hT h t e n0 b0 z0 hr r he x lo hi mx l k m hl hk hm id off len full full' f hx hop
            cases m with
            | none =>
              simp only [stepSlice, trow, hr, he, hb] at hg
              cases l with
              | none => cases k with
                | none =>
                  obtain ⟨e1, e2⟩ := hg
                  subst e1 e2
                  have := hs full (by simp) (by simp) (by simp) (fun hf => ⟨hf, rfl, rfl, rfl⟩) (dst := dst) (ty := ty) (pos := pos) (after := after) (guard := guard)
                  simpa [bnd] using this
                | some k =>
                  obtain ⟨⟨h1, h2⟩, e1, e2⟩ := hg
                  subst e1 e2
                  have := hs false (by simp) (by simp) (fun n hn => by cases hn; exact ⟨h1, h2⟩) (by simp) (dst := dst) (ty := ty) (pos := pos) (after := after) (guard := guard)
                  simpa [bnd] using this
              | some l => cases k with
                | none =>
                  obtain ⟨⟨h1, h2⟩, e1, e2⟩ := hg
                  subst e1 e2
                  exact hs false (by simp) (fun n hn => by cases hn; exact ⟨h1, h2⟩) (by simp) (by simp)
                | some k =>
                  obtain ⟨⟨h1, h2, h3⟩, e1, e2⟩ := hg
                  subst e1 e2
                  exact hs false (by simp) (fun n hn => by cases hn; simp only [bnd]; omega) (fun n hn => by cases hn; omega) (by simp)
            | some m =>
              cases k with
              | none => exact hg.elim
              | some k =>
                simp only [stepSlice, trow, hr, he, hb] at hg
                cases l with
                | none =>
                  obtain ⟨⟨h1, h2, h3⟩, e1, e2⟩ := hg
                  subst e1 e2 h3
                  have := hs false (by simp) (by simp) (fun n hn => by cases hn; exact ⟨h1, h2⟩) (by simp) (dst := dst) (ty := ty) (pos := pos) (after := after) (guard := guard)
                  simpa [bnd] using this
                | some l =>
                  obtain ⟨⟨h1, h2, h3, h4⟩, e1, e2⟩ := hg
                  subst e1 e2 h4
                  exact hs false (by simp) (fun n hn => by cases hn; simp only [bnd]; omega) (fun n hn => by cases hn; omega) (by simp)
      | _ => simp only [stepSlice, trow, hr] at hg; cases m <;> (try exact hg.elim) <;> (cases k <;> exact hg.elim)
  | ptr id off =>
    cases m with
    | some m => exact hg.elim
    | none =>
      have e := hno rfl hm
      subst e
      simp only [stepSlice, trow] at hg
      cases hr : nthT T t with
      | none => simp only [hr] at hg; exact hg.elim
      | some r =>
        obtain ⟨ti, n0, b0, z0⟩ := r
        simp only [hr] at hg
        cases ti with
        | arr n e =>
          simp only at hg
          cases he : nthT T e with
          | none => simp only [he] at hg; exact hg.elim
          | some r =>
            simp only [he] at hg
            have hop' : ∀ y, (lo = some y ∨ hi = some y) → Rep w g (opV σ y) (a.eval y) := fun y hy => hop y (by rcases hy with hy | hy; exact .inl hy; exact .inr (.inl hy))
            have hs := @slice_arr P T b σ D g a w hT h t e n n0 b0 z0 hr r he x lo hi l k hl hk id off f hx hop'
            cases l with
            | none => cases k with
              | none =>
                obtain ⟨e1, e2⟩ := hg
                subst e1 e2
                have := hs (by simp) (by simp) (dst := dst) (ty := ty) (pos := pos) (after := after) (guard := guard)
                simpa [bnd] using this
              | some k =>
                obtain ⟨⟨h1, h2⟩, e1, e2⟩ := hg
                subst e1 e2
                have := hs (by simp) (fun n hn => by cases hn; exact ⟨h1, h2⟩) (dst := dst) (ty := ty) (pos := pos) (after := after) (guard := guard)
                simpa [bnd] using this
            | some l => cases k with
              | none =>
                obtain ⟨⟨h1, h2⟩, e1, e2⟩ := hg
                subst e1 e2
                exact hs (fun n hn => by cases hn; exact ⟨h1, h2⟩) (by simp)
              | some k =>
                obtain ⟨⟨h1, h2, h3⟩, e1, e2⟩ := hg
                subst e1 e2
                exact hs (fun n hn => by cases hn; simp only [bnd]; omega) (fun n hn => by cases hn; omega)
        | _ => exact hg.elim
  | _ => exact hg.elim
end Go.Am

namespace Go.Am
open Go.RowKit

variable {P : Program} {T : Tab} {b : Base P} {σ : St} {D : Nat → Prop} {g : G} {a : Act} {w : World}

theorem kind_ne {j k : IntKind} (h : kindEq j k = true) : ¬ (j ≠ k) := fun hn => hn (kindEq_iff h)

theorem str_eq {x y : ByteArray} {a b : List UInt8} (hx : x.data.toList = a) (hy : y.data.toList = b) : (x.toList == y.toList) = decide (a = b) := by
  rw [Lib.toList_data, Lib.toList_data, hx, hy]
  by_cases h : a = b
  · simp [h]
  · simp [h]

theorem stepInt_run {op : BinOp} {k : IntKind} {x y : Int} {v : V} {us : List (Loc × C)} {t : TypeId} (hs : isShift op = false) (hg : (stepInt op k x y).Gives v us) : us = [] ∧ ∃ val, (binOp op t (.int k x) (.int k y)).run P w = .ok val w ∧ Rep w g v val := by
  cases op <;> simp only [stepInt] at hg <;> (try (cases hs; done)) <;> (try exact hg.elim)
  case quo =>
    cases hy : y == 0 with
    | true => simp only [hy] at hg; exact hg.elim
    | false =>
      simp only [hy] at hg
      obtain ⟨e1, e2⟩ := hg
      subst e1
      have hne : y ≠ 0 := by simpa using hy
      exact ⟨e2, _, by simp [binOp, Op.intDiv, hne], .pure (.int _ _)⟩
  case rem =>
    cases hy : y == 0 with
    | true => simp only [hy] at hg; exact hg.elim
    | false =>
      simp only [hy] at hg
      obtain ⟨e1, e2⟩ := hg
      subst e1
      have hne : y ≠ 0 := by simpa using hy
      exact ⟨e2, _, by simp [binOp, Op.intDiv, hne], .pure (.int _ _)⟩
  all_goals
    obtain ⟨e1, e2⟩ := hg
    subst e1
    refine ⟨e2, ?_⟩
    first
      | exact ⟨_, by simp only [binOp, ne_eq, not_true_eq_false, if_false, Op.intArith]; rfl, .pure (.int _ _)⟩
      | exact ⟨_, by simp only [binOp, ne_eq, not_true_eq_false, if_false]; rfl, .pure (.int _ _)⟩
      | exact ⟨_, by simp only [binOp, ne_eq, not_true_eq_false, if_false, Op.intCmp]; rfl, .pure (.bool _)⟩

theorem stepShift_run {op : BinOp} {k j : IntKind} {x y : Int} {v : V} {us : List (Loc × C)} {t : TypeId} (hs : isShift op = true) (hg : (stepInt op k x y).Gives v us) : us = [] ∧ ∃ val, (binOp op t (.int k x) (.int j y)).run P w = .ok val w ∧ Rep w g v val := by
  cases op <;> simp only [stepInt] at hg <;> (try (cases hs; done))
  all_goals
    obtain ⟨h0, e1, e2⟩ := hg
    subst e1
    refine ⟨e2, _, ?_, .pure (.int _ _)⟩
    have hn : ¬ y < 0 := by omega
    simp only [binOp, Op.shift, if_neg hn]
    rfl

theorem stepStr_run {op : BinOp} {x y : ByteArray} {p q : List UInt8} (hx : x.data.toList = p) (hy : y.data.toList = q) {v : V} {us : List (Loc × C)} {t : TypeId} (hg : (stepBin op (.str p) (.str q)).Gives v us) :
    us = [] ∧ ∃ val, (binOp op t (.string x) (.string y)).run P w = .ok val w ∧ Rep w g v val := by
  have heq := str_eq hx hy
  have hlx : x.size = p.length := by rw [← hx]; rfl
  have hly : y.size = q.length := by rw [← hy]; rfl
  have hbl : Op.bytesLess x.toList y.toList = Op.bytesLess p q := by rw [Lib.toList_data, Lib.toList_data, hx, hy]
  cases op <;> simp only [stepBin] at hg <;> (try exact hg.elim)
  case add =>
    obtain ⟨h0, e1, e2⟩ := hg
    subst e1
    refine ⟨e2, .string (x ++ y), ?_, .pure (.str ?_)⟩
    · have hn : ¬ (((x.size + y.size : Nat) : Int) > IntKind.i64.max) := by
        rw [hlx, hly]
        have : IntKind.i64.max = 9223372036854775807 := rfl
        rw [this]; omega
      simp only [binOp, Op.stringOp, if_neg hn]
      rfl
    · rw [← hx, ← hy]; simp
  all_goals
    obtain ⟨e1, e2⟩ := hg
    subst e1
    refine ⟨e2, _, ?_, .pure (.bool _)⟩
    simp only [binOp, Op.stringOp, heq, hbl]
    rfl

theorem run_eqGuard_int {op : BinOp} {t : TypeId} {x y : Operand} {k j : IntKind} {p q : Int} : (eqGuard op t x y (.int k p) (.int j q)).run P w = .ok () w := by
  unfold eqGuard
  cases op <;> simp
theorem run_eqGuard_str {op : BinOp} {t : TypeId} {x y : Operand} {p q : ByteArray} : (eqGuard op t x y (.string p) (.string q)).run P w = .ok () w := by
  unfold eqGuard
  cases op <;> simp

theorem pureop_did (h : HSim b σ D g w) {f : Nat} {o : Oper} {v : V} {us : List (Loc × C)} (hop : ∀ x ∈ o.op.operands, Rep w g (opV σ x) (a.eval x)) (hg : (Req.pick V fun v => .need (PureOp P σ o v) (.ok v [])).Gives v us) : Did P b σ us f D g a w o v := by
  obtain ⟨v', h1, e1, e2⟩ := hg
  subst e1 e2
  obtain ⟨val, h2, h3⟩ := h1 g a w hop
  exact Did.val h h2 h3

theorem eqAny {t : TypeId} {u v : Value} {r : Bool} (h : ∀ d : Nat, (Op.equalIn (d + 1) t u v).run P w = .ok r w) : (Op.equal t u v).run P w = .ok r w := by
  unfold Op.equal Op.maxDepth
  exact h 9999
def plainCmp : Value → Value → Bool
  | .nilIface, .nilIface => false
  | .agg _, _ => false
  | .int _ _, _ => false
  | .float _ _, _ => false
  | .complex _ _ _, _ => false
  | .string _, _ => false
  | _, _ => true
theorem nilCmp_run (hT : TOk P T) {t : TypeId} {x y : V} {u v : Value} {r : Bool} (hx : Rep w g x u) (hy : Rep w g y v) (h : nilCmp T t x y = some r) : (Op.equal t u v).run P w = .ok r w ∧
    (∀ (op : BinOp) (xo yo : Operand), (eqGuard op t xo yo u v).run P w = .ok () w) ∧ (binOp .eql t u v).run P w = .ok (.bool r) w ∧ (binOp .neq t u v).run P w = .ok (.bool (!r)) w := by
  have fin : ∀ {u v : Value} {r : Bool}, (Op.equal t u v).run P w = .ok r w → plainCmp u v = true → (Op.equal t u v).run P w = .ok r w ∧
      (∀ (op : BinOp) (xo yo : Operand), (eqGuard op t xo yo u v).run P w = .ok () w) ∧ (binOp .eql t u v).run P w = .ok (.bool r) w ∧ (binOp .neq t u v).run P w = .ok (.bool (!r)) w := by
    intro u v r h1 h2
    refine ⟨h1, fun op xo yo => ?_, ?_, ?_⟩
    · unfold eqGuard
      cases u <;> (try (cases h2; done)) <;> cases v <;> (try (cases h2; done)) <;> cases op <;> simp
    · cases u <;> (try (cases h2; done)) <;> simp [binOp, h1]
    · cases u <;> (try (cases h2; done)) <;> simp [binOp, h1]
  unfold nilCmp at h
  cases hr : trow T t with
  | none => simp [hr] at h
  | some row =>
    have hrow := (hT t _ hr).1
    obtain ⟨ti, n0, b0, z0⟩ := row
    simp only [hr] at h
    cases ti with
    | slice e =>
      simp only at h hrow
      have cell : ∀ {n : Bool} {sz : Nat} {els : List (List V)} {tk : Tok} {z : Value}, Rep w g (.lst n sz els tk) z → ∃ ad c, z = .slice ad els.length c ∧ n = ad.isNone := by
        intro n sz els tk z hz
        obtain ⟨ad, c, rfl, hp, _⟩ := hz.lst_inv
        cases hp with | lst vals hnil _ _ _ _ _ => exact ⟨_, _, rfl, hnil⟩
      cases x with
      | lst n1 s1 e1 t1 =>
        obtain ⟨a1, c1, rfl, q1⟩ := cell hx
        cases y with
        | lst n2 s2 e2 t2 =>
          obtain ⟨a2, c2, rfl, q2⟩ := cell hy
          cases a1 with
          | none =>
            simp only [Option.isNone_none] at q1
            subst q1
            have e : r = a2.isNone := by cases n2 <;> simp at h <;> exact h.trans q2
            subst e
            exact fin (eqAny fun d => by rw [Op.equalIn]; simp [run_underlying hrow]) rfl
          | some a1 =>
            simp only [Option.isNone_some] at q1
            subst q1
            cases n2 with
            | false => simp at h
            | true =>
              simp at h
              subst h
              have e : a2 = none := Option.isNone_iff_eq_none.1 q2.symm
              subst e
              exact fin (eqAny fun d => by rw [Op.equalIn]; simp [run_underlying hrow]) rfl
        | _ => cases n1 <;> simp at h
      | own k off sz len full =>
        cases y with
        | lst n2 s2 e2 t2 =>
          obtain ⟨a2, c2, rfl, q2⟩ := cell hy
          obtain ⟨c, cap, ad, _, rfl, _, q4, _⟩ := hx.own_inv
          cases n2 with
          | false => simp at h
          | true =>
            simp at h
            subst h
            obtain ⟨ad, rfl⟩ := Option.isSome_iff_exists.1 q4
            have : a2 = none := Option.isNone_iff_eq_none.1 q2.symm
            subst this
            exact fin (eqAny fun d => by rw [Op.equalIn]; simp [run_underlying hrow]) rfl
        | _ => simp at h
      | _ => cases y <;> simp at h
    | iface =>
      simp only at h hrow
      obtain ⟨ms, hrow⟩ := hrow
      cases x with
      | iface tx vx =>
        cases y with
        | nili =>
          simp at h; subst h
          obtain ⟨z, rfl, _⟩ := hx.iface_inv
          obtain rfl := hy.nili_inv
          exact fin (eqAny fun d => by rw [Op.equalIn]; simp [run_underlying hrow]) rfl
        | _ => simp at h
      | nili =>
        cases y with
        | iface tx vx =>
          simp at h; subst h
          obtain ⟨z, rfl, _⟩ := hy.iface_inv
          obtain rfl := hx.nili_inv
          exact fin (eqAny fun d => by rw [Op.equalIn]; simp [run_underlying hrow]) rfl
        | _ => simp at h
      | _ => simp at h
    | bool =>
      simp only at h hrow
      cases h1 : boolOf x with
      | none => simp [h1] at h
      | some p =>
        cases h2 : boolOf y with
        | none => simp [h1, h2] at h
        | some q =>
          simp only [h1, h2, Option.some.injEq] at h
          subst h
          obtain rfl := boolOf_inv hx h1
          obtain rfl := boolOf_inv hy h2
          exact fin (eqAny fun d => run_equalIn_bool' w d t p q hrow) rfl
    | ptr e =>
      simp only at h hrow
      cases y with
      | nilp =>
        obtain rfl := hy.nilp_inv
        cases x with
        | nilp => simp at h; subst h; obtain rfl := hx.nilp_inv; exact fin (eqAny fun d => by rw [Op.equalIn]; simp [run_underlying hrow]) rfl
        | ptr k off => simp at h; subst h; obtain ⟨c, _, rfl⟩ := hx.ptr_inv; exact fin (eqAny fun d => by rw [Op.equalIn]; simp [run_underlying hrow]) rfl
        | lptr cs off => simp at h; subst h; obtain ⟨c, d, _, rfl, _⟩ := hx.lptr_inv; exact fin (eqAny fun d => by rw [Op.equalIn]; simp [run_underlying hrow]) rfl
        | _ => simp at h
      | _ => cases x <;> simp at h
    | func =>
      simp only at h hrow
      obtain ⟨q1, q2, q3, hrow⟩ := hrow
      cases y with
      | nilf =>
        obtain rfl := hy.nilf_inv
        cases x with
        | nilf => simp at h; subst h; obtain rfl := hx.nilf_inv; exact fin (eqAny fun d => by rw [Op.equalIn]; simp [run_underlying hrow]) rfl
        | func f fs cs => simp at h; subst h; obtain ⟨vs, us, rfl, _⟩ := hx.func_inv; exact fin (eqAny fun d => by rw [Op.equalIn]; simp [run_underlying hrow]) rfl
        | _ => simp at h
      | _ => cases x <;> simp at h
    | _ => simp at h

theorem binOp_did (hT : TOk P T) (h : HSim b σ D g w) {f : Nat} {op : BinOp} {t ty' : TypeId} {x y : Operand} {us : List (Loc × C)} {v : V} {dst ty pos after guard}
    (hg : (stepOp P T σ f ⟨dst, .binOp op t x y ty', ty, pos, after, guard⟩).Gives v us) (hop : ∀ z ∈ (Op.binOp op t x y ty').operands, Rep w g (opV σ z) (a.eval z)) : Did P b σ us f D g a w ⟨dst, .binOp op t x y ty', ty, pos, after, guard⟩ v := by
  have hx := hop x (by simp [Op.operands])
  have hy := hop y (by simp [Op.operands])
  simp only [stepOp] at hg
  have fin : ∀ {xv yv : Value}, a.eval x = xv → a.eval y = yv → (eqGuard op t x y xv yv).run P w = .ok () w → (us = [] ∧ ∃ val, (binOp op t xv yv).run P w = .ok val w ∧ Rep w g v val) → Did P b σ us f D g a w ⟨dst, .binOp op t x y ty', ty, pos, after, guard⟩ v := by
    intro xv yv e1 e2 h1 h2
    obtain ⟨e3, val, h3, h4⟩ := h2
    subst e3
    refine Did.val h ?_ h4
    simp only [execOp, e1, e2, Sem.run_bind, h1, Result.andThen_ok, h3, Sem.run_pure]
  have nils : (match op, bothNil T t (orB (isConst x) (isConst y)) (opV σ x) (opV σ y) with
      | .eql, some b => Req.ok (.bool b) []
      | .neq, some b => Req.ok (.bool (!b)) []
      | _, _ => Req.pick V fun v => .need (PureOp P σ ⟨dst, .binOp op t x y ty', ty, pos, after, guard⟩ v) (.ok v [])).Gives v us → Did P b σ us f D g a w ⟨dst, .binOp op t x y ty', ty, pos, after, guard⟩ v := by
    intro hg
    cases hb : bothNil T t (orB (isConst x) (isConst y)) (opV σ x) (opV σ y) with
    | none =>
      simp only [hb] at hg
      cases op <;> exact pureop_did h hop hg
    | some r =>
      simp only [hb] at hg
      have two : (∀ xv yv, a.eval x = xv → a.eval y = yv → (eqGuard op t x y xv yv).run P w = .ok () w ∧ (binOp .eql t xv yv).run P w = .ok (.bool r) w ∧ (binOp .neq t xv yv).run P w = .ok (.bool (!r)) w) → Did P b σ us f D g a w ⟨dst, .binOp op t x y ty', ty, pos, after, guard⟩ v := by
        intro hh
        obtain ⟨h1, h2, h3⟩ := hh _ _ rfl rfl
        cases op <;> first
          | exact pureop_did h hop hg
          | (obtain ⟨e1, e2⟩ := hg; subst e1 e2; exact fin rfl rfl h1 ⟨rfl, _, h2, .pure (.bool _)⟩)
          | (obtain ⟨e1, e2⟩ := hg; subst e1 e2; exact fin rfl rfl h1 ⟨rfl, _, h3, .pure (.bool _)⟩)
      unfold bothNil at hb
      split at hb
      · rename_i hc hX hY
        rw [hX] at hx
        rw [hY] at hy
        cases hr : trow T t with
        | none => simp [hr] at hb
        | some row =>
          have hrow := (hT t _ hr).1
          obtain ⟨ti, n0, b0, z0⟩ := row
          simp only [hr] at hb hrow
          cases ti <;> simp only [Option.some.injEq, reduceCtorEq] at hb
          subst hb
          obtain ⟨ms, hrow⟩ := hrow
          refine two fun xv yv e1 e2 => ?_
          rw [hx.nili_inv] at e1
          rw [hy.nili_inv] at e2
          subst e1 e2
          have he : (Op.equal t .nilIface .nilIface).run P w = .ok true w := eqAny fun d => by rw [Op.equalIn]; simp [run_underlying hrow]
          refine ⟨?_, by simp [binOp, he], by simp [binOp, he]⟩
          have hcc : (match x with | .const _ => true | _ => false) = true ∨ (match y with | .const _ => true | _ => false) = true := by
            cases x <;> first | exact .inl rfl | (cases y <;> first | exact .inr rfl | (simp [isConst, orB] at hc))
          unfold eqGuard
          rcases hcc with hcc | hcc
          · cases x <;> first | (cases op <;> simp; done) | cases hcc
          · cases y <;> first | (cases op <;> simp; done) | cases hcc
      · refine two fun xv yv e1 e2 => ?_
        subst e1 e2
        obtain ⟨_, q2, q3, q4⟩ := nilCmp_run hT hx hy hb
        exact ⟨q2 _ _ _, q3, q4⟩
  cases hX : opV σ x with
  | int k p =>
    cases hY : opV σ y with
    | int j q =>
      simp only [hX, hY, stepBin] at hg
      rw [hX] at hx
      rw [hY] at hy
      refine fin hx.int_inv hy.int_inv run_eqGuard_int ?_
      cases hs : isShift op with
      | true => simp only [hs] at hg; exact stepShift_run hs hg
      | false =>
        simp only [hs] at hg
        cases hk : kindEq k j with
        | false => simp only [hk] at hg; exact hg.elim
        | true =>
          simp only [hk] at hg
          have e := kindEq_iff hk
          subst e
          exact stepInt_run hs hg
    | _ => exact nils (by simp only [hX, hY] at hg ⊢; exact hg)
  | str p =>
    cases hY : opV σ y with
    | str q =>
      simp only [hX, hY] at hg
      rw [hX] at hx
      rw [hY] at hy
      obtain ⟨bx, ex, hbx⟩ := hx.str_inv
      obtain ⟨by', ey, hby⟩ := hy.str_inv
      exact fin ex ey run_eqGuard_str (stepStr_run hbx hby hg)
    | _ => exact nils (by simp only [hX, hY] at hg ⊢; exact hg)
  | agg cs =>
    cases hY : opV σ y with
    | agg ds =>
      simp only [hX, hY] at hg
      cases hc : cmpL cs ds with
      | none => simp only [hc] at hg; cases op <;> exact pureop_did h hop hg
      | some r =>
        simp only [hc] at hg
        rw [hX] at hx
        rw [hY] at hy
        obtain ⟨xs, ex, lx, rx⟩ := hx.agg_inv
        obtain ⟨ys, ey, ly, ry⟩ := hy.agg_inv
        have both : eqAllB P t (kindsV cs) = true → (eqGuard op t x y (.agg xs.toArray) (.agg ys.toArray)).run P w = .ok () w ∧ (binOp .eql t (.agg xs.toArray) (.agg ys.toArray)).run P w = .ok (.bool r) w ∧
            (binOp .neq t (.agg xs.toArray) (.agg ys.toArray)).run P w = .ok (.bool (!r)) w := fun hk => by
          obtain ⟨h1, h2⟩ := agg_eq lx ly rx ry hc hk
          exact ⟨run_eqGuard_agg w op t x y _ _ h1, by rw [run_eql_struct, h2]; rfl, by rw [run_neq_struct, h2]; rfl⟩
        cases op <;> first
          | exact pureop_did h hop hg
          | (obtain ⟨hk, e1, e2⟩ := hg; subst e1 e2; obtain ⟨h1, h2, h3⟩ := both hk; exact fin ex ey h1 ⟨rfl, _, h2, .pure (.bool _)⟩)
          | (obtain ⟨hk, e1, e2⟩ := hg; subst e1 e2; obtain ⟨h1, h2, h3⟩ := both hk; exact fin ex ey h1 ⟨rfl, _, h3, .pure (.bool _)⟩)
    | _ => exact nils (by simp only [hX, hY] at hg ⊢; exact hg)
  | _ => exact nils (by simp only [hX] at hg ⊢; exact hg)

theorem fieldAddr_did (hT : TOk P T) (h : HSim b σ D g w) {f : Nat} {s : TypeId} {x : Operand} {i : Nat} {us : List (Loc × C)} {v : V} {dst ty pos after guard}
    (hg : (stepOp P T σ f ⟨dst, .fieldAddr s x i, ty, pos, after, guard⟩).Gives v us) (hx : Rep w g (opV σ x) (a.eval x)) : Did P b σ us f D g a w ⟨dst, .fieldAddr s x i, ty, pos, after, guard⟩ v := by
  simp only [stepOp, trow] at hg
  cases hr : nthT T s with
  | none => simp only [hr] at hg; exact hg.elim
  | some r =>
    have hrow := (hT s _ hr).1
    obtain ⟨ti, n0, b0, z0⟩ := r
    simp only [hr] at hg hrow
    cases ti with
    | struct fs =>
      simp only at hg hrow
      obtain ⟨fields, places, hu, hfs, hpl⟩ := hrow
      cases hn : nth fs i with
      | none => simp only [hn] at hg; exact hg.elim
      | some q =>
        obtain ⟨off, ft⟩ := q
        simp only [hn] at hg
        cases hft : nthT T ft with
        | none => simp only [hft] at hg; exact hg.elim
        | some r =>
          simp only [hft] at hg
          cases hz : r.size with
          | zero => simp only [hz] at hg; exact hg.elim
          | succ m =>
            simp only [hz] at hg
            rw [nth_eq, ← hfs, List.getElem?_map] at hn
            cases hfi : fields.toList[i]? with
            | none => simp [hfi] at hn
            | some fd =>
              simp only [hfi, Option.map_some, Option.some.injEq, Prod.mk.injEq] at hn
              obtain ⟨rfl, rfl⟩ := hn
              have hfi' : fields[i]? = some fd := by simpa using hfi
              have hsz := trow_size hT hft w
              have run : ∀ (k o : Nat), (Instr.fieldAt s (.pointer (some ⟨k, o, none⟩)) i).run P w = .ok (.pointer (some ⟨k, o + fd.offset, none⟩)) w := by
                intro k o
                simp only [Instr.fieldAt, Sem.run_bind, run_underlying hu, Result.andThen_ok, hfi', Instr.sureAddr, fieldPlace, hsz, hz, Sem.run_pure]
                rw [if_neg (by omega)]
                simp only [Sem.run_pure, Result.andThen_ok, addr_add0]
              cases hX : opV σ x with
              | ptr id o =>
                simp only [hX] at hg
                obtain ⟨e1, e2⟩ := hg
                subst e1 e2
                rw [hX] at hx
                obtain ⟨c, q1, q2⟩ := hx.ptr_inv
                refine Did.val h (val := .pointer (some ⟨c, o + fd.offset, none⟩)) ?_ (.ptr q1)
                · simp only [execOp, q2, Sem.run_bind, run, Result.andThen_ok, Sem.run_pure]
              | lptr cs o =>
                simp only [hX] at hg
                obtain ⟨e1, e2⟩ := hg
                subst e1 e2
                rw [hX] at hx
                obtain ⟨blk, base, vals, q2, q3, q4⟩ := hx.lptr_inv
                refine Did.val h (val := .pointer (some ⟨blk, base + (o + fd.offset), none⟩)) ?_ (.lptr vals q3 q4)
                simp only [execOp, q2, Sem.run_bind, run, Result.andThen_ok, Sem.run_pure, Nat.add_assoc]
              | _ => simp only [hX] at hg; exact hg.elim
    | _ => exact hg.elim

theorem field_did (hT : TOk P T) (h : HSim b σ D g w) {f : Nat} {s : TypeId} {x : Operand} {i : Nat} {us : List (Loc × C)} {v : V} {dst ty pos after guard}
    (hg : (stepOp P T σ f ⟨dst, .field s x i, ty, pos, after, guard⟩).Gives v us) (hx : Rep w g (opV σ x) (a.eval x)) : Did P b σ us f D g a w ⟨dst, .field s x i, ty, pos, after, guard⟩ v := by
  simp only [stepOp, trow] at hg
  cases hr : nthT T s with
  | none => simp only [hr] at hg; exact hg.elim
  | some r =>
    have hrow := (hT s _ hr).1
    obtain ⟨ti, n0, b0, z0⟩ := r
    simp only [hr] at hg hrow
    cases ti with
    | struct fs =>
      simp only at hg hrow
      obtain ⟨fields, places, hu, hfs, hpl⟩ := hrow
      cases hn : nth fs i with
      | none => simp only [hn] at hg; exact hg.elim
      | some q =>
        obtain ⟨off, ft⟩ := q
        simp only [hn] at hg
        cases hft : tsize T ft with
        | none => simp only [hft] at hg; exact hg.elim
        | some r =>
          obtain ⟨size, agg⟩ := r
          simp only [hft] at hg
          rw [nth_eq, ← hfs, List.getElem?_map] at hn
          cases hfi : fields.toList[i]? with
          | none => simp [hfi] at hn
          | some fd =>
            simp only [hfi, Option.map_some, Option.some.injEq, Prod.mk.injEq] at hn
            obtain ⟨rfl, rfl⟩ := hn
            have hfi' : fields[i]? = some fd := by simpa using hfi
            obtain ⟨ha, hs⟩ := tsize_agg hT hft w
            cases hX : opV σ x with
            | agg cs =>
              simp only [hX] at hg
              cases hp : partV agg size fd.offset cs with
              | none => simp only [hp] at hg; exact hg.elim
              | some y =>
                simp only [hp] at hg
                obtain ⟨e1, e2⟩ := hg
                subst e1 e2
                rw [hX] at hx
                obtain ⟨vs, q1, q2, q3⟩ := hx.agg_inv
                cases agg with
                | false =>
                  simp only [partV, nth_eq] at hp
                  have hlt : fd.offset < vs.length := by have := (List.getElem?_eq_some_iff.1 hp).1; omega
                  refine Did.val h (val := vs[fd.offset]) ?_ (q3 _ _ _ hp (List.getElem?_eq_getElem hlt))
                  simp only [execOp, Instr.field, q1, Sem.run_bind, run_underlying hu, Result.andThen_ok, hfi', part, asAgg, Sem.run_pure, ha, Bool.false_eq_true, if_false]
                  simp [hlt]
                | true =>
                  simp only [partV, dropN_eq] at hp
                  cases ht : takeN (cs.drop fd.offset) size with
                  | none => simp [ht] at hp
                  | some r =>
                    simp only [ht, Option.some.injEq] at hp
                    subst hp
                    obtain ⟨t1, t2⟩ := takeN_eq _ _ _ ht
                    refine Did.val h (val := .agg ((vs.drop fd.offset).take size).toArray) ?_ (.agg (by rw [t1, List.length_take, List.length_take, List.length_drop, List.length_drop, q2]) (fun j z u hz hu => ?_))
                    · simp only [execOp, Instr.field, q1, Sem.run_bind, run_underlying hu, Result.andThen_ok, hfi', part, asAgg, Sem.run_pure, ha, if_true, hs]
                      congr 3
                      apply Array.toList_inj.1
                      simp [List.extract]
                    · rw [t1, List.getElem?_take] at hz
                      rw [List.getElem?_take] at hu
                      split at hz
                      · rename_i hj
                        rw [if_pos hj] at hu
                        rw [List.getElem?_drop] at hz hu
                        exact q3 _ z u hz hu
                      · cases hz
            | _ => simp only [hX] at hg; exact hg.elim
    | _ => exact hg.elim
end Go.Am

namespace Go.Am
open Go.RowKit

variable {P : Program} {T : Tab} {b : Base P} {σ : St} {D : Nat → Prop} {g : G} {a : Act} {w : World}

theorem intV_inv {x : V} {n : Int} (h : intV x = some n) : ∃ k, x = .int k n := by
  cases x with
  | int k m => simp only [intV, Option.some.injEq] at h; subst h; exact ⟨k, rfl⟩
  | _ => simp [intV] at h

theorem indexAddr_did (hT : TOk P T) (h : HSim b σ D g w) {f : Nat} {t : TypeId} {x i : Operand} {us : List (Loc × C)} {v : V} {dst ty pos after guard}
    (hg : (stepOp P T σ f ⟨dst, .indexAddr t x i, ty, pos, after, guard⟩).Gives v us) (hx : Rep w g (opV σ x) (a.eval x)) (hi : Rep w g (opV σ i) (a.eval i)) : Did P b σ us f D g a w ⟨dst, .indexAddr t x i, ty, pos, after, guard⟩ v := by
  simp only [stepOp, trow] at hg
  cases hI : intV (opV σ i) with
  | none => simp only [hI] at hg; exact hg.elim
  | some n =>
    simp only [hI] at hg
    obtain ⟨k, hk⟩ := intV_inv hI
    rw [hk] at hi
    have ei := hi.int_inv
    cases hr : nthT T t with
    | none => simp only [hr] at hg; exact hg.elim
    | some r =>
      have hrow := (hT t _ hr).1
      obtain ⟨ti, n0, b0, z0⟩ := r
      simp only [hr] at hg hrow
      cases ti with
      | slice e =>
        simp only at hg hrow
        cases he : nthT T e with
        | none => simp only [he] at hg; exact hg.elim
        | some r =>
          simp only [he] at hg
          have hsz := trow_size hT he w
          have run : ∀ (ad : Addr) (len cap : Nat), 0 ≤ n → n < len → (Instr.indexAt t (.slice (some ad) len cap) (.int k n)).run P w = .ok (.pointer (some (ad.add (n.toNat * r.size)))) w := by
            intro ad len cap h0 h1
            simp only [Instr.indexAt, asIntOf, Sem.run_bind, Sem.run_pure, Result.andThen_ok, run_underlying hrow]
            rw [if_pos ⟨h0, h1⟩]
            simp only [Sem.run_bind, hsz, Result.andThen_ok, Sem.run_pure]
          cases hX : opV σ x with
          | lst isNil sz els tk =>
            simp only [hX] at hg
            cases hb : Nat.beq sz r.size with
            | false => simp only [hb] at hg; exact hg.elim
            | true =>
              cases hrz : r.size with
              | zero => have hb' := hb; rw [hrz] at hb'; simp only [hrz, hb'] at hg; exact hg.elim
              | succ r' =>
              have hb' := hb
              rw [hrz] at hb'
              simp only [hrz, hb'] at hg
              have e0 : sz = r.size := Nat.eq_of_beq_eq_true hb
              subst e0
              obtain ⟨el, ⟨h0, hel⟩, e1, e2⟩ := hg
              subst e1 e2
              rw [hX] at hx
              obtain ⟨ad, c, q1, q2, _⟩ := hx.lst_inv
              cases q2 with
              | lst vals hnil hc hsz' ha hone hr' =>
                have hlt : n.toNat < els.length := (List.getElem?_eq_some_iff.1 hel).1
                have hell : el.length = r.size := hsz' el (List.mem_of_getElem? hel)
                have had : ∃ blk base, ad = some ⟨blk, base, none⟩ := by
                  cases el with
                  | nil => simp at hell; omega
                  | cons y el => obtain ⟨blk, base, e, _⟩ := ha n.toNat (y :: el) 0 y hel rfl; exact ⟨blk, base, e⟩
                obtain ⟨blk, base, rfl⟩ := had
                refine Did.val h (val := .pointer (some ⟨blk, base + n.toNat * r.size, none⟩)) ?_ (.lptr (base := base + n.toNat * r.size) (vals n.toNat) (fun j x hx => ?_) (fun j x hx => hr' _ el j x hel hx))
                · have := run ⟨blk, base, none⟩ els.length c h0 (by omega)
                  rw [addr_add0] at this
                  simp only [execOp, q1, ei, Sem.run_bind, this, Result.andThen_ok, Sem.run_pure]
                · obtain ⟨blk', base', e, hf, hcell⟩ := ha n.toNat el j x hel hx
                  cases e
                  exact ⟨hf, hcell⟩
          | own id off sz len full =>
            simp only [hX] at hg
            cases hb : Nat.beq sz r.size with
            | false => simp only [hb] at hg; exact hg.elim
            | true =>
              simp only [hb] at hg
              have e0 : sz = r.size := Nat.eq_of_beq_eq_true hb
              subst e0
              obtain ⟨⟨h0, h1⟩, e1, e2⟩ := hg
              subst e1 e2
              rw [hX] at hx
              obtain ⟨c, cap, ad, q1, q2, q3, q4, q5, q6⟩ := hx.own_inv
              have e := q3 (by omega)
              subst e
              refine Did.val h (val := .pointer (some ⟨c, off + n.toNat * r.size, none⟩)) ?_ (.ptr q1)
              simp only [execOp, q2, ei, Sem.run_bind, run _ len cap h0 (by omega), Result.andThen_ok, Sem.run_pure, addr_add0]
          | _ => simp only [hX] at hg; exact hg.elim
      | arr m e =>
        simp only at hg hrow
        cases he : nthT T e with
        | none => simp only [he] at hg; exact hg.elim
        | some r =>
          simp only [he] at hg
          have hsz := trow_size hT he w
          have run : ∀ (ad : Addr), 0 ≤ n → n < m → (Instr.indexAt t (.pointer (some ad)) (.int k n)).run P w = .ok (.pointer (some (ad.add (n.toNat * r.size)))) w := by
            intro ad h0 h1
            simp only [Instr.indexAt, asIntOf, Sem.run_bind, Sem.run_pure, Result.andThen_ok, run_underlying hrow, Instr.sureAddr]
            rw [if_pos ⟨h0, h1⟩]
            simp only [Sem.run_bind, hsz, Result.andThen_ok, Sem.run_pure]
          cases hX : opV σ x with
          | ptr id off =>
            simp only [hX] at hg
            obtain ⟨⟨h0, h1⟩, e1, e2⟩ := hg
            subst e1 e2
            rw [hX] at hx
            obtain ⟨c, q1, q2⟩ := hx.ptr_inv
            refine Did.val h (val := .pointer (some ⟨c, off + n.toNat * r.size, none⟩)) ?_ (.ptr q1)
            simp only [execOp, q2, ei, Sem.run_bind, run _ h0 (by omega), Result.andThen_ok, Sem.run_pure, addr_add0]
          | lptr cs off =>
            simp only [hX] at hg
            obtain ⟨⟨h0, h1⟩, e1, e2⟩ := hg
            subst e1 e2
            rw [hX] at hx
            obtain ⟨blk, base, vals, q2, q3, q4⟩ := hx.lptr_inv
            refine Did.val h (val := .pointer (some ⟨blk, base + (off + n.toNat * r.size), none⟩)) ?_ (.lptr vals q3 q4)
            simp only [execOp, q2, ei, Sem.run_bind, run _ h0 (by omega), Result.andThen_ok, Sem.run_pure, addr_add0, Nat.add_assoc]
          | _ => simp only [hX] at hg; exact hg.elim
      | _ => exact hg.elim

theorem index_did (hT : TOk P T) (h : HSim b σ D g w) {f : Nat} {t : TypeId} {x i : Operand} {us : List (Loc × C)} {v : V} {dst ty pos after guard}
    (hg : (stepOp P T σ f ⟨dst, .index t x i, ty, pos, after, guard⟩).Gives v us) (hop : ∀ z ∈ (Op.index t x i).operands, Rep w g (opV σ z) (a.eval z)) : Did P b σ us f D g a w ⟨dst, .index t x i, ty, pos, after, guard⟩ v := by
  have hx := hop x (by simp [Op.operands])
  have hi := hop i (by simp [Op.operands])
  simp only [stepOp, trow] at hg
  cases hI : intV (opV σ i) with
  | none => simp only [hI] at hg; exact hg.elim
  | some n =>
    simp only [hI] at hg
    obtain ⟨k, hk⟩ := intV_inv hI
    rw [hk] at hi
    have ei := hi.int_inv
    cases hX : opV σ x with
    | str s =>
      simp only [hX] at hg
      rw [hX] at hx
      obtain ⟨ba, q1, q2⟩ := hx.str_inv
      cases hr : nthT T t with
      | none => simp only [hr] at hg; exact hg.elim
      | some r =>
        have hrow := (hT t _ hr).1
        obtain ⟨ti, n0, b0, z0⟩ := r
        simp only [hr] at hg hrow
        cases ti with
        | str =>
          simp only at hg hrow
          obtain ⟨c, ⟨h0, hc⟩, e1, e2⟩ := hg
          subst e1 e2
          refine Did.val h (val := .int .u8 (c.toNat : Int)) ?_ (.pure (.int _ _))
          have hlt : n.toNat < ba.size := by have := (List.getElem?_eq_some_iff.1 hc).1; rw [← q2] at this; exact this
          have hget : ba[n.toNat]? = some c := by
            rw [← q2] at hc
            rw [getElem?_pos ba n.toNat hlt]
            have h2 : n.toNat < ba.data.toList.length := hlt
            rw [List.getElem?_eq_getElem h2] at hc
            rw [← Option.some.inj hc]
            rfl
          simp only [execOp, Instr.index, q1, ei, Sem.run_bind, asIntOf, Sem.run_pure, Result.andThen_ok, run_underlying hrow, if_pos h0, hget]
        | _ => exact hg.elim
    | _ => simp only [hX] at hg; exact pureop_did h hop hg

theorem extract_did (h : HSim b σ D g w) {f : Nat} {x : Operand} {i : Nat} {us : List (Loc × C)} {v : V} {dst ty pos after guard}
    (hg : (stepOp P T σ f ⟨dst, .extract x i, ty, pos, after, guard⟩).Gives v us) (hx : Rep w g (opV σ x) (a.eval x)) : Did P b σ us f D g a w ⟨dst, .extract x i, ty, pos, after, guard⟩ v := by
  simp only [stepOp] at hg
  cases hX : opV σ x with
  | tup vs =>
    simp only [hX] at hg
    cases hn : nth vs i with
    | none => simp only [hn] at hg; exact hg.elim
    | some y =>
      simp only [hn] at hg
      obtain ⟨e1, e2⟩ := hg
      subst e1 e2
      rw [hX] at hx
      obtain ⟨us, q1, q2, q3⟩ := hx.tup_inv
      rw [nth_eq] at hn
      have hlt : i < us.length := by have := (List.getElem?_eq_some_iff.1 hn).1; omega
      refine Did.val h (val := us[i]) ?_ (q3 i _ _ hn (List.getElem?_eq_getElem hlt))
      simp [execOp, q1, Instr.extract, hlt]
  | _ => simp only [hX] at hg; exact hg.elim

theorem nilCheck_did (h : HSim b σ D g w) {f : Nat} {x : Operand} {us : List (Loc × C)} {v : V} {dst ty pos after guard}
    (hg : (stepOp P T σ f ⟨dst, .nilCheck x, ty, pos, after, guard⟩).Gives v us) (hx : Rep w g (opV σ x) (a.eval x)) : Did P b σ us f D g a w ⟨dst, .nilCheck x, ty, pos, after, guard⟩ v := by
  simp only [stepOp] at hg
  cases hX : opV σ x with
  | ptr id off =>
    simp only [hX] at hg
    obtain ⟨e1, e2⟩ := hg
    subst e1 e2
    rw [hX] at hx
    obtain ⟨c, q1, q2⟩ := hx.ptr_inv
    exact Did.val h (val := a.eval x) (by simp [execOp, q2]) hx
  | lptr cs off =>
    simp only [hX] at hg
    obtain ⟨e1, e2⟩ := hg
    subst e1 e2
    rw [hX] at hx
    obtain ⟨blk, base, vals, q2, _⟩ := hx.lptr_inv
    exact Did.val h (val := a.eval x) (by simp [execOp, q2]) hx
  | func fn fs cs =>
    simp only [hX] at hg
    obtain ⟨e1, e2⟩ := hg
    subst e1 e2
    rw [hX] at hx
    obtain ⟨vs, us, q2, _⟩ := hx.func_inv
    exact Did.val h (val := a.eval x) (by simp [execOp, q2]) hx
  | _ => simp only [hX] at hg; exact hg.elim
end Go.Am

namespace Go.Am
open Go.RowKit

variable {P : Program} {T : Tab} {b : Base P} {σ : St} {D : Nat → Prop} {g : G} {a : Act} {w : World}

theorem notV_did (h : HSim b σ D g w) {f : Nat} {t : TypeId} {x : Operand} {us : List (Loc × C)} {v : V} {dst ty pos after guard}
    (hg : (stepOp P T σ f ⟨dst, .unOp .not t x, ty, pos, after, guard⟩).Gives v us) (hx : Rep w g (opV σ x) (a.eval x)) : Did P b σ us f D g a w ⟨dst, .unOp .not t x, ty, pos, after, guard⟩ v := by
  simp only [stepOp] at hg
  cases hX : opV σ x with
  | tt =>
    simp only [hX, notV] at hg
    obtain ⟨e1, e2⟩ := hg
    subst e1 e2
    rw [hX] at hx
    exact Did.val h (val := .bool false) (by simp [execOp, Op.unary, hx.tt_inv]) (.pure .ff)
  | ff =>
    simp only [hX, notV] at hg
    obtain ⟨e1, e2⟩ := hg
    subst e1 e2
    rw [hX] at hx
    exact Did.val h (val := .bool true) (by simp [execOp, Op.unary, hx.ff_inv]) (.pure .tt)
  | bool q =>
    simp only [hX, notV] at hg
    obtain ⟨e1, e2⟩ := hg
    subst e1 e2
    rw [hX] at hx
    exact Did.val h (val := .bool (!q)) (by simp [execOp, Op.unary, hx.bool_inv]) (.pure (.bool _))
  | _ => simp only [hX, notV] at hg; exact hg.elim

theorem negV_did (h : HSim b σ D g w) {f : Nat} {t : TypeId} {x : Operand} {us : List (Loc × C)} {v : V} {dst ty pos after guard}
    (hg : (stepOp P T σ f ⟨dst, .unOp .neg t x, ty, pos, after, guard⟩).Gives v us) (hx : Rep w g (opV σ x) (a.eval x)) : Did P b σ us f D g a w ⟨dst, .unOp .neg t x, ty, pos, after, guard⟩ v := by
  simp only [stepOp] at hg
  cases hX : opV σ x with
  | int k n =>
    simp only [hX] at hg
    obtain ⟨e1, e2⟩ := hg
    subst e1 e2
    rw [hX] at hx
    exact Did.val h (val := .int k (k.wrap (0 - n))) (by simp [execOp, Op.unary, hx.int_inv, Op.intArith]) (.pure (.int _ _))
  | _ => simp only [hX] at hg; exact hg.elim

theorem bytesV_get {s : List UInt8} {i : Nat} {x : V} (h : (bytesV s)[i]? = some x) : ∃ c, s[i]? = some c ∧ x = .int .u8 c.toNat := by
  unfold bytesV at h
  rw [List.getElem?_map] at h
  cases hs : s[i]? with
  | none => simp [hs] at h
  | some c => simp [hs] at h; exact ⟨c, rfl, h.symm⟩
theorem bytesV_len (s : List UInt8) : (bytesV s).length = s.length := by simp [bytesV]

theorem run_conv_empty {src dst e : TypeId} (hs : P.underlying src = some (.slice e)) (he : P.underlying e = some (.int .u8)) (hd : P.underlying dst = some .string) (ad : Option Addr) (c : Nat) :
    (convert src dst (.slice ad 0 c)).run P w = .ok (.string ByteArray.empty) w := by
  cases ad with
  | none => exact run_convert_bytes_nil w src e hs he 0 c dst hd
  | some ad =>
    rw [run_convert_bytes_string w src dst e _ 0 c hs he hd]
    simp [Conv.bytesToString, loadCells, loadCellsFrom]

/-- Bytes that lie in a row are made a text. -/
theorem run_conv_bytes {src dst e : TypeId} (hs : P.underlying src = some (.slice e)) (he : P.underlying e = some (.int .u8)) (hd : P.underlying dst = some .string) {ad : Option Addr} {k off : Nat} {len cap : Nat} (had : 0 < len → ad = some ⟨k, off, none⟩)
    {s : List UInt8} (hl : s.length = len) (hc : ∀ (i : Nat) (c : UInt8), s[i]? = some c → w.cell? ⟨k, off + i, none⟩ = some (.int .u8 (c.toNat : Int))) :
    ∃ ba : ByteArray, (convert src dst (.slice ad len cap)).run P w = .ok (.string ba) w ∧ ba.data.toList = s := by
  rcases Nat.eq_zero_or_pos len with h0 | h0
  · subst h0
    have : s = [] := List.eq_nil_of_length_eq_zero hl
    subst this
    exact ⟨_, run_conv_empty hs he hd ad cap, rfl⟩
  · rw [had h0]
    refine ⟨_, run_convert_bytes_arg w src e hs he k off len cap (s.map fun c => (c.toNat : Int)) (by simpa using hl) (fun i hi => ?_) dst hd, ?_⟩
    · have hi' : i < s.length := by omega
      rw [hc i s[i] (List.getElem?_eq_getElem hi'), List.getD_eq_getElem?_getD, List.getElem?_map, List.getElem?_eq_getElem hi']
      rfl
    · rw [strOfNums_data, List.map_map]
      conv => rhs; rw [← List.map_id s]
      apply List.map_congr_left
      intro c _
      simp

def rowList (s : ByteArray) (cap : Nat) : List Value := s.data.toList.map (fun b : UInt8 => Value.int .u8 (b.toNat : Int)) ++ List.replicate (cap - s.size) (.int .u8 0)
theorem bytesRow_list (s : ByteArray) (cap : Nat) : bytesRow s cap = (rowList s cap).toArray := by
  apply Array.toList_inj.1
  simp [bytesRow, rowList]

theorem conv_did (hT : TOk P T) (h : HSim b σ D g w) {f : Nat} (hf : g.own f = none) {src dst' : TypeId} {x : Operand} {us : List (Loc × C)} {v : V} {dst ty pos after guard}
    (hg : (stepConv σ T f src dst' (opV σ x)).Gives v us) (hx : Rep w g (opV σ x) (a.eval x)) : Did P b σ us f D g a w ⟨dst, .convert src dst' x, ty, pos, after, guard⟩ v := by
  simp only [stepConv, trow] at hg
  cases hr : nthT T dst' with
  | none => simp only [hr] at hg; exact hg.elim
  | some r =>
    have hrow := (hT dst' _ hr).1
    obtain ⟨ti, n0, b0, z0⟩ := r
    simp only [hr] at hg hrow
    cases ti with
    | int k =>
      simp only at hg hrow
      cases hX : opV σ x with
      | int j n =>
        simp only [hX] at hg
        cases hs : nthT T src with
        | none => simp only [hs] at hg; exact hg.elim
        | some r' =>
          have hsrc := (hT src _ hs).1
          obtain ⟨ti', n1, b1, z1⟩ := r'
          simp only [hs] at hg hsrc
          cases ti' with
          | int k' =>
            simp only at hg hsrc
            obtain ⟨e1, e2⟩ := hg
            subst e1 e2
            rw [hX] at hx
            refine Did.val h (val := .int k (k.wrap n)) ?_ (.pure (.int _ _))
            simp [execOp, convert, run_underlying hsrc, run_underlying hrow, hx.int_inv, Conv.intToInt]
          | _ => exact hg.elim
      | _ => simp only [hX] at hg; exact hg.elim
    | str =>
      simp only at hg hrow
      cases hX : opV σ x with
      | str s =>
        simp only [hX] at hg
        cases hs : nthT T src with
        | none => simp only [hs] at hg; exact hg.elim
        | some r' =>
          have hsrc := (hT src _ hs).1
          obtain ⟨ti', n1, b1, z1⟩ := r'
          simp only [hs] at hg hsrc
          cases ti' with
          | str =>
            simp only at hg hsrc
            obtain ⟨e1, e2⟩ := hg
            subst e1 e2
            rw [hX] at hx
            obtain ⟨ba, q1, q2⟩ := hx.str_inv
            refine Did.val h (val := .string ba) ?_ (.pure (.str q2))
            simp [execOp, convert, run_underlying hsrc, run_underlying hrow, q1]
          | _ => exact hg.elim
      | lst isNil sz els tk =>
        simp only [hX] at hg
        cases hs : nthT T src with
        | none => simp only [hs] at hg; exact hg.elim
        | some r' =>
          have hsrc := (hT src _ hs).1
          obtain ⟨ti', n1, b1, z1⟩ := r'
          simp only [hs] at hg hsrc
          cases ti' with
          | slice e =>
            simp only at hg hsrc
            cases he : nthT T e with
            | none => simp only [he] at hg; exact hg.elim
            | some r2 =>
              have hel := (hT e _ he).1
              obtain ⟨ti2, n2, b2, z2⟩ := r2
              simp only [he] at hg hel
              cases ti2 with
              | int k2 =>
                cases k2 with
                | u8 =>
                  simp only at hg hel
                  obtain ⟨s, ⟨hsz, hels⟩, e1, e2⟩ := hg
                  subst e1 e2
                  rw [hX] at hx
                  obtain ⟨ad, c, q1, q2, _⟩ := hx.lst_inv
                  have hlen : s.length = els.length := by rw [hels]; simp
                  have hcell : ∃ k off, (0 < els.length → ad = some ⟨k, off, none⟩) ∧ ∀ (i : Nat) (c : UInt8), s[i]? = some c → w.cell? ⟨k, off + i, none⟩ = some (.int .u8 (c.toNat : Int)) := by
                    cases q2 with
                    | lst vals hnil hc hsz' ha hone hr' =>
                      rcases Nat.eq_zero_or_pos els.length with h0 | h0
                      · refine ⟨0, 0, fun h => by omega, fun i c hi => ?_⟩
                        have := (List.getElem?_eq_some_iff.1 hi).1
                        omega
                      · have hsz1 : sz = 1 := by
                          rcases hsz with h1 | h1
                          · exact h1
                          · rw [h1] at h0; simp at h0
                        subst hsz1
                        have get : ∀ (i : Nat) (c : UInt8), s[i]? = some c → els[i]? = some [.int .u8 (c.toNat : Int)] := fun i c hi => by rw [hels, List.getElem?_map, hi]; rfl
                        obtain ⟨c0, hc0⟩ : ∃ c, s[0]? = some c := ⟨s[0]'(by omega), List.getElem?_eq_getElem (by omega)⟩
                        obtain ⟨k, off, ead, _⟩ := ha 0 _ 0 _ (get 0 c0 hc0) rfl
                        refine ⟨k, off, fun _ => ead, fun i c hi => ?_⟩
                        obtain ⟨k', off', ead', _, hcell⟩ := ha i _ 0 _ (get i c hi) rfl
                        rw [ead] at ead'; cases ead'
                        have hp := hr' i _ 0 _ (get i c hi) rfl
                        have hv : vals i 0 = .int .u8 (c.toNat : Int) := Rep.int_inv (g := g) (.pure hp)
                        rw [hv] at hcell
                        simpa using hcell
                  obtain ⟨k, off, had, hcc⟩ := hcell
                  obtain ⟨ba, hrun, hba⟩ := run_conv_bytes (P := P) (cap := c) hsrc hel hrow had hlen hcc
                  refine Did.val h (val := .string ba) ?_ (.pure (.str hba))
                  simp only [execOp, q1, Sem.run_bind, hrun, Result.andThen_ok, Sem.run_pure]
                | _ => exact hg.elim
              | _ => exact hg.elim
          | _ => exact hg.elim
      | own id off sz len full =>
        simp only [hX] at hg
        cases hb1 : Nat.beq sz 1 with
        | false => simp only [hb1] at hg; exact hg.elim
        | true =>
        simp only [hb1] at hg
        have hsz : sz = 1 := Nat.eq_of_beq_eq_true hb1
        subst hsz
        cases hs : nthT T src with
        | none => simp only [hs] at hg; exact hg.elim
        | some r' =>
          have hsrc := (hT src _ hs).1
          obtain ⟨ti', n1, b1, z1⟩ := r'
          simp only [hs] at hg hsrc
          cases ti' with
          | slice e =>
            simp only at hg hsrc
            cases he : nthT T e with
            | none => simp only [he] at hg; exact hg.elim
            | some r2 =>
              have hel := (hT e _ he).1
              obtain ⟨ti2, n2, b2, z2⟩ := r2
              simp only [he] at hg hel
              cases ti2 with
              | int k2 =>
                cases k2 with
                | u8 =>
                  simp only at hg hel
                  rw [hX] at hx
                  obtain ⟨c, cap, ad, q1, q2, q3, q4, q5, q6⟩ := hx.own_inv
                  have fin : ∀ (cells : List V) (s : List UInt8), off + len ≤ cells.length → (cells.drop off).take len = bytesV s → (∃ vs : Nat → Value, ∀ j x, cells[j]? = some x → w.cell? ⟨c, j, none⟩ = some (vs j) ∧ Rep w g x (vs j)) → v = .str s → us = [] →
                      Did P b σ us f D g a w ⟨dst, .convert src dst' x, ty, pos, after, guard⟩ v := by
                    intro cells s h1 h2 h3 e1 e2
                    subst e1 e2
                    obtain ⟨vs, hvs⟩ := h3
                    have hlen : s.length = len := by
                      have := congrArg List.length h2
                      rw [bytesV_len, List.length_take, List.length_drop] at this
                      omega
                    obtain ⟨ba, hrun, hba⟩ := run_conv_bytes (P := P) (cap := cap) hsrc hel hrow q3 hlen (fun i ch hi => by
                      have hi' : (bytesV s)[i]? = some (.int .u8 ch.toNat) := by unfold bytesV; rw [List.getElem?_map, hi]; rfl
                      rw [← h2, List.getElem?_take] at hi'
                      split at hi'
                      · rw [List.getElem?_drop] at hi'
                        obtain ⟨k1, k2⟩ := hvs _ _ hi'
                        rw [k1, k2.int_inv]
                      · cases hi')
                    refine Did.val h (val := .string ba) ?_ (.pure (.str hba))
                    simp only [execOp, q2, Sem.run_bind, hrun, Result.andThen_ok, Sem.run_pure]
                  cases hbk : σ (.blk id) with
                  | mem bt cells =>
                    simp only [hbk] at hg
                    obtain ⟨s, ⟨h1, h2⟩, e1, e2⟩ := hg
                    obtain ⟨vs, hvs⟩ := h.mem_cell hbk q1
                    exact fin cells s h1 h2 ⟨vs, fun j x hx => ⟨(hvs j x hx).1, .pure (hvs j x hx).2⟩⟩ e1 e2
                  | box bt cells =>
                    simp only [hbk] at hg
                    obtain ⟨s, ⟨h1, h2⟩, e1, e2⟩ := hg
                    exact fin cells s h1 h2 (h.box_cell hbk q1) e1 e2
                  | _ => simp only [hbk] at hg; exact hg.elim
                | _ => exact hg.elim
              | _ => exact hg.elim
          | _ => exact hg.elim
      | _ => simp only [hX] at hg; exact hg.elim
    | slice e =>
      simp only at hg hrow
      cases hX : opV σ x with
      | str s =>
        simp only [hX] at hg
        cases he : nthT T e with
        | none => simp only [he] at hg; exact hg.elim
        | some r2 =>
          have hel := (hT e _ he).1
          obtain ⟨ti2, n2, b2, z2⟩ := r2
          simp only [he] at hg hel
          cases ti2 with
          | int k2 =>
            cases k2 with
            | u8 =>
              simp only at hg hel
              cases hs : nthT T src with
              | none => simp only [hs] at hg; exact hg.elim
              | some r' =>
                have hsrc := (hT src _ hs).1
                obtain ⟨ti', n1, b1, z1⟩ := r'
                simp only [hs] at hg hsrc
                cases ti' with
                | str =>
                  simp only at hg hsrc
                  obtain ⟨e1, e2⟩ := hg
                  subst e1 e2
                  rw [hX] at hx
                  obtain ⟨ba, q1, q2⟩ := hx.str_inv
                  have hrun := run_bytes_of_string (P := P) w src dst' e ba hsrc hrow hel
                  have hcap := grownCap_ge w ba.size 0 e
                  generalize grownCap w ba.size 0 e = cap at hrun hcap
                  rw [bytesRow_list] at hrun
                  have hsize : ba.size = s.length := by rw [← q2]; rfl
                  have hal : (rowList ba cap).length = cap := by
                    unfold rowList; rw [q2]; simp; omega
                  obtain ⟨h0, e0⟩ := h.grow0 (Below.refl _ w).drew
                  obtain ⟨k1, k2⟩ := h0.newMem hf (t := e) (cells := bytesV s) (arr := (rowList ba cap))
                    (z := (cap, cap + 1)) (by rw [hal, bytesV_len]; omega) (fun o ho => by rw [hal] at ho; simp only; omega) (fun i y u hy hu => by
                      obtain ⟨c, hc, rfl⟩ := bytesV_get hy
                      unfold rowList at hu
                      rw [List.getElem?_append_left (by rw [q2]; simpa using (List.getElem?_eq_some_iff.1 hc).1), List.getElem?_map, q2, hc] at hu
                      simp at hu
                      subst hu
                      exact .int _ _)
                  refine ⟨_, .slice (some ⟨w.heap.size, 0, none⟩) s.length cap, _, _, ?_, .inl rfl, .own (G.put_same _ _ _) (fun _ => rfl) rfl (by omega) (fun _ => ⟨rfl, rfl, e, ?_⟩), k1, e0.trans k2⟩
                  · simp only [execOp, q1, Sem.run_bind, hrun, Result.andThen_ok, Sem.run_pure, hsize, List.size_toArray, hal]
                  · have : (w.drew.alloc (.cells (rowList ba cap).toArray e (cap, cap + 1))).heap[w.heap.size]? = some (.cells (rowList ba cap).toArray e (cap, cap + 1)) := heap_alloc_new w.drew _
                    unfold World.shape?
                    rw [this]
                    simp only [List.size_toArray, hal, Nat.mul_one]
                | _ => exact hg.elim
            | _ => exact hg.elim
          | _ => exact hg.elim
      | _ => simp only [hX] at hg; exact hg.elim
    | _ => exact hg.elim
end Go.Am

namespace Go.Am
open Go.RowKit

variable {P : Program} {T : Tab} {b : Base P} {σ : St} {D : Nat → Prop} {g : G} {a : Act} {w : World}

/-- What is appended, as the model has it. -/
structure News (P : Program) (w : World) (F : Nat → Nat → Prop) (sz : Nat) (tx : TypeId) (xv : Value) (news : List (List V)) (nv : List Value) : Prop where
  src : Src P sz tx xv news.length nv w
  rep : ∀ (i : Nat) (x : V) (v : Value), news.flatten[i]? = some x → nv[i]? = some v → PRep w F x v
  szs : ∀ el ∈ news, el.length = sz

theorem flat_at {α : Type} (sz : Nat) (els : List (List α)) (hs : ∀ el ∈ els, el.length = sz) (i : Nat) (x : α) (h : els.flatten[i]? = some x) : ∃ el, els[i / sz]? = some el ∧ el[i % sz]? = some x ∧ i / sz * sz + i % sz = i := by
  have hi : i < els.length * sz := by have := (List.getElem?_eq_some_iff.1 h).1; rwa [flat_len sz els hs] at this
  have hz : 0 < sz := by
    rcases Nat.eq_zero_or_pos sz with h0 | h0
    · rw [h0, Nat.mul_zero] at hi; omega
    · exact h0
  have hq : i / sz < els.length := by rw [Nat.div_lt_iff_lt_mul hz]; exact hi
  have hm : i % sz < els[i / sz].length := by rw [hs _ (List.getElem_mem hq)]; exact Nat.mod_lt _ hz
  have he : i / sz * sz + i % sz = i := by rw [Nat.mul_comm]; exact Nat.div_add_mod i sz
  have h2 := flat_get sz els (i / sz) (i % sz) els[i / sz] els[i / sz][i % sz] hs (List.getElem?_eq_getElem hq) (List.getElem?_eq_getElem hm)
  rw [he, h] at h2
  cases h2
  exact ⟨_, List.getElem?_eq_getElem hq, List.getElem?_eq_getElem hm, he⟩

/-- The cells of a slice that never turn, in a row. -/
theorem PRep.cells {F : Nat → Nat → Prop} {isNil : Bool} {sz : Nat} {els : List (List V)} {ad : Option Addr} {n c : Nat} (h : PRep w F (.lst isNil sz els .none) (.slice ad n c)) :
    ∃ vs : List Value, vs.length = n * sz ∧ els.length = n ∧ n ≤ c ∧ (∀ el ∈ els, el.length = sz) ∧ (∀ (i : Nat) (x : V) (v : Value), els.flatten[i]? = some x → vs[i]? = some v → PRep w F x v) ∧ (∀ u ∈ vs, u.oneCell' = true) ∧
      (0 < n * sz → ∃ blk base, ad = some ⟨blk, base, none⟩ ∧ ∀ i v, vs[i]? = some v → F blk (base + i) ∧ w.cell? ⟨blk, base + i, none⟩ = some v) := by
  cases h with
  | lst vals hnil hc hsz ha hone h =>
    have hfl := flat_len sz els hsz
    have hat : ∀ (i : Nat) (v : Value), ((List.range (els.length * sz)).map fun i => vals (i / sz) (i % sz))[i]? = some v → ∃ el x, els[i / sz]? = some el ∧ el[i % sz]? = some x ∧ v = vals (i / sz) (i % sz) ∧ i / sz * sz + i % sz = i := by
      intro i v hv
      rw [List.getElem?_map] at hv
      by_cases hi : i < els.length * sz
      · rw [List.getElem?_range hi] at hv
        simp at hv
        obtain ⟨el, h1, h2, h3⟩ := flat_at sz els hsz i els.flatten[i] (List.getElem?_eq_getElem (by omega))
        exact ⟨el, _, h1, h2, hv.symm, h3⟩
      · rw [List.getElem?_eq_none (by simp; omega)] at hv
        cases hv
    refine ⟨(List.range (els.length * sz)).map fun i => vals (i / sz) (i % sz), by simp, rfl, hc, hsz, fun i x v hx hv => ?_, fun u hu => ?_, fun h0 => ?_⟩
    · obtain ⟨el, y, h1, h2, rfl, h3⟩ := hat i v hv
      obtain ⟨el', k1, k2, _⟩ := flat_at sz els hsz i x hx
      rw [h1] at k1; cases k1
      rw [h2] at k2; cases k2
      exact h _ el _ _ h1 h2
    · obtain ⟨i, hi, rfl⟩ := List.getElem_of_mem hu
      obtain ⟨el, y, h1, h2, e, h3⟩ := hat i _ (List.getElem?_eq_getElem hi)
      rw [e]
      exact hone _ el _ _ h1 h2
    · obtain ⟨el0, g1, g2, _⟩ := flat_at sz els hsz 0 els.flatten[0] (List.getElem?_eq_getElem (by omega))
      obtain ⟨blk, base, e, _⟩ := ha _ el0 _ _ g1 g2
      refine ⟨blk, base, e, fun i v hv => ?_⟩
      obtain ⟨el, y, h1, h2, rfl, h3⟩ := hat i v hv
      obtain ⟨blk', base', e', hf, hcell⟩ := ha _ el _ _ h1 h2
      rw [e] at e'; cases e'
      rw [Nat.add_assoc, h3] at hf hcell
      exact ⟨hf, hcell⟩

theorem rowsOf_news (hT : TOk P T) (h : HSim b σ D g w) {tx : TypeId} {sz : Nat} {x : V} {xv : Value} (hx : Rep w g x xv) {k : List (List V) → Req} {v : V} {us : List (Loc × C)} (hg : (rowsOf σ T tx sz x k).Gives v us) :
    ∃ news nv, News P w g.F sz tx xv news nv ∧ (k news).Gives v us := by
  unfold rowsOf at hg
  simp only [trow] at hg
  cases x with
  | lst isNil sz' els tk =>
    simp only at hg
    cases hr : nthT T tx with
    | none => simp only [hr] at hg; exact hg.elim
    | some r =>
      have hrow := (hT tx _ hr).1
      obtain ⟨ti, n0, b0, z0⟩ := r
      simp only [hr] at hg hrow
      cases ti with
      | slice e =>
        simp only at hg hrow
        obtain ⟨ad, c, q1, q2, _⟩ := hx.lst_inv
        have go : ∀ els : List (List V), PRep w g.F (.lst isNil sz els .none) (.slice ad els.length c) → xv = .slice ad els.length c → ∃ nv, News P w g.F sz tx xv els nv := by
          intro els q2 q1
          subst q1
          obtain ⟨vs, c1, c2, c3, c4, c5, c6, c7⟩ := q2.cells
          refine ⟨vs, ?_, c5, c4⟩
          cases ad with
          | none =>
            have h0 : els.length * sz = 0 := by
              rcases Nat.eq_zero_or_pos (els.length * sz) with h0 | h0
              · exact h0
              · obtain ⟨_, _, e, _⟩ := c7 h0; cases e
            have hv : vs = [] := List.eq_nil_of_length_eq_zero (by rw [c1, h0])
            subst hv
            exact ⟨.inl ⟨e, hrow⟩, fun _ => rfl, by simp [Builtin.firstCells], by simp [Builtin.firstCells], by simpa using h0.symm, by simp⟩
          | some ad =>
            refine Src.ofSlice w hrow ad _ c vs c1 (fun j u hu => ?_) c6
            have : j < vs.length := (List.getElem?_eq_some_iff.1 hu).1
            obtain ⟨blk, base, e, hcc⟩ := c7 (by omega)
            cases e
            rw [addr_add0]
            exact (hcc j u hu).2
        cases hb : Nat.beq sz' sz with
        | true =>
          simp only [hb] at hg
          have e0 := Nat.eq_of_beq_eq_true hb
          subst e0
          obtain ⟨nv, hn⟩ := go els q2 q1
          exact ⟨els, nv, hn, hg⟩
        | false =>
          simp only [hb] at hg
          obtain ⟨e0, hg⟩ := hg
          subst e0
          obtain ⟨nv, hn⟩ := go [] (els_nil q2) q1
          exact ⟨[], nv, hn, hg⟩
      | _ => exact hg.elim
  | str s =>
    simp only at hg
    cases hr : nthT T tx with
    | none => simp only [hr] at hg; exact hg.elim
    | some r =>
      have hrow := (hT tx _ hr).1
      obtain ⟨ti, n0, b0, z0⟩ := r
      simp only [hr] at hg hrow
      cases ti with
      | str =>
        cases hb : Nat.beq sz 1 with
        | false => simp only [hb] at hg; exact hg.elim
        | true =>
          simp only [hb] at hg hrow
          have e0 := Nat.eq_of_beq_eq_true hb
          subst e0
          obtain ⟨ba, q1, q2⟩ := hx.str_inv
          subst q1
          refine ⟨_, byteCells ba, ⟨?_, fun i x v hx hv => ?_, fun el hel => ?_⟩, hg⟩
          · have := Src.ofString (P := P) w hrow ba
            rw [List.length_map, show s.length = ba.size by rw [← q2]; rfl]
            exact this
          · obtain ⟨el, h1, h2, h3⟩ := flat_at 1 _ (fun el hel => by obtain ⟨c, _, rfl⟩ := List.mem_map.1 hel; rfl) i x hx
            rw [Nat.div_one, List.getElem?_map] at h1
            cases hs : s[i]? with
            | none => simp [hs] at h1
            | some c =>
              simp [hs] at h1
              subst h1
              rw [Nat.mod_one] at h2
              simp at h2
              subst h2
              unfold byteCells at hv
              rw [q2, List.getElem?_map, hs] at hv
              simp at hv
              subst hv
              exact .int _ _
          · obtain ⟨c, _, rfl⟩ := List.mem_map.1 hel
            rfl
      | _ => exact hg.elim
  | own id off sz' len full =>
    simp only at hg
    cases hr : nthT T tx with
    | none => simp only [hr] at hg; exact hg.elim
    | some r =>
      have hrow := (hT tx _ hr).1
      obtain ⟨ti, n0, b0, z0⟩ := r
      simp only [hr] at hg hrow
      cases ti with
      | slice e =>
        simp only at hg hrow
        cases hb : Nat.beq sz' sz with
        | false => simp only [hb] at hg; exact hg.elim
        | true =>
          simp only [hb] at hg
          have e0 := Nat.eq_of_beq_eq_true hb
          subst e0
          obtain ⟨c, cap, ad, q1, q2, q3, q4, q5, q6⟩ := hx.own_inv
          subst q2
          have go : ∀ (cells : List V) (els : List (List V)), (∃ vs : Nat → Value, ∀ j x, cells[j]? = some x → w.cell? ⟨c, j, none⟩ = some (vs j)) → els.length = len → (∀ el ∈ els, el.length = sz') → off + len * sz' ≤ cells.length →
              (∀ (i : Nat) (x : V), els.flatten[i]? = some x → ∀ v, w.cell? ⟨c, off + i, none⟩ = some v → v.oneCell' = true ∧ PRep w g.F x v) → ∃ nv, News P w g.F sz' tx (.slice ad len cap) els nv := by
            intro cells els hvs h1 h2 h3 h4
            obtain ⟨vs, hvs⟩ := hvs
            have hfl := flat_len sz' els h2
            have hcell : ∀ i, i < len * sz' → w.cell? ⟨c, off + i, none⟩ = some (vs (off + i)) := fun i hi => hvs (off + i) cells[off + i] (List.getElem?_eq_getElem (by omega))
            have hnv : ∀ (i : Nat) (v : Value), ((List.range (len * sz')).map fun i => vs (off + i))[i]? = some v → v = vs (off + i) ∧ i < len * sz' := by
              intro i v hv
              rw [List.getElem?_map] at hv
              by_cases hi : i < len * sz'
              · rw [List.getElem?_range hi] at hv
                simp at hv
                exact ⟨hv.symm, hi⟩
              · rw [List.getElem?_eq_none (by simp; omega)] at hv
                cases hv
            refine ⟨(List.range (len * sz')).map fun i => vs (off + i), ?_, fun i x v hx hv => ?_, h2⟩
            · rw [h1]
              obtain ⟨ad', had⟩ := Option.isSome_iff_exists.1 q4
              subst had
              refine Src.ofSlice w hrow ad' len cap _ (by simp) (fun j u hu => ?_) (fun u hu => ?_)
              · obtain ⟨rfl, hj⟩ := hnv j u hu
                have hl0 : 0 < len := by
                  rcases Nat.eq_zero_or_pos len with h0 | h0
                  · rw [h0, Nat.zero_mul] at hj; omega
                  · exact h0
                have e := q3 hl0
                cases e
                rw [addr_add0]
                exact hcell j hj
              · obtain ⟨i, hi, rfl⟩ := List.getElem_of_mem hu
                obtain ⟨e, hi'⟩ := hnv i _ (List.getElem?_eq_getElem hi)
                rw [e]
                have hi2 : i < els.flatten.length := by rw [hfl, h1]; exact hi'
                exact (h4 i els.flatten[i] (List.getElem?_eq_getElem hi2) _ (hcell i hi')).1
            · obtain ⟨rfl, hi⟩ := hnv i v hv
              exact (h4 i x hx _ (hcell i hi)).2
          cases hbk : σ (.blk id) with
          | mem bt cells =>
            simp only [hbk] at hg
            obtain ⟨els, ⟨h1, h2, h3, h4, h5⟩, hg⟩ := hg
            obtain ⟨vs, hvs⟩ := h.mem_cell hbk q1
            obtain ⟨nv, hn⟩ := go cells els ⟨vs, fun j x hx => (hvs j x hx).1⟩ h1 h2 h3 (fun i x hx v hv => by
              have hx' := hx
              rw [← h4, List.getElem?_take] at hx'
              split at hx'
              · rw [List.getElem?_drop] at hx'
                obtain ⟨g1, g2⟩ := hvs _ x hx'
                rw [g1] at hv; cases hv
                exact ⟨oneV_oneCell (.pure g2) (oneAll_get h5 i x hx), g2⟩
              · cases hx')
            exact ⟨els, nv, hn, hg⟩
          | box bt cells =>
            simp only [hbk] at hg
            obtain ⟨els, ⟨h1, h2, h3, h4, h5⟩, hg⟩ := hg
            obtain ⟨vs, hvs⟩ := h.box_cell hbk q1
            obtain ⟨nv, hn⟩ := go cells els ⟨vs, fun j x hx => (hvs j x hx).1⟩ h1 h2 h3 (fun i x hx v hv => by
              rw [← h4] at hx
              obtain ⟨y, hy, rfl⟩ := forgetAll_get hx
              have hp := pureAll_get h5 i y hy
              rw [List.getElem?_take] at hy
              split at hy
              · rw [List.getElem?_drop] at hy
                obtain ⟨g1, g2⟩ := hvs _ y hy
                rw [g1] at hv; cases hv
                exact ⟨oneV_oneCell g2 (pureV_oneV hp), pureV_rep hp g2⟩
              · cases hy)
            exact ⟨els, nv, hn, hg⟩
          | _ => simp only [hbk] at hg; exact hg.elim
      | _ => exact hg.elim
  | _ => exact hg.elim
end Go.Am

namespace Go.Am
open Go.RowKit

variable {P : Program} {T : Tab} {b : Base P} {σ : St} {D : Nat → Prop} {g : G} {a : Act} {w : World}

/-- A row lies there, and is so long: what the slice of all of it reads as. -/
theorem HSim.rowDone (h : HSim b σ D g w) {id c sz N cap : Nat} {t : TypeId} {z : Nat × Nat} {arr : List Value} {els : List (List V)} (hN : els.length = N) (ho : ∀ bk M, g.row id = some (bk, M) → M < N) (hfr : (∃ N0, g.row id = some (some c, N0)) ∨ ∀ o, ¬ g.F c o) (hc1 : b.Mine c) (hc2 : c < w.heap.size)
    (hcF : ∀ o, g.F c o → o < N * sz) (hown : ∀ id, (σ (.blk id)).isBlk = true → g.own id ≠ some c) (hrow : ∀ id' t sz N N', id' ≠ id → σ (.row id') = .row t sz N → g.row id' ≠ some (some c, N'))
    (hh : w.heap[c]? = some (.cells arr.toArray t z)) (hz : ∀ o, o < arr.length → ¬ (z.1 ≤ o ∧ o < z.2)) (hcap : arr.length = cap * sz) (hNc : N ≤ cap) (hsz : ∀ el ∈ els, el.length = sz)
    (hone : ∀ (i : Nat) (x : V) (v : Value), els.flatten[i]? = some x → arr[i]? = some v → v.oneCell' = true) (hrep : ∀ (i : Nat) (x : V) (v : Value), els.flatten[i]? = some x → arr[i]? = some v → PRep w g.F x v) :
    HSim b (upd σ (.row id) (.row t sz N)) (fun i => D i ∨ i = id) (g.setRow id c N sz) w ∧ Ev g w (g.setRow id c N sz) w ∧ Rep w (g.setRow id c N sz) (.lst false sz els (.brow id)) (.slice (some ⟨c, 0, none⟩) N cap) := by
  have hE : Ev g w (g.setRow id c N sz) w := Ev.setRow ho hfr
  refine ⟨h.setRow ho hfr hc1 hc2 hcF hown hrow ⟨arr, z, hh, hz⟩, hE, ?_⟩
  subst hN
  refine .lst (prep_row hh (fun o ho => .inr ⟨rfl, ho⟩) hNc hsz (by rw [hcap]; exact Nat.mul_le_mul_right _ hNc) hone (fun i x v hx hv => (hrep i x v hx hv).mono hE.F)) ?_
  refine ⟨some c, els.length, G.setRow_same _ _ _ _ _, Nat.le_refl _, fun _ => .inr ⟨c, t, rfl, rfl, ?_⟩⟩
  unfold World.shape?
  rw [hh]
  simp [hcap]

theorem Rep.unb {isNil : Bool} {sz : Nat} {els : List (List V)} {id : Nat} {v : Value} (h : Rep w g (.lst isNil sz els (.brow id)) v) : Rep w g (.lst isNil sz els (.row id)) v := by
  obtain ⟨ad, c, rfl, h2, h3⟩ := h.lst_inv
  exact .lst h2 h3.unb

theorem setCells_of_store (c off : Nat) (vs : List Value) {arr : List Value} {t : TypeId} {z : Nat × Nat} (h : w.heap[c]? = some (.cells arr.toArray t z)) (hl : off + vs.length ≤ arr.length) (hz : ∀ o, o < arr.length → ¬ (z.1 ≤ o ∧ o < z.2)) (hu : ∀ u ∈ vs, u.oneCell' = true) :
    Wr c w (w.setCells c off vs) ∧ (w.setCells c off vs).heap[c]? = some (.cells (arr.take off ++ vs ++ arr.drop (off + vs.length)).toArray t z) ∧
      (∀ j, j < vs.length → (w.cell? ⟨c, off + j, none⟩).isSome = true) ∧ (∀ j, j < vs.length → w.frozen? ⟨c, off + j, none⟩ = false) := by
  have h1 : ∀ j, j < vs.length → (w.cell? ⟨c, off + j, none⟩).isSome = true := fun j hj => by rw [cell_row h, List.getElem?_eq_getElem (by omega)]; rfl
  have h2 : ∀ j, j < vs.length → w.frozen? ⟨c, off + j, none⟩ = false := fun j hj => frozen_row h (hz _ (by omega))
  obtain ⟨w', r1, r2, r3⟩ := run_storeCells_row (P := default) c vs off 0 arr w h (by omega) hz hu
  have r4 := run_storeCells_cells (P := default) c off vs 0 w (by simpa using h1) (by simpa using h2) hu
  rw [r4] at r1
  simp only [Nat.add_zero] at r1 r3
  cases r1
  exact ⟨r2, r3, h1, h2⟩

theorem zeroCells_len (z : Array Value) (n sz : Nat) (hz : z.size = sz) : (Builtin.zeroCells z n).toList.length = n * sz := by
  rw [← hz, ← size_zeroCells z n]; rfl

theorem run_append_zero {t tx ty e : TypeId} {i : TypeInfo} (ht : P.underlying t = some (.slice e)) (hi : P.info? e = some i) (base : Option Addr) (sLen sCap : Nat) (hcap : sLen ≤ sCap) (x : Value) (hs : Src P i.size tx x 0 [] w) :
    (Builtin.append_ #[t, tx] ty #[.slice base sLen sCap, x]).run P w = .ok (.slice base sLen sCap) w := by
  have hc := hs.cells
  rcases hs.kind with ⟨e', hk⟩ | hk <;> cases base <;> simp [Builtin.append_, run_underlying ht, run_underlying hk, sizeOf, typeInfo, hi, hs.len, hcap, hc, storeCells]

/-- A row without a place. -/
def G.noRow (g : G) (id N : Nat) : G := { g with row := fun i => if i = id then some (none, N) else g.row i }
theorem HSim.noRow (h : HSim b σ D g w) {id N sz : Nat} {t : TypeId} (hid : g.row id = none) : HSim b (upd σ (.row id) (.row t sz N)) (fun i => D i ∨ i = id) (g.noRow id N) w ∧ Ev g w (g.noRow id N) w := by
  have e0 : ∀ id', (upd σ (.row id) (.row t sz N)) (.blk id') = σ (.blk id') := fun id' => upd_ne (by intro e; cases e)
  have e1 : (upd σ (.row id) (.row t sz N)) (.row id) = .row t sz N := upd_same _ _ _
  have e2 : ∀ id', id' ≠ id → (upd σ (.row id) (.row t sz N)) (.row id') = σ (.row id') := fun id' hne => upd_ne (by intro e; cases e; exact hne rfl)
  have g1 : (g.noRow id N).row id = some (none, N) := by simp [G.noRow]
  have g2 : ∀ i, i ≠ id → (g.noRow id N).row i = g.row i := fun i hi => by simp [G.noRow, hi]
  have hE : Ev g w (g.noRow id N) w := ⟨⟨fun k o hk => ⟨hk, rfl⟩, fun i c hc => ⟨hc, rfl⟩, fun i bk M hi => by
    have hne : i ≠ id := fun e => by rw [e, hid] at hi; cases hi
    exact ⟨bk, M, by rw [g2 i hne]; exact hi, Nat.le_refl _, fun _ => ⟨rfl, fun _ _ => rfl⟩⟩, fun i k M hi => by
    by_cases hne : i = id
    · subst hne; rw [g1] at hi; cases hi
    · rw [g2 i hne] at hi; exact .inl ⟨M, hi⟩⟩, Nat.le_refl _, Nat.le_refl _, fun _ _ h => h⟩
  refine ⟨HSim.of_claims h.below h.flt h.f0 h.f1 (fun i c hc => .inl (h.ownlt i c hc)) (fun i x hx => ?_) h.ownsz (fun i k N' hk => ?_) (fun i hl => h.live i (by rw [← e0]; exact hl)) (fun i k hl hk => ?_) (fun i j k hi hj => h.inj i j k (by rw [← e0]; exact hi) (by rw [← e0]; exact hj)) (fun i Y k hs hk => h.ro i Y k (by rw [← e0]; exact hs) hk) (fun i t' sz' N' hs => ?_), hE⟩
  · by_cases hi : i = id
    · exact .inr hi
    · rw [g2 i hi] at hx; exact .inl (h.rowlt i x hx)
  · by_cases hi : i = id
    · subst hi; rw [g1] at hk; cases hk
    · rw [g2 i hi] at hk; exact h.rowsz i k N' hk
  · rw [e0] at hl ⊢
    exact (h.claim hk).mono hE rfl
  · by_cases hi : i = id
    · subst hi
      rw [e1] at hs; cases hs
      exact ⟨none, g1, fun c hc => by cases hc⟩
    · rw [e2 i hi] at hs
      obtain ⟨bk, h1, h2⟩ := h.row i t' sz' N' hs
      refine ⟨bk, by rw [g2 i hi]; exact h1, fun k hk => ?_⟩
      obtain ⟨b1, b2, b3, b4, b5, b6⟩ := h2 k hk
      refine ⟨b1, b2, b3, fun j hl => b4 j (by rw [← e0]; exact hl), fun j t'' sz'' M M' hj hr => ?_, b6⟩
      by_cases hji : j = id
      · subst hji; rw [g1] at hr; cases hr
      · rw [e2 j hji] at hj
        rw [g2 j hji] at hr
        exact b5 j t'' sz'' M M' hj hr

/-- A NEW ROW is made, of what there was and what is appended. -/
theorem append_grow (hT : TOk P T) (h : HSim b σ D g w) {t tx ty e : TypeId} {n0 b0 : Nat} {z0 : List V} (hr : nthT T t = some ⟨.slice e, n0, b0, z0⟩) {r : TRow} (he : nthT T e = some r) {id : Nat} {els news : List (List V)} {nv : List Value} {xv : Value} {ad : Option Addr} {c : Nat}
    (ho : ∀ bk M, g.row id = some (bk, M) → M < els.length + news.length) (hn : News P w g.F r.size tx xv news nv) (hfit : Fits (els.length + news.length) r.bytes) (hgt : c < els.length + news.length)
    {olds : List Value} (hol : olds.length = els.length * r.size) (hoc : ∀ w', w'.heap = w.heap → (Builtin.firstCells r.size els.length (.slice ad els.length c)).run P w' = .ok olds.toArray w') (hes : ∀ el ∈ els, el.length = r.size)
    (hor : ∀ (i : Nat) (x : V) (v : Value), els.flatten[i]? = some x → olds[i]? = some v → PRep w g.F x v) (hoo : ∀ u ∈ olds, u.oneCell' = true) :
    ∃ val w' g', (Builtin.append_ #[t, tx] ty #[.slice ad els.length c, xv]).run P w = .ok val w' ∧ Rep w' g' (.lst false r.size (els ++ news) (.brow id)) val ∧ HSim b (upd σ (.row id) (.row e r.size (els.length + news.length))) (fun i => D i ∨ i = id) g' w' ∧ Ev g w g' w' := by
  obtain ⟨i, zv, q1, q2, q3, q3', q4, q5, q6, _⟩ := TRow.zero_rep hT he
  have hrow := (hT t _ hr).1
  simp only at hrow
  obtain ⟨hf1, hf2⟩ := hfit
  have hsrc := hn.src
  rw [← q3] at hsrc
  have hrun := run_append_grow_src (P := P) w t tx ty e i zv hrow q1 q2 ad els.length c olds (by rw [q3]; exact hoc w.drew rfl) xv news.length nv hsrc hgt (by omega) (growslice_fits hgt (by rw [q3']; omega))
  have hge := grownCap_ge w (els.length + news.length) c e
  generalize grownCap w (els.length + news.length) c e = cap at hrun hge
  have hnl : nv.length = news.length * r.size := by rw [hsrc.newsLen, q3]
  have hzl := zeroCells_len zv.cells (cap - (els.length + news.length)) r.size q4
  have harr : ((olds ++ nv).toArray ++ Builtin.zeroCells zv.cells (cap - (els.length + news.length))) = (olds ++ nv ++ (Builtin.zeroCells zv.cells (cap - (els.length + news.length))).toList).toArray := by
    apply Array.toList_inj.1; simp
  rw [harr] at hrun
  have hall : (olds ++ nv ++ (Builtin.zeroCells zv.cells (cap - (els.length + news.length))).toList).length = cap * r.size := by
    rw [List.length_append, List.length_append, hol, hnl, hzl, ← Nat.add_mul, ← Nat.add_mul]
    congr 1; omega
  have hb : Below w.heap.size w (w.drew.alloc (.cells (olds ++ nv ++ (Builtin.zeroCells zv.cells (cap - (els.length + news.length))).toList).toArray e)) := ((Below.refl _ w).drew).alloc (Nat.le_refl _) _
  obtain ⟨h1, e1⟩ := h.grow0 hb
  have hfl : (els ++ news).flatten = els.flatten ++ news.flatten := by simp
  have hle := flat_len r.size els hes
  have hln := flat_len r.size news hn.szs
  have hget : ∀ (j : Nat) (x : V) (v : Value), (els ++ news).flatten[j]? = some x → (olds ++ nv ++ (Builtin.zeroCells zv.cells (cap - (els.length + news.length))).toList)[j]? = some v →
      (els.flatten[j]? = some x ∧ olds[j]? = some v) ∨ (news.flatten[j - olds.length]? = some x ∧ nv[j - olds.length]? = some v) := by
    intro j x v hx hv
    have hj : j < (els ++ news).flatten.length := (List.getElem?_eq_some_iff.1 hx).1
    rw [hfl, List.length_append, hle, hln] at hj
    rw [hfl] at hx
    rw [List.getElem?_append_left (by rw [List.length_append, hol, hnl]; exact hj)] at hv
    by_cases hjo : j < els.length * r.size
    · rw [List.getElem?_append_left (by rw [hle]; exact hjo)] at hx
      rw [List.getElem?_append_left (by rw [hol]; exact hjo)] at hv
      exact .inl ⟨hx, hv⟩
    · rw [List.getElem?_append_right (by rw [hle]; omega), hle] at hx
      rw [List.getElem?_append_right (by rw [hol]; omega)] at hv
      exact .inr ⟨by rw [hol]; exact hx, hv⟩
  obtain ⟨k1, k2, k3⟩ := h1.rowDone (id := id) (c := w.heap.size) (sz := r.size) (N := els.length + news.length) (cap := cap) (t := e) (z := (0, 0)) (els := els ++ news) (by simp) ho (.inr fun o hF => absurd (h.flt _ _ hF) (Nat.lt_irrefl _)) (.inl h.below.size) (by show w.heap.size < (w.drew.alloc _).heap.size; simp)
    (fun o hF => absurd (h.flt _ _ hF) (Nat.lt_irrefl _)) (fun id' hl hc => absurd (h.ownsz _ _ hc) (Nat.lt_irrefl _)) (fun id' t sz N N' _ _ hc => absurd (h.rowsz _ _ _ hc) (Nat.lt_irrefl _)) (heap_alloc_new w.drew _) (fun o _ => by simp only; omega) hall hge
    (fun el hel => by rcases List.mem_append.1 hel with h' | h'; exact hes el h'; exact hn.szs el h')
    (fun j x v hx hv => by
      rcases hget j x v hx hv with ⟨_, h'⟩ | ⟨_, h'⟩
      · exact hoo v (List.mem_of_getElem? h')
      · exact hsrc.one v (List.mem_of_getElem? h'))
    (fun j x v hx hv => by
      rcases hget j x v hx hv with ⟨h', h''⟩ | ⟨h', h''⟩
      · exact (hor j x v h' h'').mono e1.F
      · exact (hn.rep _ x v h' h'').mono e1.F)
  exact ⟨_, _, _, hrun, k3, k1, e1.trans k2⟩
end Go.Am

namespace Go.Am
open Go.RowKit

variable {P : Program} {T : Tab} {b : Base P} {σ : St} {D : Nat → Prop} {g : G} {a : Act} {w : World}

theorem firstCells_of (P : Program) {sz n c : Nat} {ad : Option Addr} {vs : List Value} (hl : vs.length = n * sz) (hc : 0 < n * sz → ∃ blk base, ad = some ⟨blk, base, none⟩ ∧ ∀ i v, vs[i]? = some v → w.cell? ⟨blk, base + i, none⟩ = some v) (w' : World) (hw : w'.heap = w.heap) :
    (Builtin.firstCells sz n (.slice ad n c)).run P w' = .ok vs.toArray w' := by
  have hcell : ∀ p, w'.cell? p = w.cell? p := fun p => by unfold World.cell?; rw [hw]
  cases ad with
  | none =>
    have h0 : n * sz = 0 := by
      rcases Nat.eq_zero_or_pos (n * sz) with h0 | h0
      · exact h0
      · obtain ⟨_, _, e, _⟩ := hc h0; cases e
    have hv : vs = [] := List.eq_nil_of_length_eq_zero (by rw [hl, h0])
    subst hv
    simp [Builtin.firstCells]
  | some ad =>
    refine run_firstCells_some (P := P) w' sz n ad n c vs hl (fun j v hj => ?_)
    have : j < vs.length := (List.getElem?_eq_some_iff.1 hj).1
    obtain ⟨blk, base, e, hcc⟩ := hc (by omega)
    cases e
    rw [addr_add0, hcell]
    exact hcc j v hj

theorem News.nil {F : Nat → Nat → Prop} {sz : Nat} {tx : TypeId} {xv : Value} {nv : List Value} (h : News P w F sz tx xv [] nv) : nv = [] := by
  have := h.src.newsLen
  simpa using this

theorem appendLst_did (hT : TOk P T) (h : HSim b σ D g w) {f : Nat} (_hf1 : g.own f = none) (hf2 : g.row f = none) {t tx ty e : TypeId} {n0 b0 : Nat} {z0 : List V} (hr : nthT T t = some ⟨.slice e, n0, b0, z0⟩) {r : TRow} (he : nthT T e = some r) {isNil : Bool} {els news : List (List V)} {tk : Tok}
    {nv : List Value} {xv sv : Value} (hs : Rep w g (.lst isNil r.size els tk) sv) (hn : News P w g.F r.size tx xv news nv) {v : V} {us : List (Loc × C)} (hg : (appendLst σ f e r.size r.bytes isNil tk news els).Gives v us) :
    ∃ val w' g', (Builtin.append_ #[t, tx] ty #[sv, xv]).run P w = .ok val w' ∧ Rep w' g' v val ∧ HSim b (updAll σ us) (fun i => D i ∨ i = f) g' w' ∧ Ev g w g' w' := by
  obtain ⟨i, zv, q1, q2, q3, q3', q4, q5, q6, _⟩ := TRow.zero_rep hT he
  have hrow := (hT t _ hr).1
  simp only at hrow
  obtain ⟨ad, c, rfl, hp, ht⟩ := hs.lst_inv
  obtain ⟨olds, o1, o2, o3, o4, o5, o6, o7⟩ := hp.cells
  have hoc : ∀ w', w'.heap = w.heap → (Builtin.firstCells r.size els.length (.slice ad els.length c)).run P w' = .ok olds.toArray w' := fun w' hw => firstCells_of P o1 (fun h0 => by
    obtain ⟨blk, base, e1, e2⟩ := o7 h0
    exact ⟨blk, base, e1, fun i v hv => (e2 i v hv).2⟩) w' hw
  -- nothing is appended
  have zero : news = [] → (Builtin.append_ #[t, tx] ty #[.slice ad els.length c, xv]).run P w = .ok (.slice ad els.length c) w := fun e0 => by
    subst e0
    have hs := hn.src
    rw [hn.nil, ← q3] at hs
    exact run_append_zero hrow q1 ad els.length c o3 xv hs
  have notnil : news ≠ [] → (isNil && news.isEmpty) = false := fun h0 => by cases news with
    | nil => exact absurd rfl h0
    | cons x y => simp
  unfold appendLst at hg
  cases tk with
  | none => exact hg.elim
  | tight =>
    simp only at hg
    obtain ⟨hfit, e1, e2⟩ := hg
    subst e1 e2
    have hc : c = els.length := ht
    by_cases h0 : news = []
    · subst h0
      obtain ⟨k1, k2⟩ := h.noRow (id := f) (N := els.length + 0) (sz := r.size) (t := e) hf2
      refine ⟨_, w, _, zero rfl, ?_, k1, k2⟩
      simp only [List.isEmpty_nil, Bool.and_true, List.append_nil]
      refine .lst (hp.mono k2.F) ⟨none, els.length + 0, by simp [G.noRow], by simp, fun _ => .inl hc⟩
    · have hpos : 0 < news.length := List.length_pos_iff.2 h0
      obtain ⟨val, w', g', k1, k2, k3, k4⟩ := append_grow (ty := ty) hT h hr he (id := f) (els := els) (fun bk M hM => by rw [hf2] at hM; cases hM) hn hfit (by omega) o1 hoc o4 o5 o6
      refine ⟨val, w', g', k1, ?_, k3, k4⟩
      rw [notnil h0]
      exact k2.unb
  | row id =>
    simp only at hg
    cases hrw : σ (.row id) with
    | row e' sz'' N =>
      simp only [hrw] at hg
      cases hb1 : Nat.beq sz'' r.size with
      | false => simp only [hb1] at hg; exact hg.elim
      | true =>
        cases hb2 : Nat.beq e' e with
        | false => simp only [hb1, hb2] at hg; exact hg.elim
        | true =>
          simp only [hb1, hb2] at hg
          have ea := Nat.eq_of_beq_eq_true hb1
          have eb := Nat.eq_of_beq_eq_true hb2
          subst ea eb
          obtain ⟨⟨hN, hfit⟩, e1, e2⟩ := hg
          subst e1 e2 hN
          obtain ⟨bk, hbk, hrowc⟩ := h.row id e' r.size els.length hrw
          by_cases h0 : news = []
          · subst h0
            refine ⟨_, w, g, zero rfl, ?_, (h.congr (fun id' => ?_) (fun id' => ?_)).widen (fun _ hi => .inl hi), Ev.refl g w⟩
            · simp only [List.isEmpty_nil, Bool.and_true, List.append_nil]
              exact .lst hp ht
            · simp only [updAll]
              exact upd_ne (by intro e; cases e)
            · simp only [updAll]
              by_cases hid : id' = id
              · subst hid
                rw [upd_same, hrw]
                rfl
              · exact upd_ne (by intro e; cases e; exact hid rfl)
          · have hpos : 0 < news.length := List.length_pos_iff.2 h0
            by_cases hroom : els.length + news.length ≤ c
            · obtain ⟨bk', N', t1, t2, t3⟩ := ht
              rw [hbk] at t1; cases t1
              rcases t3 rfl with t4 | ⟨bl, tt, rfl, rfl, hshape⟩
              · omega
              · obtain ⟨a1, a2, a3, a4, a5, arr, z, a6, a7⟩ := hrowc bl rfl
                have hal : arr.length = c * r.size := by
                  unfold World.shape? at hshape
                  rw [a6] at hshape
                  simp at hshape
                  exact hshape.2
                have hnl : nv.length = news.length * r.size := hn.src.newsLen
                have hsrc := hn.src
                rw [← q3] at hsrc
                have hle : els.length * r.size + nv.length ≤ arr.length := by rw [hnl, hal, ← Nat.add_mul]; exact Nat.mul_le_mul_right _ hroom
                obtain ⟨s1, s2, s3, s4⟩ := setCells_of_store bl (els.length * r.size) nv a6 hle a7 hn.src.one
                have hrun := run_append_room_src (P := P) w t tx ty e' i hrow q1 bl 0 els.length c xv news.length nv hsrc hroom (by rw [Nat.zero_add, q3]; exact s3) (by rw [Nat.zero_add, q3]; exact s4)
                rw [Nat.zero_add, q3] at hrun
                obtain ⟨h1, e1⟩ := h.writeRow hrw hbk s1 (fun o ho => by
                  rw [cell_row s2, cell_row a6, List.append_assoc, List.getElem?_append_left (by simp; omega), List.getElem?_take, if_pos ho]) ⟨_, z, s2, fun o ho => a7 o (by simp at ho; omega)⟩
                have hfl : (els ++ news).flatten = els.flatten ++ news.flatten := by simp
                have hlen := flat_len r.size els o4
                have hln := flat_len r.size news hn.szs
                -- what the cells were
                have hold : ∀ (j : Nat) (x : V) (v : Value), els.flatten[j]? = some x → arr[j]? = some v → olds[j]? = some v := by
                  intro j x v hx hv
                  have hj : j < els.length * r.size := by have := (List.getElem?_eq_some_iff.1 hx).1; omega
                  have hj' : j < olds.length := by omega
                  obtain ⟨blk, base, e, hcc⟩ := o7 (by omega)
                  cases e
                  have := (hcc j _ (List.getElem?_eq_getElem hj')).2
                  rw [Nat.zero_add, cell_row a6, hv] at this
                  cases this
                  exact List.getElem?_eq_getElem hj'
                have hget : ∀ (j : Nat) (x : V) (v : Value), (els ++ news).flatten[j]? = some x → (arr.take (els.length * r.size) ++ nv ++ arr.drop (els.length * r.size + nv.length))[j]? = some v →
                    (els.flatten[j]? = some x ∧ olds[j]? = some v) ∨ (news.flatten[j - els.length * r.size]? = some x ∧ nv[j - els.length * r.size]? = some v) := by
                  intro j x v hx hv
                  have hj : j < (els ++ news).flatten.length := (List.getElem?_eq_some_iff.1 hx).1
                  rw [hfl, List.length_append, hlen, hln] at hj
                  rw [hfl] at hx
                  have mn : min (els.length * r.size) arr.length = els.length * r.size := by omega
                  rw [List.getElem?_append_left (by rw [List.length_append, List.length_take, mn, hnl]; exact hj)] at hv
                  by_cases hjo : j < els.length * r.size
                  · rw [List.getElem?_append_left (by rw [hlen]; exact hjo)] at hx
                    rw [List.getElem?_append_left (by rw [List.length_take, mn]; exact hjo), List.getElem?_take, if_pos hjo] at hv
                    exact .inl ⟨hx, hold j x v hx hv⟩
                  · rw [List.getElem?_append_right (by rw [hlen]; omega), hlen] at hx
                    rw [List.getElem?_append_right (by rw [List.length_take, mn]; omega), List.length_take, mn] at hv
                    exact .inr ⟨hx, hv⟩
                obtain ⟨k1, k2, k3⟩ := h1.rowDone (id := id) (c := bl) (sz := r.size) (N := els.length + news.length) (cap := c) (t := e') (z := z) (els := els ++ news) (by simp) (fun bk M hM => by rw [hbk] at hM; cases hM; omega) (.inl ⟨_, hbk⟩) a1 (by rw [s1.size]; exact a2)
                  (fun o ho => by have := a3 o ho; rw [Nat.add_mul]; omega) a4 (fun id' t' sz' N' N'' hne hs' hc' => hne (a5 id' t' sz' N' N'' hs' hc')) s2 (fun o ho => a7 o (by simp at ho; omega)) (by simp; omega) hroom
                  (fun el hel => by rcases List.mem_append.1 hel with h' | h'; exact o4 el h'; exact hn.szs el h')
                  (fun j x v hx hv => by
                    rcases hget j x v hx hv with ⟨_, h'⟩ | ⟨_, h'⟩
                    · exact o6 v (List.mem_of_getElem? h')
                    · exact hn.src.one v (List.mem_of_getElem? h'))
                  (fun j x v hx hv => by
                    rcases hget j x v hx hv with ⟨h', h''⟩ | ⟨h', h''⟩
                    · exact (o5 j x v h' h'').mono e1.F
                    · exact (hn.rep _ x v h' h'').mono e1.F)
                refine ⟨_, _, _, hrun, ?_, k1.widen (fun i hi => ?_), e1.trans k2⟩
                · rw [notnil h0]; exact k3.unb
                · rcases hi with hi | rfl
                  · exact .inl hi
                  · exact .inl (h.rowlt _ _ hbk)
            · obtain ⟨val, w', g', k1, k2, k3, k4⟩ := append_grow (ty := ty) hT h hr he (id := id) (els := els) (fun bk' M hM => by rw [hbk] at hM; cases hM; omega) hn hfit (by omega) o1 hoc o4 o5 o6
              refine ⟨val, w', g', k1, ?_, k3.widen (fun i hi => ?_), k4⟩
              · rw [notnil h0]
                exact k2.unb
              · rcases hi with hi | rfl
                · exact .inl hi
                · exact .inl (h.rowlt _ _ hbk)
    | _ => simp only [hrw] at hg; exact hg.elim
  | brow id =>
    simp only at hg
    cases hrw : σ (.row id) with
    | row e' sz'' N =>
      simp only [hrw] at hg
      cases hb1 : Nat.beq sz'' r.size with
      | false => simp only [hb1] at hg; exact hg.elim
      | true =>
        cases hb2 : Nat.beq e' e with
        | false => simp only [hb1, hb2] at hg; exact hg.elim
        | true =>
          simp only [hb1, hb2] at hg
          have ea := Nat.eq_of_beq_eq_true hb1
          have eb := Nat.eq_of_beq_eq_true hb2
          subst ea eb
          obtain ⟨⟨hN, hfit⟩, e1, e2⟩ := hg
          subst e1 e2 hN
          obtain ⟨bk, hbk, hrowc⟩ := h.row id e' r.size els.length hrw
          by_cases h0 : news = []
          · subst h0
            refine ⟨_, w, g, zero rfl, ?_, (h.congr (fun id' => ?_) (fun id' => ?_)).widen (fun _ hi => .inl hi), Ev.refl g w⟩
            · simp only [List.isEmpty_nil, Bool.and_true, List.append_nil]
              exact .lst hp ht
            · simp only [updAll]
              exact upd_ne (by intro e; cases e)
            · simp only [updAll]
              by_cases hid : id' = id
              · subst hid
                rw [upd_same, hrw]
                rfl
              · exact upd_ne (by intro e; cases e; exact hid rfl)
          · have hpos : 0 < news.length := List.length_pos_iff.2 h0
            by_cases hroom : els.length + news.length ≤ c
            · obtain ⟨bk', N', t1, t2, t3⟩ := ht
              rw [hbk] at t1; cases t1
              rcases t3 rfl with ⟨t4, _⟩ | ⟨bl, tt, rfl, rfl, hshape⟩
              · omega
              · obtain ⟨a1, a2, a3, a4, a5, arr, z, a6, a7⟩ := hrowc bl rfl
                have hal : arr.length = c * r.size := by
                  unfold World.shape? at hshape
                  rw [a6] at hshape
                  simp at hshape
                  exact hshape.2
                have hnl : nv.length = news.length * r.size := hn.src.newsLen
                have hsrc := hn.src
                rw [← q3] at hsrc
                have hle : els.length * r.size + nv.length ≤ arr.length := by rw [hnl, hal, ← Nat.add_mul]; exact Nat.mul_le_mul_right _ hroom
                obtain ⟨s1, s2, s3, s4⟩ := setCells_of_store bl (els.length * r.size) nv a6 hle a7 hn.src.one
                have hrun := run_append_room_src (P := P) w t tx ty e' i hrow q1 bl 0 els.length c xv news.length nv hsrc hroom (by rw [Nat.zero_add, q3]; exact s3) (by rw [Nat.zero_add, q3]; exact s4)
                rw [Nat.zero_add, q3] at hrun
                obtain ⟨h1, e1⟩ := h.writeRow hrw hbk s1 (fun o ho => by
                  rw [cell_row s2, cell_row a6, List.append_assoc, List.getElem?_append_left (by simp; omega), List.getElem?_take, if_pos ho]) ⟨_, z, s2, fun o ho => a7 o (by simp at ho; omega)⟩
                have hfl : (els ++ news).flatten = els.flatten ++ news.flatten := by simp
                have hlen := flat_len r.size els o4
                have hln := flat_len r.size news hn.szs
                -- what the cells were
                have hold : ∀ (j : Nat) (x : V) (v : Value), els.flatten[j]? = some x → arr[j]? = some v → olds[j]? = some v := by
                  intro j x v hx hv
                  have hj : j < els.length * r.size := by have := (List.getElem?_eq_some_iff.1 hx).1; omega
                  have hj' : j < olds.length := by omega
                  obtain ⟨blk, base, e, hcc⟩ := o7 (by omega)
                  cases e
                  have := (hcc j _ (List.getElem?_eq_getElem hj')).2
                  rw [Nat.zero_add, cell_row a6, hv] at this
                  cases this
                  exact List.getElem?_eq_getElem hj'
                have hget : ∀ (j : Nat) (x : V) (v : Value), (els ++ news).flatten[j]? = some x → (arr.take (els.length * r.size) ++ nv ++ arr.drop (els.length * r.size + nv.length))[j]? = some v →
                    (els.flatten[j]? = some x ∧ olds[j]? = some v) ∨ (news.flatten[j - els.length * r.size]? = some x ∧ nv[j - els.length * r.size]? = some v) := by
                  intro j x v hx hv
                  have hj : j < (els ++ news).flatten.length := (List.getElem?_eq_some_iff.1 hx).1
                  rw [hfl, List.length_append, hlen, hln] at hj
                  rw [hfl] at hx
                  have mn : min (els.length * r.size) arr.length = els.length * r.size := by omega
                  rw [List.getElem?_append_left (by rw [List.length_append, List.length_take, mn, hnl]; exact hj)] at hv
                  by_cases hjo : j < els.length * r.size
                  · rw [List.getElem?_append_left (by rw [hlen]; exact hjo)] at hx
                    rw [List.getElem?_append_left (by rw [List.length_take, mn]; exact hjo), List.getElem?_take, if_pos hjo] at hv
                    exact .inl ⟨hx, hold j x v hx hv⟩
                  · rw [List.getElem?_append_right (by rw [hlen]; omega), hlen] at hx
                    rw [List.getElem?_append_right (by rw [List.length_take, mn]; omega), List.length_take, mn] at hv
                    exact .inr ⟨hx, hv⟩
                obtain ⟨k1, k2, k3⟩ := h1.rowDone (id := id) (c := bl) (sz := r.size) (N := els.length + news.length) (cap := c) (t := e') (z := z) (els := els ++ news) (by simp) (fun bk M hM => by rw [hbk] at hM; cases hM; omega) (.inl ⟨_, hbk⟩) a1 (by rw [s1.size]; exact a2)
                  (fun o ho => by have := a3 o ho; rw [Nat.add_mul]; omega) a4 (fun id' t' sz' N' N'' hne hs' hc' => hne (a5 id' t' sz' N' N'' hs' hc')) s2 (fun o ho => a7 o (by simp at ho; omega)) (by simp; omega) hroom
                  (fun el hel => by rcases List.mem_append.1 hel with h' | h'; exact o4 el h'; exact hn.szs el h')
                  (fun j x v hx hv => by
                    rcases hget j x v hx hv with ⟨_, h'⟩ | ⟨_, h'⟩
                    · exact o6 v (List.mem_of_getElem? h')
                    · exact hn.src.one v (List.mem_of_getElem? h'))
                  (fun j x v hx hv => by
                    rcases hget j x v hx hv with ⟨h', h''⟩ | ⟨h', h''⟩
                    · exact (o5 j x v h' h'').mono e1.F
                    · exact (hn.rep _ x v h' h'').mono e1.F)
                refine ⟨_, _, _, hrun, ?_, k1.widen (fun i hi => ?_), e1.trans k2⟩
                · rw [notnil h0]; exact k3
                · rcases hi with hi | rfl
                  · exact .inl hi
                  · exact .inl (h.rowlt _ _ hbk)
            · obtain ⟨val, w', g', k1, k2, k3, k4⟩ := append_grow (ty := ty) hT h hr he (id := id) (els := els) (fun bk' M hM => by rw [hbk] at hM; cases hM; omega) hn hfit (by omega) o1 hoc o4 o5 o6
              refine ⟨val, w', g', k1, ?_, k3.widen (fun i hi => ?_), k4⟩
              · rw [notnil h0]
                exact k2
              · rcases hi with hi | rfl
                · exact .inl hi
                · exact .inl (h.rowlt _ _ hbk)
    | _ => simp only [hrw] at hg; exact hg.elim
end Go.Am

namespace Go.Am
open Go.RowKit

variable {P : Program} {T : Tab} {b : Base P} {σ : St} {D : Nat → Prop} {g : G} {a : Act} {w : World}

theorem HSim.dropBlk (h : HSim b σ D g w) (id : Nat) : HSim b (upd σ (.blk id) .none) D g w := h.drop _

/-- append onto a block of the call's own, that is a row from now on. -/
theorem appendOwn_did (hT : TOk P T) (h : HSim b σ D g w) {f : Nat} (_hf1 : g.own f = none) (hf2 : g.row f = none) {t tx ty e : TypeId} {n0 b0 : Nat} {z0 : List V} (hr : nthT T t = some ⟨.slice e, n0, b0, z0⟩) {r : TRow} (he : nthT T e = some r)
    {id len : Nat} {els news : List (List V)} {nv : List Value} {xv sv : Value} (hs : Rep w g (.own id 0 r.size len true) sv) (hn : News P w g.F r.size tx xv news nv) (hbk : σ (.blk id) = .mem e els.flatten) (hlen : els.length = len) (hes : ∀ el ∈ els, el.length = r.size)
    (hpu : oneAll els.flatten = true) (hfit : Fits (els.length + news.length) r.bytes) :
    ∃ val w' g', (Builtin.append_ #[t, tx] ty #[sv, xv]).run P w = .ok val w' ∧ Rep w' g' (.lst false r.size (els ++ news) (.row f)) val ∧
      HSim b (upd (upd σ (.blk id) .none) (.row f) (.row e r.size (els.length + news.length))) (fun i => D i ∨ i = f) g' w' ∧ Ev g w g' w' := by
  obtain ⟨i, zv, q1, q2, q3, q3', q4, q5, q6, _⟩ := TRow.zero_rep hT he
  have hrow := (hT t _ hr).1
  simp only at hrow
  obtain ⟨c, cap, ad, p1, rfl, p3, p4, p5, p6⟩ := hs.own_inv
  obtain ⟨_, rfl, tt, hshape⟩ := p6 rfl
  subst hlen
  obtain ⟨c', l1, l2, l3, l4⟩ := h.live id (by rw [hbk]; rfl)
  rw [p1] at l1; cases l1
  obtain ⟨arr, z, m1, m2, m3, m4⟩ := h.mem id e els.flatten c hbk p1
  have hal : arr.length = cap * r.size := by
    unfold World.shape? at hshape
    rw [m1] at hshape
    simp at hshape
    exact hshape.2
  have hfle := flat_len r.size els hes
  have hnl : nv.length = news.length * r.size := hn.src.newsLen
  have hsrc := hn.src
  rw [← q3] at hsrc
  have hfl : (els ++ news).flatten = els.flatten ++ news.flatten := by simp
  have hln := flat_len r.size news hn.szs
  have hold1 : ∀ (i : Nat) (x : V) (v : Value), els.flatten[i]? = some x → arr[i]? = some v → v.oneCell' = true := fun i x v hx hv => oneV_oneCell (.pure (m4 i x v hx hv)) (oneAll_get hpu i x hx)
  have hnid : ∀ id', ((upd σ (.blk id) .none) (.blk id')).isBlk = true → g.own id' ≠ some c := fun id' hl hc => by
    by_cases hid : id' = id
    · subst hid; rw [upd_same] at hl; cases hl
    · rw [upd_ne (by intro e; cases e; exact hid rfl)] at hl
      exact hid (h.inj id' id c hl (by rw [hbk]; rfl) hc p1)
  have hnrow : ∀ id' t sz N N', id' ≠ f → (upd σ (.blk id) .none) (.row id') = .row t sz N → g.row id' ≠ some (some c, N') := fun id' t sz N N' _ hs' hc => by
    rw [upd_ne (by intro e; cases e)] at hs'
    obtain ⟨bk, b1, b2⟩ := h.row id' t sz N hs'
    have hbb : bk = some c := by rw [hc] at b1; cases b1; rfl
    exact (b2 c hbb).2.2.2.1 id (by rw [hbk]; rfl) p1
  by_cases hroom : els.length + news.length ≤ cap
  · have hle : els.length * r.size + nv.length ≤ arr.length := by rw [hnl, hal, ← Nat.add_mul]; exact Nat.mul_le_mul_right _ hroom
    obtain ⟨s1, s2, s3, s4⟩ := setCells_of_store c (els.length * r.size) nv m1 hle m3 hn.src.one
    have hrun := run_append_room_src (P := P) w t tx ty e i hrow q1 c 0 els.length cap xv news.length nv hsrc hroom (by rw [Nat.zero_add, q3]; exact s3) (by rw [Nat.zero_add, q3]; exact s4)
    rw [Nat.zero_add, q3] at hrun
    obtain ⟨h1, e1⟩ := h.write (X := .none) (by rw [hbk]; rfl) p1 s1 (fun h => by cases h)
    have mn : min (els.length * r.size) arr.length = els.length * r.size := by omega
    have hget : ∀ (j : Nat) (x : V) (v : Value), (els ++ news).flatten[j]? = some x → (arr.take (els.length * r.size) ++ nv ++ arr.drop (els.length * r.size + nv.length))[j]? = some v →
        (els.flatten[j]? = some x ∧ arr[j]? = some v) ∨ (news.flatten[j - els.length * r.size]? = some x ∧ nv[j - els.length * r.size]? = some v) := by
      intro j x v hx hv
      have hj : j < (els ++ news).flatten.length := (List.getElem?_eq_some_iff.1 hx).1
      rw [hfl, List.length_append, hfle, hln] at hj
      rw [hfl] at hx
      rw [List.getElem?_append_left (by rw [List.length_append, List.length_take, mn, hnl]; exact hj)] at hv
      by_cases hjo : j < els.length * r.size
      · rw [List.getElem?_append_left (by rw [hfle]; exact hjo)] at hx
        rw [List.getElem?_append_left (by rw [List.length_take, mn]; exact hjo), List.getElem?_take, if_pos hjo] at hv
        exact .inl ⟨hx, hv⟩
      · rw [List.getElem?_append_right (by rw [hfle]; omega), hfle] at hx
        rw [List.getElem?_append_right (by rw [List.length_take, mn]; omega), List.length_take, mn] at hv
        exact .inr ⟨hx, hv⟩
    obtain ⟨k1, k2, k3⟩ := h1.rowDone (id := f) (c := c) (sz := r.size) (N := els.length + news.length) (cap := cap) (t := e) (z := z) (els := els ++ news) (by simp) (fun bk M hM => by rw [hf2] at hM; cases hM) (.inr l4) l2 (by rw [s1.size]; exact l3)
      (fun o ho => absurd ho (l4 o)) hnid hnrow s2 (fun o ho => m3 o (by simp at ho; omega)) (by simp; omega) hroom
      (fun el hel => by rcases List.mem_append.1 hel with h' | h'; exact hes el h'; exact hn.szs el h')
      (fun j x v hx hv => by
        rcases hget j x v hx hv with ⟨h', h''⟩ | ⟨_, h'⟩
        · exact hold1 j x v h' h''
        · exact hn.src.one v (List.mem_of_getElem? h'))
      (fun j x v hx hv => by
        rcases hget j x v hx hv with ⟨h', h''⟩ | ⟨h', h''⟩
        · exact (m4 j x v h' h'').mono e1.F
        · exact (hn.rep _ x v h' h'').mono e1.F)
    exact ⟨_, _, _, hrun, k3.unb, k1, e1.trans k2⟩
  · have hle2 : els.length * r.size ≤ arr.length := by rw [hal]; exact Nat.mul_le_mul_right _ p5
    obtain ⟨val, w', g', k1, k2, k3, k4⟩ := append_grow (ty := ty) (c := cap) (ad := some ⟨c, 0, none⟩) hT (h.drop (.blk id)) hr he (id := f) (els := els) (fun bk M hM => by rw [hf2] at hM; cases hM) hn hfit (by omega) (olds := arr.take (els.length * r.size)) (by rw [List.length_take]; omega)
      (fun w' hw => firstCells_of P (w := w) (by rw [List.length_take]; omega) (fun h0 => ⟨c, 0, rfl, fun i v hv => by
        rw [Nat.zero_add, cell_row m1]
        rw [List.getElem?_take] at hv
        split at hv
        · exact hv
        · cases hv⟩) w' hw) hes (fun i x v hx hv => by
        rw [List.getElem?_take] at hv
        split at hv
        · exact m4 i x v hx hv
        · cases hv) (fun u hu => by
        obtain ⟨i, hi, rfl⟩ := List.getElem_of_mem hu
        have hi2 : i < els.flatten.length := by rw [List.length_take] at hi; omega
        rw [List.getElem_take]
        exact hold1 i _ _ (List.getElem?_eq_getElem hi2) (List.getElem?_eq_getElem (by rw [List.length_take] at hi; omega)))
    exact ⟨val, w', g', k1, k2.unb, k3, k4⟩

theorem append_did (hT : TOk P T) (h : HSim b σ D g w) {f : Nat} (hf1 : g.own f = none) (hf2 : g.row f = none) {t tx ty : TypeId} {s x : V} {sv xv : Value} (hs : Rep w g s sv) (hx : Rep w g x xv) {v : V} {us : List (Loc × C)} (hg : (stepAppend σ T f t tx s x).Gives v us) :
    ∃ val w' g', (Builtin.append_ #[t, tx] ty #[sv, xv]).run P w = .ok val w' ∧ Rep w' g' v val ∧ HSim b (updAll σ us) (fun i => D i ∨ i = f) g' w' ∧ Ev g w g' w' := by
  simp only [stepAppend, trow] at hg
  cases hr : nthT T t with
  | none => simp only [hr] at hg; exact hg.elim
  | some r =>
    obtain ⟨ti, n0, b0, z0⟩ := r
    simp only [hr] at hg
    cases ti with
    | slice e =>
      simp only at hg
      cases he : nthT T e with
      | none => simp only [he] at hg; exact hg.elim
      | some r =>
        obtain ⟨tie, sz, bytes, ze⟩ := r
        simp only [he] at hg
        obtain ⟨news, nv, hn, hq⟩ := rowsOf_news hT h hx hg
        clear hg
        cases s with
        | lst isNil sz' els tk =>
          simp only at hq
          cases hb : Nat.beq sz' sz with
          | true =>
            simp only [hb] at hq
            have e0 := Nat.eq_of_beq_eq_true hb
            subst e0
            exact appendLst_did hT h hf1 hf2 hr he hs hn hq
          | false =>
            simp only [hb] at hq
            obtain ⟨e0, hq⟩ := hq
            subst e0
            refine appendLst_did hT h hf1 hf2 hr he (tk := tokTail tk) ?_ hn hq
            obtain ⟨ad, c, e1, e2, e3⟩ := hs.lst_inv
            rw [e1]
            refine .lst (els_nil e2) ?_
            cases tk with
            | none => trivial
            | tight => exact e3
            | row id => trivial
            | brow id => trivial
        | own id off sz' len full =>
          cases off with
          | succ off => exact hq.elim
          | zero =>
            cases full with
            | false => exact hq.elim
            | true =>
              simp only at hq
              cases hb : Nat.beq sz' sz with
              | false => simp only [hb] at hq; exact hq.elim
              | true =>
                simp only [hb] at hq
                have e0 := Nat.eq_of_beq_eq_true hb
                subst e0
                cases hbk : σ (.blk id) with
                | mem bt cells =>
                  simp only [hbk] at hq
                  cases hb2 : Nat.beq bt e with
                  | false => simp only [hb2] at hq; exact hq.elim
                  | true =>
                    simp only [hb2] at hq
                    have e0 := Nat.eq_of_beq_eq_true hb2
                    subst e0
                    obtain ⟨els, ⟨h1, h2, h3, h4, h5⟩, e1, e2⟩ := hq
                    subst e1 e2 h3
                    exact appendOwn_did hT h hf1 hf2 hr he hs hn hbk h1 h2 h4 h5
                | _ => simp only [hbk] at hq; exact hq.elim
        | _ => exact hq.elim
    | _ => exact hg.elim
end Go.Am
