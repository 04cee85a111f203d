/- A machine without addresses (part 3 of 3): the values and the runs of the model, kept apart from their places. No claim of its own. -/
import Derived.Test.YtipgfdepopfghaaGreatAm2
import Derived.MapKept
import Derived.Maps.RangeRun

namespace Go.Am
open Go.RowKit

variable {P : Program} {T : Tab} {b : Base P} {t : Top} {σ : St} {D : Nat → Prop} {g : G} {a : Act} {w : World}

/-- What is known is known by other names. -/
structure Turns (P : Program) (lo : Nat) (σ : St) (n : Nat) (σ' : St) (m : Nat) : Prop where
  run : ∀ (b : Base P) (t : Top) (nt : Nat) (a : Act) (w : World), t.n0 ≤ lo → Sim b t nt σ n a w → Sim b t nt σ' m a w
theorem Turns.weak {lo n m : Nat} {es : List (Loc × C)} (he : WeakL σ m es) (h0 : lo ≤ m) : Turns P lo σ n (ofL es) m := ⟨fun _ _ _ _ _ hl hs => hs.weak he (Nat.le_trans hl h0)⟩
theorem Turns.trans {lo n m k : Nat} {σ' σ'' : St} (h : Turns P lo σ n σ' m) (h' : Turns P lo σ' m σ'' k) : Turns P lo σ n σ'' k := ⟨fun b t nt a w hl hs => h'.run b t nt a w hl (h.run b t nt a w hl hs)⟩

/-- What a round leaves. -/
def roundT (P : Program) {X : Type} (st : X → List (Loc × C)) (lo m : Nat) (I : X → Prop) (μ : X → Nat) (x : X) (K : Exit → St → Nat → Prop) (e : Exit) (σ : St) (n : Nat) : Prop :=
  match e with
  | .normal => ∃ x', I x' ∧ μ x' < μ x ∧ Turns P lo σ n (ofL (st x')) m
  | e => K e σ n

theorem AW.loopT {X : Type} (st : X → List (Loc × C)) (m : Nat) (I : X → Prop) (μ : X → Nat) {r : Option Nat} {nt lo n : Nat} {c : Code} {K : Exit → St → Nat → Prop} (hm : lo ≤ m) (x0 : X) (h0 : I x0) (hw : WeakL σ m (st x0))
    (round : ∀ x, I x → AW P r nt lo c (ofL (st x)) m (roundT P st lo m I μ x K)) : AW P r nt lo (.loop c) σ n K := by
  refine ⟨fun b t a w hl hs bf k cs hro hfn hroom => ?_⟩
  have key : ∀ (q : Nat) (x : X), μ x = q → I x → ∀ (a : Act) (w : World), Sim b t nt (ofL (st x)) m a w →
      ∃ e a' w', (∃ σ' n', K e σ' n' ∧ Sim b t nt σ' n' a' w') ∧ ArrivesIn (Machine.fenced P (fen r)) P (lone (bf.atR a (.code c :: .inLoop c :: k)) cs w) bf k cs e a' w' := by
    intro q
    induction q using Nat.strongRecOn with
    | _ q ih =>
      intro x hq hI a w hs
      obtain ⟨e, a₁, w₁, ⟨σ', n', hk, hs'⟩, harr⟩ := (round x hI).run b t a w hl hs bf (.inLoop c :: k) cs hro hfn hroom
      cases e with
      | normal =>
        obtain ⟨x', hI', hlt, hw'⟩ := hk
        obtain ⟨e₂, a₂, w₂, hq₂, harr₂⟩ := ih (μ x') (hq ▸ hlt) x' rfl hI' a₁ w₁ (hw'.run b t nt a₁ w₁ hl hs')
        exact ⟨e₂, a₂, w₂, hq₂, .of_steps (StepsIn.trans harr (.one (fenced_calm hfn hroom rfl) stepR_inLoop)) harr₂⟩
      | exit id => exact ⟨_, a₁, w₁, ⟨σ', n', hk, hs'⟩, .pass (x := .inLoop c) rfl (fun _ _ => .inl (by simp)) harr⟩
      | goto l => exact ⟨_, a₁, w₁, ⟨σ', n', hk, hs'⟩, .pass (x := .inLoop c) rfl (fun _ _ => .inl (by simp)) harr⟩
      | ret => exact ⟨_, a₁, w₁, ⟨σ', n', hk, hs'⟩, .pass (x := .inLoop c) rfl (fun _ _ => .inl (by simp)) harr⟩
      | panic ch => exact ⟨_, a₁, w₁, ⟨σ', n', hk, hs'⟩, .pass (x := .inLoop c) rfl (fun _ _ => .inl (by simp)) harr⟩
      | outgrown => exact ⟨_, a₁, w₁, ⟨σ', n', hk, hs'⟩, .pass (x := .inLoop c) rfl (fun _ _ => .inl (by simp)) harr⟩
  obtain ⟨e, a', w', hq, harr⟩ := key _ x0 rfl h0 a w (hs.weak hw (Nat.le_trans hl hm))
  exact ⟨e, a', w', hq, .of_steps (.one (fenced_calm hfn hroom rfl) stepR_loop) harr⟩

/-- A row by another number. -/
def renK (i j : Nat) : Tok → Tok
  | .row k => match Nat.beq k i with | true => .row j | false => .row k
  | .brow k => match Nat.beq k i with | true => .brow j | false => .brow k
  | tk => tk
mutual
def renV (i j : Nat) : V → V
  | .lst n sz els tk => .lst n sz els (renK i j tk)
  | .agg cs => .agg (renL i j cs)
  | .tup cs => .tup (renL i j cs)
  | .func f fs cs => .func f (renL i j fs) (renL i j cs)
  | .iface t v => .iface t (renV i j v)
  | v => v
def renL (i j : Nat) : List V → List V
  | [] => []
  | x :: l => renV i j x :: renL i j l
end
def renC (i j : Nat) : C → C
  | .v x => .v (renV i j x)
  | .box t cells => .box t (renL i j cells)
  | c => c
def renS (i j : Nat) (σ : St) : St := fun l => match l with
  | .row k => match Nat.beq k j with
    | true => σ (.row i)
    | false => match Nat.beq k i with | true => .none | false => σ (.row k)
  | l => renC i j (σ l)
def noTok (j : Nat) : Tok → Bool
  | .row k => match Nat.beq k j with | true => false | false => true
  | .brow k => match Nat.beq k j with | true => false | false => true
  | _ => true
mutual
def noV (j : Nat) : V → Bool
  | .lst _ _ _ tk => noTok j tk
  | .agg cs => noL j cs
  | .tup cs => noL j cs
  | .func _ fs cs => match noL j fs with | true => noL j cs | false => false
  | .iface _ v => noV j v
  | _ => true
def noL (j : Nat) : List V → Bool
  | [] => true
  | x :: l => match noV j x with | true => noL j l | false => false
end
def noC (j : Nat) : C → Bool
  | .v x => noV j x
  | .box _ cells => noL j cells
  | .loop .. => false
  | _ => true
def noE (j : Nat) : List (Loc × C) → Bool
  | [] => true
  | (.row k, _) :: es => match Nat.beq k j with | true => false | false => noE j es
  | (_, c) :: es => match noC j c with | true => noE j es | false => false
theorem noL_get {j : Nat} : ∀ {l : List V}, noL j l = true → ∀ (i : Nat) (x : V), l[i]? = some x → noV j x = true
  | [], _, i, x, h => by simp at h
  | c :: cs, hc, i, x, h => by
    simp only [noL] at hc
    cases hx : noV j c with
    | false => simp [hx] at hc
    | true =>
      simp only [hx] at hc
      cases i with
      | zero => simp at h; subst h; exact hx
      | succ i => exact noL_get hc i x (by simpa using h)
theorem renL_len (i j : Nat) : ∀ (l : List V), (renL i j l).length = l.length
  | [] => rfl
  | _ :: l => by simp [renL, renL_len i j l]
theorem renL_get (i j : Nat) : ∀ {l : List V} {k : Nat} {y : V}, (renL i j l)[k]? = some y → ∃ x, l[k]? = some x ∧ y = renV i j x
  | [], k, y, h => by simp [renL] at h
  | c :: cs, k, y, h => by
    rw [renL] at h
    cases k with
    | zero => simp at h; exact ⟨c, rfl, h.symm⟩
    | succ k =>
      obtain ⟨x, h1, h2⟩ := renL_get i j (l := cs) (k := k) (by simpa using h)
      exact ⟨x, by simpa using h1, h2⟩
theorem PRep.ren {i j : Nat} {F : Nat → Nat → Prop} {x : V} {v : Value} (h : PRep w F x v) : PRep w F (renV i j x) v := by
  induction h with
  | int k n => exact .int k n
  | bool b => exact .bool b
  | tt => exact .tt
  | ff => exact .ff
  | str h => exact .str h
  | agg hl _ ih => exact .agg (by rw [renL_len]; exact hl) (fun k y v h1 h2 => by obtain ⟨x, q1, rfl⟩ := renL_get i j h1; exact ih k x v q1 h2)
  | tup hl _ ih => exact .tup (by rw [renL_len]; exact hl) (fun k y v h1 h2 => by obtain ⟨x, q1, rfl⟩ := renL_get i j h1; exact ih k x v q1 h2)
  | nilp => exact .nilp
  | lst vals hnil hc hsz ha hone h _ => exact .lst vals hnil hc hsz ha hone h
  | func f => exact .func f
  | nilf => exact .nilf
  | iface _ ih => exact .iface ih
  | nili => exact .nili
def G.ren (g : G) (i j : Nat) : G := { g with row := fun k => if k = j then g.row i else if k = i then none else g.row k }
theorem TokOk.ren {i j : Nat} {tk : Tok} {n sz : Nat} {ad : Option Addr} {c : Nat} (h : TokOk w g tk n sz ad c) (hn : noTok j tk = true) : TokOk w (g.ren i j) (renK i j tk) n sz ad c := by
  have key : ∀ k, (match Nat.beq k j with | true => false | false => true) = true → (g.ren i j).row (if k = i then j else k) = g.row k := fun k hk => by
    have hkj : k ≠ j := fun e => by subst e; simp at hk
    by_cases hki : k = i
    · subst hki; simp [G.ren]
    · simp [G.ren, hki, hkj]
  cases tk with
  | none => trivial
  | tight => exact h
  | row k =>
    obtain ⟨bk, N, h1, h2, h3⟩ := h
    have hk := key k hn
    simp only [renK]
    cases hb : Nat.beq k i with
    | true => rw [if_pos (Nat.eq_of_beq_eq_true hb)] at hk; exact ⟨bk, N, by rw [hk]; exact h1, h2, h3⟩
    | false => rw [if_neg (fun e => by rw [e] at hb; simp at hb)] at hk; exact ⟨bk, N, by rw [hk]; exact h1, h2, h3⟩
  | brow k =>
    obtain ⟨bk, N, h1, h2, h3⟩ := h
    have hk := key k hn
    simp only [renK]
    cases hb : Nat.beq k i with
    | true => rw [if_pos (Nat.eq_of_beq_eq_true hb)] at hk; exact ⟨bk, N, by rw [hk]; exact h1, h2, h3⟩
    | false => rw [if_neg (fun e => by rw [e] at hb; simp at hb)] at hk; exact ⟨bk, N, by rw [hk]; exact h1, h2, h3⟩
theorem Rep.ren {i j : Nat} {x : V} {v : Value} (h : Rep w g x v) (hn : noV j x = true) : Rep w (g.ren i j) (renV i j x) v := by
  induction h with
  | pure h => exact .pure h.ren
  | agg hl _ ih =>
    simp only [noV] at hn
    exact .agg (by rw [renL_len]; exact hl) (fun k y v h1 h2 => by obtain ⟨x, q1, rfl⟩ := renL_get i j h1; exact ih k x v q1 h2 (noL_get hn k x q1))
  | tup hl _ ih =>
    simp only [noV] at hn
    exact .tup (by rw [renL_len]; exact hl) (fun k y v h1 h2 => by obtain ⟨x, q1, rfl⟩ := renL_get i j h1; exact ih k x v q1 h2 (noL_get hn k x q1))
  | ptr h => exact .ptr h
  | lptr vals ha h => exact .lptr vals ha h
  | lst h ht => simp only [noV] at hn; exact .lst h (ht.ren hn)
  | own h ha hs hl hf => exact .own h ha hs hl hf
  | func hl hm _ _ ih1 ih2 =>
    simp only [noV] at hn
    rename_i fs cs _ _ _ _
    cases hfs : noL j fs with
    | false => simp [hfs] at hn
    | true =>
      simp only [hfs] at hn
      exact .func (by rw [renL_len]; exact hl) (by rw [renL_len]; exact hm) (fun k y v h1 h2 => by obtain ⟨x, q1, rfl⟩ := renL_get i j h1; exact ih1 k x v q1 h2 (noL_get hfs k x q1))
        (fun k y v h1 h2 => by obtain ⟨x, q1, rfl⟩ := renL_get i j h1; exact ih2 k x v q1 h2 (noL_get hn k x q1))
  | iface _ ih => simp only [noV] at hn; exact .iface (ih hn)
  | it h => exact .it h
  | yield h => exact .yield h
  | mp h => exact .mp h
  | junk => exact .junk
theorem noE_get {j : Nat} : ∀ {es : List (Loc × C)}, noE j es = true → (∀ l, (∀ k, l ≠ .row k) → noC j (ofL es l) = true) ∧ ofL es (.row j) = .none
  | [], _ => ⟨fun _ _ => rfl, rfl⟩
  | (l', c) :: es, h => by
    have step : noE j es = true ∧ ((∀ k, l' ≠ .row k) → noC j c = true) ∧ l' ≠ .row j := by
      cases l' with
      | row k =>
        simp only [noE] at h
        cases hb : Nat.beq k j with
        | true => simp [hb] at h
        | false => simp only [hb] at h; exact ⟨h, fun hk => absurd rfl (hk k), fun e => by cases e; simp at hb⟩
      | tmp k =>
        simp only [noE] at h
        cases hb : noC j c with
        | false => simp [hb] at h
        | true => simp only [hb] at h; exact ⟨h, fun _ => rfl, fun e => by cases e⟩
      | blk k =>
        simp only [noE] at h
        cases hb : noC j c with
        | false => simp [hb] at h
        | true => simp only [hb] at h; exact ⟨h, fun _ => rfl, fun e => by cases e⟩
    obtain ⟨h1, h2, h3⟩ := step
    obtain ⟨q1, q2⟩ := noE_get h1
    refine ⟨fun l hl => ?_, ?_⟩
    · by_cases e : l = l'
      · subst e; rw [ofL, upd_same]; exact h2 hl
      · rw [ofL, upd_ne e]; exact q1 l hl
    · rw [ofL, upd_ne (fun e => h3 e.symm)]; exact q2
/-- A row is told by another number. -/
theorem Turns.row {lo n : Nat} {es : List (Loc × C)} (i j : Nat) (hi : lo ≤ i) (hj : lo ≤ j) (hjn : j < n) (hij : i ≠ j) (hno : noE j es = true) : Turns P lo (ofL es) n (renS i j (ofL es)) n := by
  refine ⟨fun b t nt a w hl hs => ?_⟩
  obtain ⟨q1, q2⟩ := noE_get hno
  generalize ofL es = σ at *
  obtain ⟨g, h, hf, hE, hn⟩ := hs
  have eb : ∀ id, renS i j σ (.blk id) = renC i j (σ (.blk id)) := fun _ => rfl
  have ib : ∀ id, (renS i j σ (.blk id)).isBlk = (σ (.blk id)).isBlk := fun id => by rw [eb]; cases σ (.blk id) <;> rfl
  have er : ∀ id t sz N, renS i j σ (.row id) = .row t sz N → ∃ id', σ (.row id') = .row t sz N ∧ (id = j ∧ id' = i ∨ id ≠ j ∧ id ≠ i ∧ id' = id) ∧ (g.ren i j).row id = g.row id' := fun id t sz N hh => by
    simp only [renS] at hh
    cases hb : Nat.beq id j with
    | true =>
      simp only [hb] at hh
      have e := Nat.eq_of_beq_eq_true hb
      subst e
      exact ⟨i, hh, .inl ⟨rfl, rfl⟩, by simp [G.ren]⟩
    | false =>
      simp only [hb] at hh
      have e : id ≠ j := fun e => by rw [e] at hb; simp at hb
      cases hb2 : Nat.beq id i with
      | true => simp [hb2] at hh
      | false =>
        simp only [hb2] at hh
        have e2 : id ≠ i := fun e => by rw [e] at hb2; simp at hb2
        exact ⟨id, hh, .inr ⟨e, e2, rfl⟩, by simp [G.ren, e, e2]⟩
  refine ⟨g.ren i j, HSim.of_claims h.below h.flt h.f0 h.f1 h.ownlt (fun id c hc => ?_) h.ownsz (fun id c N hc => ?_) (fun id hl' => h.live id (by rw [← ib]; exact hl')) (fun id c hl' hc => ?_) (fun x y c hx hy => h.inj x y c (by rw [← ib]; exact hx) (by rw [← ib]; exact hy)) (fun id Y c hs hc => h.ro id Y c (by
      rw [eb] at hs
      revert hs
      cases σ (.blk id) <;> intro hs <;> first | exact hs | cases hs) hc) (fun id t' sz N hs' => ?_),
    ⟨hf.size, hf.defers, fun k hk => ?_⟩, ⟨⟨hE.F, hE.own, fun id bk N hr => ?_, fun id c N hr => ?_⟩, hE.size, hE.drawn, hE.dfr⟩, hn⟩
  · simp only [G.ren] at hc
    split at hc
    · omega
    · split at hc
      · cases hc
      · exact h.rowlt id c hc
  · simp only [G.ren] at hc
    split at hc
    · exact h.rowsz i c N hc
    · split at hc
      · cases hc
      · exact h.rowsz id c N hc
  · rw [eb]
    have hcl := h.claim (id := id) (c := c) hc
    have hno2 := q1 (.blk id) (fun k e => by cases e)
    cases hx : σ (.blk id) with
    | box t' cells =>
      rw [hx] at hcl hno2
      obtain ⟨arr, r1, r2, r3⟩ := hcl
      exact ⟨arr, r1, by rw [renL_len]; exact r2, fun k y v h1 h2 => by obtain ⟨x, u1, rfl⟩ := renL_get i j h1; exact (r3 k x v u1 h2).ren (noL_get hno2 k x u1)⟩
    | mem t' cells => rw [hx] at hcl; exact hcl
    | it s pos => rw [hx] at hcl; exact hcl
    | obj X => rw [hx] at hcl; cases X <;> exact hcl
    | loop st pend nt' tm ps assign body => rw [hx] at hno2; cases hno2
    | _ => trivial
  · obtain ⟨id', e1, e2, e3⟩ := er id t' sz N hs'
    obtain ⟨bk, h1, h2⟩ := h.row id' t' sz N e1
    refine ⟨bk, by rw [e3]; exact h1, fun c hc => ?_⟩
    obtain ⟨b1, b2, b3, b4, b5, b6⟩ := h2 c hc
    refine ⟨b1, b2, b3, fun k hk => b4 k (by rw [← ib]; exact hk), fun k t'' sz'' M M' hk hr => ?_, b6⟩
    obtain ⟨k', f1, f2, f3⟩ := er k t'' sz'' M hk
    rw [f3] at hr
    have := b5 k' t'' sz'' M M' f1 hr
    omega
  · have hr := hf.rep k hk
    have hno2 := q1 (.tmp k) (fun k e => by cases e)
    have e : renS i j σ (.tmp k) = renC i j (σ (.tmp k)) := rfl
    unfold tmpV at hr ⊢
    rw [e]
    cases hx : σ (.tmp k) with
    | v x => rw [hx] at hr hno2; exact hr.ren hno2
    | _ => exact .junk
  · have hid := t.row id _ hr
    obtain ⟨bk', N', e1, e2, e3⟩ := hE.row id bk N hr
    refine ⟨bk', N', ?_, e2, e3⟩
    simp only [G.ren]
    rw [if_neg (by omega), if_neg (by omega)]
    exact e1
  · simp only [G.ren] at hr
    split at hr
    · rcases hE.fresh i c N hr with ⟨N0, e⟩ | e
      · have := t.row i _ e; omega
      · exact .inr e
    · split at hr
      · cases hr
      · exact hE.fresh id c N hr
/-- A box whose cells hold plain values, as memory. -/
theorem AW.boxMem {r : Option Nat} {nt lo n : Nat} {c : Code} {K : Exit → St → Nat → Prop} (k : Nat) {bt : TypeId} {cells : List V} (hs : σ (.blk k) = .box bt cells) (hp : pureAll cells = true)
    (h : AW P r nt lo c (upd σ (.blk k) (.mem bt (forgetAll cells))) n K) : AW P r nt lo c σ n K := by
  refine ⟨fun b t a w hl hsim => h.run b t a w hl ?_⟩
  obtain ⟨g, hh, hf, hE, hn⟩ := hsim
  have e0 : ∀ id, id ≠ k → (upd σ (.blk k) (.mem bt (forgetAll cells))) (.blk id) = σ (.blk id) := fun id hne => upd_ne (fun e => hne (by cases e; rfl))
  have e1 : (upd σ (.blk k) (.mem bt (forgetAll cells))) (.blk k) = .mem bt (forgetAll cells) := upd_same _ _ _
  have er : ∀ id, (upd σ (.blk k) (.mem bt (forgetAll cells))) (.row id) = σ (.row id) := fun id => upd_ne (fun e => by cases e)
  have ib : ∀ id, ((upd σ (.blk k) (.mem bt (forgetAll cells))) (.blk id)).isBlk = (σ (.blk id)).isBlk := fun id => by
    by_cases he : id = k
    · subst he; rw [e1, hs]; rfl
    · rw [e0 id he]
  refine ⟨g, HSim.of_claims hh.below hh.flt hh.f0 hh.f1 hh.ownlt hh.rowlt hh.ownsz hh.rowsz (fun id hl' => hh.live id (by rw [← ib]; exact hl')) (fun id c hl' hc => ?_) (fun x y c hx hy => hh.inj x y c (by rw [← ib]; exact hx) (by rw [← ib]; exact hy)) (fun id Y c hs' hc => hh.ro id Y c (by
      by_cases he : id = k
      · subst he; rw [e1] at hs'; cases hs'
      · rw [e0 id he] at hs'; exact hs') hc) (fun id t' sz N hs' => ?_),
    ⟨hf.size, hf.defers, fun i hi => by rw [tmpV_ne (by simp)]; exact hf.rep i hi⟩, hE, hn⟩
  · by_cases he : id = k
    · subst he
      rw [e1]
      obtain ⟨arr, a1, a2, a3⟩ := hh.box id bt cells c hs hc
      refine ⟨arr, (0, 0), a1, by rw [forgetAll_len, a2]; exact Nat.le_refl _, fun o _ ho => by simp at ho, fun i y v h1 h2 => ?_⟩
      obtain ⟨x, q1, rfl⟩ := forgetAll_get h1
      exact pureV_rep (pureAll_get hp i x q1) (a3 i x v q1 h2)
    · rw [e0 id he]
      exact hh.claim hc
  · rw [er] at hs'
    obtain ⟨bk, h1, h2⟩ := hh.row id t' sz N hs'
    refine ⟨bk, h1, fun c hc => ?_⟩
    obtain ⟨b1, b2, b3, b4, b5, b6⟩ := h2 c hc
    exact ⟨b1, b2, b3, fun j hj => b4 j (by rw [← ib]; exact hj), fun j t'' sz'' M M' hj hr => b5 j t'' sz'' M M' (by rw [← er]; exact hj) hr, b6⟩
end Go.Am

namespace Go.Am
open Go.RowKit

variable {P : Program} {T : Tab} {b : Base P} {t : Top} {σ : St} {D : Nat → Prop} {g : G} {a : Act} {w : World}

/-- A key of a kind. -/
def kindIs (d : TypeDesc) : V → Prop
  | .str _ => d = .string
  | .int q _ => d = .int q
  | _ => False
/-- Whether two keys of a kind are the same. -/
def sameK : V → V → Bool
  | .str a, .str b => decide (a = b)
  | .int _ a, .int _ b => decide (a = b)
  | _, _ => false
abbrev Es := List (Nat × V × V)
def findE (k : V) : Es → Option V
  | [] => none
  | e :: es => match sameK e.2.1 k with
    | true => some e.2.2
    | false => findE k es
def putE (k v : V) : Es → Option Es
  | [] => none
  | e :: es => match sameK e.2.1 k with
    | true => some ((e.1, e.2.1, v) :: es)
    | false => match putE k v es with
      | some l => some (e :: l)
      | none => none
def delE (k : V) : Es → Es
  | [] => []
  | e :: es => match sameK e.2.1 k with
    | true => es
    | false => e :: delE k es

theorem kindIs_key {d : TypeDesc} {x : V} {v : Value} {F : Nat → Nat → Prop} (h : kindIs d x) (hr : PRep w F x v) : MapKept.IsKey d v := by
  cases x with
  | str s => cases h; cases hr; trivial
  | int q n => cases h; cases hr; rfl
  | _ => exact h.elim
theorem same_rep {d : TypeDesc} {x y : V} {v u : Value} {F : Nat → Nat → Prop} (hx : kindIs d x) (hy : kindIs d y) (h1 : PRep w F x v) (h2 : PRep w F y u) : Instr.sameNow d v u = some (sameK y x) := by
  cases x with
  | str s =>
    cases hx
    cases y with
    | str s' =>
      cases h1 with | str e1 => cases h2 with | str e2 =>
      rename_i p q
      simp only [Instr.sameNow, sameK, Option.some.injEq]
      rw [Bool.eq_iff_iff, MapKept.bytes_beq, decide_eq_true_eq, ← e1, ← e2]
      constructor
      · rintro rfl; rfl
      · intro e
        obtain ⟨p⟩ := p
        obtain ⟨q⟩ := q
        congr 1
        exact Array.toList_inj.1 e.symm
    | int q n => cases hy
    | _ => exact hy.elim
  | int q n =>
    cases hx
    cases y with
    | int q' n' =>
      cases hy; cases h1; cases h2
      simp only [Instr.sameNow, sameK, if_true, Option.some.injEq]
      rw [Bool.eq_iff_iff, beq_iff_eq, decide_eq_true_eq]
      exact eq_comm
    | str s => cases hy
    | _ => exact hy.elim
  | _ => exact hx.elim

/-- The entries of a map, by what is known of them. -/
def EsAt (w : World) (F : Nat → Nat → Prop) (arr : List MapEntry) (es : Es) : Prop :=
  arr.length = es.length ∧ ∀ (i : Nat) (e : MapEntry) (x : Nat × V × V), arr[i]? = some e → es[i]? = some x → e.born = x.1 ∧ PRep w F x.2.1 e.key ∧ PRep w F x.2.2 e.val
theorem EsAt.tail {F : Nat → Nat → Prop} {e : MapEntry} {x : Nat × V × V} {arr : List MapEntry} {es : Es} (h : EsAt w F (e :: arr) (x :: es)) : EsAt w F arr es :=
  ⟨by simpa using h.1, fun i e' x' h1 h2 => h.2 (i + 1) e' x' (by simpa using h1) (by simpa using h2)⟩
theorem find_rep {d : TypeDesc} {k : V} {kv : Value} {F : Nat → Nat → Prop} (hk : kindIs d k) (hkv : PRep w F k kv) : ∀ {arr : List MapEntry} {es : Es} (i : Nat), EsAt w F arr es → (∀ e ∈ es, kindIs d e.2.1) →
    (Instr.findNow d kv arr i = some none ∧ findE k es = none ∧ (∀ v, putE k v es = none) ∧ delE k es = es) ∨
    ∃ j e x, Instr.findNow d kv arr i = some (some (i + j, e.val)) ∧ arr[j]? = some e ∧ es[j]? = some x ∧ e.key = kv ∧ findE k es = some x.2.2 ∧ (∀ v, putE k v es = some (es.set j (x.1, x.2.1, v))) ∧ delE k es = es.eraseIdx j
  | [], [], i, _, _ => .inl ⟨rfl, rfl, fun _ => rfl, rfl⟩
  | [], _ :: _, _, h, _ => by have := h.1; simp at this
  | _ :: _, [], _, h, _ => by have := h.1; simp at this
  | e :: arr, x :: es, i, h, hks => by
    obtain ⟨_, h2, h3⟩ := h.2 0 e x rfl rfl
    have hx := hks x (by simp)
    have hs := same_rep hk hx hkv h2
    have hkey := MapKept.sameNow_of_keys (kindIs_key hk hkv) (kindIs_key hx h2)
    obtain ⟨r, hr, hiff⟩ := hkey
    rw [hs] at hr
    simp only [Option.some.injEq] at hr
    cases hb : sameK x.2.1 k with
    | true =>
      rw [hb] at hs hr
      refine .inr ⟨0, e, x, ?_, rfl, rfl, (hiff.1 hr.symm).symm, ?_, fun v => ?_, ?_⟩
      · simp [Instr.findNow, hs]
      · simp only [findE, hb]
      · simp only [putE, hb, List.set]
      · simp only [delE, hb, List.eraseIdx]
    | false =>
      rw [hb] at hs
      rcases find_rep hk hkv (i + 1) h.tail (fun e he => hks e (by simp [he])) with ⟨q1, q2, q3, q4⟩ | ⟨j, e', x', q1, q2, q3, q4, q5, q6, q7⟩
      · refine .inl ⟨by simp [Instr.findNow, hs, q1], by simp only [findE, hb, q2], fun v => by simp only [putE, hb, q3], by simp only [delE, hb, q4]⟩
      · refine .inr ⟨j + 1, e', x', by simp [Instr.findNow, hs, q1]; omega, by simpa using q2, by simpa using q3, q4, by simp only [findE, hb, q5], fun v => by simp only [putE, hb, q6, List.set], by simp only [delE, hb, q7, List.eraseIdx]⟩

theorem key_pure {d : TypeDesc} {x : V} {v : Value} (hk : kindIs d x) (h : Rep w g x v) : PRep w g.F x v := by
  cases x with
  | str s => cases h with | pure h => exact h
  | int q n => cases h with | pure h => exact h
  | _ => exact hk.elim

def lookV (ok : Bool) (o : Option V) (z : V) : V := match ok, o with
  | true, some v => .tup [v, .tt]
  | true, none => .tup [z, .ff]
  | false, some v => v
  | false, none => z

variable {n : Nat} {K : V → St → Nat → Prop} {o : Oper}

/-- What a map's block holds, the call's own, or one of what was there. -/
theorem HSim.mapAt (h : HSim b σ D g w) {m c clock : Nat} {es : Es} (hs : σ (.blk m) = .obj (.mp clock es) ∨ σ (.blk m) = .ro (.mp clock es)) (hc : g.own m = some c) :
    ∃ arr : List MapEntry, w.heap[c]? = some (.map arr.toArray clock) ∧ EsAt w g.F arr es := by
  rcases hs with hs | hs
  · exact h.obj m _ c hs hc
  · obtain ⟨hlt, hx, arr, h1, h2, h3⟩ := h.ro m _ c hs hc
    have hm : ∀ k o, (b.F0 k o ∧ ¬ b.ex k) → g.F k o ∧ w.cell? ⟨k, o, none⟩ = b.W.cell? ⟨k, o, none⟩ := fun k o hk => ⟨h.f0 k o hk.1, by unfold World.cell?; rw [h.below.block k (b.f0lt k o hk.1) hk.2]⟩
    exact ⟨arr, (h.below.block c hlt hx).trans h1, h2, fun i e x he hx => ⟨(h3 i e x he hx).1, (h3 i e x he hx).2.1.mono hm, (h3 i e x he hx).2.2.mono hm⟩⟩

/-- 'make(map[..]..)'. -/
theorem AM.makeMap {mt : TypeId} (hop : o.op = .makeMap mt none) (hK : K (.mp n) (upd σ (.blk n) (.obj (.mp 0 []))) (n + 1)) : AM P o σ n K := by
  refine ⟨fun b g a w h _ => ?_⟩
  obtain ⟨k1, k2⟩ := h.newBlk h.fresh.1 (X := .obj (.mp 0 [])) rfl (.map #[] 0) (fun g' w' _ hh _ => ⟨[], hh, rfl, fun i e x he => by simp at he⟩)
  refine ⟨.value (.map (some w.heap.size)), .map (some w.heap.size), _, .mp n, _, n + 1, _, ?_, .inl rfl, hK, Nat.le_succ n, .mp (G.put_same _ _ _), k1.widen (fun j hj => by rcases hj with hj | hj <;> omega), k2⟩
  simp [execOp, hop, Instr.makeMap, Result.andThen]
/-- 'm[k]'. -/
theorem AM.lookup (hT : TOk P T) {mt kt et : TypeId} {d : TypeDesc} (hm : P.underlying mt = some (.map kt et)) (hd : P.underlying kt = some d) {ti : TI} {n0 b0 : Nat} {zero : List V} (hz0 : nthT T et = some ⟨ti, n0, b0, zero⟩) {q : Bool} {z : V} (hz : zeroV ti zero = some (q, z)) (hq : zeroAgg P et = some q)
    {x k : Operand} {ok : Bool} (hop : o.op = .lookup mt x k ok) {m clock : Nat} {es : Es} (hx : opV σ x = .mp m) (hs : σ (.blk m) = .obj (.mp clock es) ∨ σ (.blk m) = .ro (.mp clock es)) (hk : kindIs d (opV σ k)) (hks : ∀ e ∈ es, kindIs d e.2.1) (r : Option V) (ho : findE (opV σ k) es = r)
    (hK : K (lookV ok r z) σ (n + 1)) : AM P o σ n K := by
  refine ⟨fun b g a w h hr => ?_⟩
  have hrx := hr x (by simp [hop, Op.operands])
  have hrk := hr k (by simp [hop, Op.operands])
  rw [hx] at hrx
  obtain ⟨c, hc, ex⟩ := hrx.mp_inv
  obtain ⟨arr, h1, h2⟩ := h.mapAt hs hc
  have hkp := key_pure hk hrk
  obtain ⟨zv, hzr, hzrep⟩ := zeroV_rep (w := w) (g := g) hT hz0 hz hq
  have two : ∀ {y : V} {u : Value} {p : Bool}, Rep w g y u → Rep w g (.tup [y, match p with | true => .tt | false => .ff]) (.tuple #[u, .bool p]) := fun {y u p} hy => .tup (vs := [_, _]) rfl (fun i z v h1 h2 => by
    match i, h1, h2 with
    | 0, h1, h2 => cases h1; cases h2; exact hy
    | 1, h1, h2 => cases h1; cases h2; cases p <;> first | exact .pure .tt | exact .pure .ff
    | i + 2, h1, _ => cases h1)
  have fin : ∀ (val : Value), (Instr.lookup mt (.map (some c)) (a.eval k) ok).run P w = .ok val w → Rep w g (lookV ok r z) val → ∃ nx val w' v σ' n' g', (execOp a.eval o).run P w = .ok nx w' ∧ (nx = .value val ∨ (nx = .skip ∧ val = undef)) ∧ K v σ' n' ∧ n ≤ n' ∧ Rep w' g' v val ∧ HSim b σ' (· < n') g' w' ∧ Ev g w g' w' :=
    fun val hr hrep => ⟨.value val, val, w, _, σ, n + 1, g, by simp [execOp, hop, ex, hr], .inl rfl, hK, Nat.le_succ n, hrep, h.lt (Nat.le_succ n), Ev.refl g w⟩
  rcases find_rep hk hkp 0 ⟨h2.1, h2.2⟩ hks with ⟨q1, q2, _⟩ | ⟨j, e, y, q1, q2, q3, q4, q5, _⟩
  · rw [ho] at q2
    subst q2
    refine fin (if ok then .tuple #[zv, .bool false] else zv) ?_ ?_
    · cases ok <;> simp [Instr.lookup, run_underlying hm, MapKept.run_getObj_map h1, MapKept.run_checkKey hd (kindIs_key hk hkp), MapKept.run_findKey hd q1, hzr, Result.andThen]
    · cases ok
      · exact hzrep
      · exact two (p := false) hzrep
  · rw [ho] at q5
    subst q5
    have hrep := (h2.2 j e y q2 q3).2.2
    refine fin (if ok then .tuple #[e.val, .bool true] else e.val) ?_ ?_
    · cases ok <;> simp [Instr.lookup, run_underlying hm, MapKept.run_getObj_map h1, MapKept.run_checkKey hd (kindIs_key hk hkp), MapKept.run_findKey hd q1, Result.andThen]
    · cases ok
      · exact .pure hrep
      · exact two (p := true) (.pure hrep)

theorem wr_map {c : Nat} {es es' : Array MapEntry} {clock clock' : Nat} (h : w.heap[c]? = some (.map es clock)) : Wr c w { w with heap := w.heap.setIfInBounds c (.map es' clock') } ∧ (w.heap.setIfInBounds c (.map es' clock'))[c]? = some (.map es' clock') := by
  have hlt : c < w.heap.size := (Array.getElem?_eq_some_iff.1 h).1
  have hh : (w.heap.setIfInBounds c (.map es' clock'))[c]? = some (.map es' clock') := by simp [hlt]
  exact ⟨⟨rfl, rfl, rfl, by simp, fun k hk => by simp [Ne.symm hk], by unfold World.shape?; simp only [hh, h], fun ds hd => (by rw [h] at hd; cases hd), rfl⟩, hh⟩
/-- What is behind a store. -/
def putR (clock : Nat) (es : Es) (k v : V) : Option Es → Ob
  | some l => .mp clock l
  | none => .mp (clock + 1) (es ++ [(clock, k, v)])
theorem mapUpdate_run {mt kt et : TypeId} {d : TypeDesc} (hm : P.underlying mt = some (.map kt et)) (hd : P.underlying kt = some d) (h : HSim b σ (· < n) g w) {m c clock : Nat} {es : Es} (hc : g.own m = some c) (hs : σ (.blk m) = .obj (.mp clock es))
    {k v : V} {kv vv : Value} (hk : kindIs d k) (hkp : PRep w g.F k kv) (hvp : PRep w g.F v vv) (hks : ∀ e ∈ es, kindIs d e.2.1) :
    ∃ w', (Instr.mapUpdate mt (.map (some c)) kv vv).run P w = .ok () w' ∧ HSim b (upd σ (.blk m) (.obj (putR clock es k v (putE k v es)))) (· < n) g w' ∧ Ev g w g w' := by
  obtain ⟨arr, h1, h2⟩ := h.obj m _ c hs hc
  have hl : (σ (.blk m)).isBlk = true := by rw [hs]; rfl
  rcases find_rep hk hkp 0 ⟨h2.1, h2.2⟩ hks with ⟨q1, q2, q3, _⟩ | ⟨j, e, y, q1, q2, q3, q4, q5, q6, _⟩
  · obtain ⟨hw, hh⟩ := wr_map (es' := arr.toArray.push { key := kv, val := vv, born := clock }) (clock' := clock + 1) h1
    refine ⟨_, ?_, h.write (X := .obj (putR clock es k v (putE k v es))) hl hc hw (fun _ => ?_)⟩
    · simp [Instr.mapUpdate, run_underlying hm, MapKept.run_getObj_map h1, MapKept.run_checkKey hd (kindIs_key hk hkp), MapKept.run_findKey hd q1, MapKept.run_setObj_map _ h1, Result.andThen]
    · rw [q3 v]
      have hE := Ev.write (g := g) hw (fun o ho => by obtain ⟨c', a1, _, _, a4⟩ := h.live m hl; rw [hc] at a1; cases a1; exact a4 o ho)
      refine ⟨arr ++ [{ key := kv, val := vv, born := clock }], by simpa using hh, by simp [h2.1], fun i e x he hx => ?_⟩
      by_cases hi : i < arr.length
      · rw [List.getElem?_append_left hi] at he
        rw [List.getElem?_append_left (by rw [← h2.1]; exact hi)] at hx
        obtain ⟨a1, a2, a3⟩ := h2.2 i e x he hx
        exact ⟨a1, a2.mono hE.F, a3.mono hE.F⟩
      · rw [List.getElem?_append_right (by omega)] at he
        rw [List.getElem?_append_right (by rw [← h2.1]; omega)] at hx
        rw [h2.1] at he
        cases hj : i - es.length with
        | zero =>
          simp [hj] at he hx
          subst he hx
          exact ⟨rfl, hkp.mono hE.F, hvp.mono hE.F⟩
        | succ j => simp [hj] at he
  · obtain ⟨hw, hh⟩ := wr_map (es' := arr.toArray.modify j fun e => { e with key := kv, val := vv }) (clock' := clock) h1
    refine ⟨_, ?_, h.write (X := .obj (putR clock es k v (putE k v es))) hl hc hw (fun _ => ?_)⟩
    · have hj : (arr[j]?.map (·.key)).getD kv = kv := by rw [q2]; simp [q4]
      simp [Instr.mapUpdate, run_underlying hm, MapKept.run_getObj_map h1, MapKept.run_checkKey hd (kindIs_key hk hkp), MapKept.run_findKey hd q1, hj, MapKept.run_keyThatStays (kindIs_key hk hkp), MapKept.run_setObj_map _ h1, Result.andThen]
    · rw [q6 v]
      have hE := Ev.write (g := g) hw (fun o ho => by obtain ⟨c', a1, _, _, a4⟩ := h.live m hl; rw [hc] at a1; cases a1; exact a4 o ho)
      refine ⟨arr.modify j fun e => { e with key := kv, val := vv }, by simpa using hh, by simp [h2.1], fun i e' x he hx => ?_⟩
      rw [List.getElem?_modify] at he
      by_cases hij : j = i
      · subst hij
        have hlt : j < es.length := by rw [← h2.1]; exact (List.getElem?_eq_some_iff.1 q2).1
        rw [List.getElem?_set_self hlt] at hx
        simp only [q2, if_true, Option.map_eq_map, Option.map_some, Option.some.injEq] at he hx
        subst he hx
        obtain ⟨a1, a2, a3⟩ := h2.2 j e y q2 q3
        have a4 := a2.mono hE.F
        rw [q4] at a4
        exact ⟨a1, a4, hvp.mono hE.F⟩
      · rw [List.getElem?_set_ne hij] at hx
        simp only [hij, if_false, Option.map_eq_map, Option.map_id'] at he
        obtain ⟨a1, a2, a3⟩ := h2.2 i e' x he hx
        exact ⟨a1, a2.mono hE.F, a3.mono hE.F⟩
/-- 'm[k] = v'. -/
theorem AM.update {mt kt et : TypeId} {d : TypeDesc} (hm : P.underlying mt = some (.map kt et)) (hd : P.underlying kt = some d) {x k v : Operand} (hop : o.op = .mapUpdate mt x k v ∨ o.op = .insert mt x k v) {m clock : Nat} {es : Es} (hx : opV σ x = .mp m) (hs : σ (.blk m) = .obj (.mp clock es))
    (hk : kindIs d (opV σ k)) (hv : pureFull (opV σ v) = true) (hks : ∀ e ∈ es, kindIs d e.2.1) (r : Option Es) (ho : putE (opV σ k) (forgetFull (opV σ v)) es = r)
    (hK : K .junk (upd σ (.blk m) (.obj (putR clock es (opV σ k) (forgetFull (opV σ v)) r))) (n + 1)) : AM P o σ n K := by
  refine ⟨fun b g a w h hr => ?_⟩
  have hmem : ∀ z ∈ [x, k, v], z ∈ o.op.operands := fun z hz => by rcases hop with e | e <;> rw [e] <;> simpa [Op.operands] using hz
  have hrx := hr x (hmem x (by simp))
  have hrk := hr k (hmem k (by simp))
  have hrv := hr v (hmem v (by simp))
  rw [hx] at hrx
  obtain ⟨c, hc, ex⟩ := hrx.mp_inv
  obtain ⟨w', r1, r2, r3⟩ := mapUpdate_run hm hd h hc hs hk (key_pure hk hrk) (pureFull_rep hv hrv) hks
  rw [ho] at r2
  refine ⟨.skip, undef, w', .junk, _, n + 1, g, ?_, .inr ⟨rfl, rfl⟩, hK, Nat.le_succ n, .junk, r2.lt (Nat.le_succ n), r3⟩
  rcases hop with e | e <;> simp [execOp, e, ex, r1, Result.andThen]

/-- 'delete(m, k)'. -/
theorem AM.delete {mt kt et : TypeId} {d : TypeDesc} (hm : P.underlying mt = some (.map kt et)) (hd : P.underlying kt = some d) {c0 : Call} (hop : o.op = .call c0) (hcal : c0.callee = .builtin .delete) (hat : c0.argTypes[0]? = some mt) {x k : Operand} (hargs : c0.args = #[x, k])
    {m clock : Nat} {es : Es} (hx : opV σ x = .mp m) (hs : σ (.blk m) = .obj (.mp clock es)) (hk : kindIs d (opV σ k)) (hks : ∀ e ∈ es, kindIs d e.2.1) (r : Es) (ho : delE (opV σ k) es = r)
    (hK : K (.tup []) (upd σ (.blk m) (.obj (.mp clock r))) (n + 1)) : AM P o σ n K := by
  refine ⟨fun b g a w h hr => ?_⟩
  have hrx := hr x (by simp [hop, Op.operands, Call.operands, hargs])
  have hrk := hr k (by simp [hop, Op.operands, Call.operands, hargs])
  rw [hx] at hrx
  obtain ⟨c, hc, ex⟩ := hrx.mp_inv
  obtain ⟨arr, h1, h2⟩ := h.obj m _ c hs hc
  have hkp := key_pure hk hrk
  have hl : (σ (.blk m)).isBlk = true := by rw [hs]; rfl
  have run : ∀ {w' : World}, (Builtin.delete_ c0.argTypes o.type #[a.eval x, a.eval k]).run P w = .ok (.tuple #[]) w' → (execOp a.eval o).run P w = .ok (.value (.tuple #[])) w' := by
    intro w' hb
    obtain ⟨dst, op, ty, pos, after, guard⟩ := o
    simp only at hop
    subst hop
    refine builtin_run hcal ?_
    simp only [builtin, hargs, List.map_toArray, List.map_cons, List.map_nil, Sem.run_bind, hb, Result.andThen_ok, Sem.run_pure]
  rcases find_rep hk hkp 0 ⟨h2.1, h2.2⟩ hks with ⟨q1, q2, _, q4⟩ | ⟨j, e, y, q1, q2, q3, q4, q5, q6, q7⟩
  · rw [ho] at q4
    subst q4
    obtain ⟨hw, hh⟩ := wr_map (es' := arr.toArray) (clock' := clock) h1
    obtain ⟨k1, k2⟩ := h.write (X := .obj (.mp clock r)) hl hc hw (fun _ => by
      have hE := Ev.write (g := g) hw (fun o ho => by obtain ⟨c', a1, _, _, a4⟩ := h.live m hl; rw [hc] at a1; cases a1; exact a4 o ho)
      exact ⟨arr, hh, h2.1, fun i e x he hx => ⟨(h2.2 i e x he hx).1, (h2.2 i e x he hx).2.1.mono hE.F, (h2.2 i e x he hx).2.2.mono hE.F⟩⟩)
    refine ⟨.value (.tuple #[]), .tuple #[], _, .tup [], _, n + 1, g, run ?_, .inl rfl, hK, Nat.le_succ n, .tup (vs := []) rfl (fun i x v h1 => by simp at h1), k1.lt (Nat.le_succ n), k2⟩
    simp [Builtin.delete_, hat, ex, run_underlying hm, MapKept.run_getObj_map h1, MapKept.run_checkKey hd (kindIs_key hk hkp), MapKept.run_findKey hd q1, MapKept.run_setObj_map _ h1, Result.andThen]
  · rw [ho] at q7
    subst q7
    obtain ⟨hw, hh⟩ := wr_map (es' := arr.toArray.eraseIdxIfInBounds j) (clock' := clock) h1
    have hlt : j < arr.length := (List.getElem?_eq_some_iff.1 q2).1
    obtain ⟨k1, k2⟩ := h.write (X := .obj (.mp clock (es.eraseIdx j))) hl hc hw (fun _ => by
      have hE := Ev.write (g := g) hw (fun o ho => by obtain ⟨c', a1, _, _, a4⟩ := h.live m hl; rw [hc] at a1; cases a1; exact a4 o ho)
      refine ⟨arr.eraseIdx j, by rw [hh]; simp [Array.eraseIdxIfInBounds, hlt], by simp [List.length_eraseIdx, h2.1], fun i e x he hx => ?_⟩
      rw [List.getElem?_eraseIdx] at he hx
      by_cases hij : i < j
      · rw [if_pos hij] at he hx
        exact ⟨(h2.2 i e x he hx).1, (h2.2 i e x he hx).2.1.mono hE.F, (h2.2 i e x he hx).2.2.mono hE.F⟩
      · rw [if_neg hij] at he hx
        exact ⟨(h2.2 _ e x he hx).1, (h2.2 _ e x he hx).2.1.mono hE.F, (h2.2 _ e x he hx).2.2.mono hE.F⟩)
    refine ⟨.value (.tuple #[]), .tuple #[], _, .tup [], _, n + 1, g, run ?_, .inl rfl, hK, Nat.le_succ n, .tup (vs := []) rfl (fun i x v h1 => by simp at h1), k1.lt (Nat.le_succ n), k2⟩
    simp [Builtin.delete_, hat, ex, run_underlying hm, MapKept.run_getObj_map h1, MapKept.run_checkKey hd (kindIs_key hk hkp), MapKept.run_findKey hd q1, MapKept.run_setObj_map _ h1, Result.andThen]
/-- 'range m'. -/
theorem AM.range {mt kt et : TypeId} (hm : P.underlying mt = some (.map kt et)) {x : Operand} (hop : o.op = .range mt x) {m clock : Nat} {es : Es} (hx : opV σ x = .mp m) (hs : σ (.blk m) = .obj (.mp clock es) ∨ σ (.blk m) = .ro (.mp clock es))
    (hK : K (.it n) (upd σ (.blk n) (.obj (.mit m clock [] clock))) (n + 1)) : AM P o σ n K := by
  refine ⟨fun b g a w h hr => ?_⟩
  have hrx := hr x (by simp [hop, Op.operands])
  rw [hx] at hrx
  obtain ⟨c, hc, ex⟩ := hrx.mp_inv
  obtain ⟨arr, h1, h2⟩ := h.mapAt hs hc
  obtain ⟨k1, k2⟩ := h.newBlk h.fresh.1 (X := .obj (.mit m clock [] clock)) rfl (.mapIter (some c) clock #[] clock) (fun g' w' hE hh _ => ⟨c, (hE.own _ _ hc).1, hh⟩)
  refine ⟨.value (.pointer (some ⟨w.heap.size, 0, none⟩)), .pointer (some ⟨w.heap.size, 0, none⟩), _, .it n, _, n + 1, _, ?_, .inl rfl, hK, Nat.le_succ n, .it (G.put_same _ _ _), k1.widen (fun j hj => by rcases hj with hj | hj <;> omega), k2⟩
  simp [execOp, hop, ex, Instr.range, run_underlying hm, MapKept.run_getObj_map h1, Result.andThen]

/-- 'next': nothing is left, or any entry that is. -/
theorem AM.next {x : Operand} (hop : o.op = .next x false) {i m since last clock : Nat} {seen : List Nat} {es : Es} (hx : opV σ x = .it i) (hi : σ (.blk i) = .obj (.mit m since seen last)) (hs : σ (.blk m) = .obj (.mp clock es) ∨ σ (.blk m) = .ro (.mp clock es))
    (hlt : ∀ e ∈ es, e.1 < since) (hsc : since ≤ last) (h1 : ∀ e ∈ es, e.1 ∉ seen → K (.tup [.tt, e.2.1, e.2.2]) (upd σ (.blk i) (.obj (.mit m since (seen ++ [e.1]) clock))) (n + 1))
    (h0 : (∀ e ∈ es, e.1 ∈ seen) → K (.tup [.ff]) σ (n + 1)) : AM P o σ n K := by
  refine ⟨fun b g a w h hr => ?_⟩
  have hrx := hr x (by simp [hop, Op.operands])
  rw [hx] at hrx
  obtain ⟨r, hc, ex⟩ := hrx.it_inv
  obtain ⟨c, hcm, hri⟩ := h.obj i _ r hi hc
  obtain ⟨arr, hb, h2⟩ := h.mapAt hs hcm
  have born : ∀ e ∈ arr, ∃ y ∈ es, e.born = y.1 ∧ PRep w g.F y.2.1 e.key ∧ PRep w g.F y.2.2 e.val := fun e he => by
    obtain ⟨j, hj, hje⟩ := List.getElem_of_mem he
    have hj' : j < es.length := by rw [← h2.1]; exact hj
    exact ⟨es[j], List.getElem_mem hj', h2.2 j e _ (by rw [← hje]; exact List.getElem?_eq_getElem hj) (List.getElem?_eq_getElem hj')⟩
  have one : ∀ {val : Value} {w' : World}, (Instr.next (.pointer (some ⟨r, 0, none⟩)) false o.type).run P w = .ok val w' → (execOp a.eval o).run P w = .ok (.value val) w' := fun hrun => by simp [execOp, hop, ex, hrun, Result.andThen]
  rcases run_next_at w o.type r c since last seen.toArray arr.toArray clock hri hb (fun e he => by
      obtain ⟨y, hy, e1, _⟩ := born e (by simpa using he)
      rw [e1]; exact hlt y hy) hsc with ⟨q0, hrun⟩ | ⟨e, he, w1, hw1, hrun⟩
  · refine ⟨.value (.tuple #[.bool false]), _, w, .tup [.ff], σ, n + 1, g, one hrun, .inl rfl, h0 fun y hy => ?_, Nat.le_succ n, .tup (vs := [_]) rfl (fun i x v h1 h2 => ?_), h.lt (Nat.le_succ n), Ev.refl g w⟩
    · obtain ⟨j, hj, hje⟩ := List.getElem_of_mem hy
      have hj' : j < arr.length := by rw [h2.1]; exact hj
      have hb1 := (h2.2 j _ _ (List.getElem?_eq_getElem hj') (List.getElem?_eq_getElem hj)).1
      rw [hje] at hb1
      rw [← hb1]
      have hf : leftOf arr.toArray seen.toArray = #[] := Array.eq_empty_of_size_eq_zero q0
      unfold leftOf at hf
      rw [Array.filter_eq_empty_iff] at hf
      have := hf arr[j] (by simp)
      simpa using this
    · match i, h1, h2 with
      | 0, h1, h2 => cases h1; cases h2; exact .pure .ff
      | i + 1, h1, _ => cases h1
  · have he' : e ∈ arr ∧ e.born ∉ seen := by
      unfold leftOf at he
      simpa using he
    obtain ⟨y, hy, e1, e2, e3⟩ := born e he'.1
    obtain ⟨g1, hE1⟩ : HSim b σ (· < n) g w1 ∧ Ev g w g w1 := by
      rcases hw1 with rfl | rfl
      · exact ⟨h, Ev.refl g _⟩
      · exact h.grow0 (w' := w.drew) ⟨rfl, rfl, rfl, Nat.le_refl _, fun _ _ => rfl⟩
    have hri1 : w1.heap[r]? = some (.mapIter (some c) since seen.toArray last) := by rcases hw1 with rfl | rfl <;> exact hri
    have hlt1 : r < w1.heap.size := (Array.getElem?_eq_some_iff.1 hri1).1
    have hh : (Go.ChangeMaps.setBlock w1 r (.mapIter (some c) since (seen.toArray.push e.born) clock)).heap[r]? = some (.mapIter (some c) since (seen.toArray.push e.born) clock) := by simp [Go.ChangeMaps.setBlock, hlt1]
    have hw : Wr r w1 (Go.ChangeMaps.setBlock w1 r (.mapIter (some c) since (seen.toArray.push e.born) clock)) :=
      ⟨rfl, rfl, rfl, by simp [Go.ChangeMaps.setBlock], fun k hk => by simp [Go.ChangeMaps.setBlock, Ne.symm hk], by unfold World.shape?; simp only [hh, hri1], fun ds hd => (by rw [hri1] at hd; cases hd), rfl⟩
    obtain ⟨k1, k2⟩ := g1.write (X := .obj (.mit m since (seen ++ [y.1]) clock)) (by rw [hi]; rfl) hc hw (fun _ => ⟨c, hcm, by rw [hh, e1]; simp⟩)
    refine ⟨.value (.tuple #[.bool true, e.key, e.val]), _, _, .tup [.tt, y.2.1, y.2.2], _, n + 1, g, one hrun, .inl rfl, h1 y hy (by rw [← e1]; exact he'.2), Nat.le_succ n, ?_, k1.lt (Nat.le_succ n), hE1.trans k2⟩
    have hE := hE1.trans k2
    refine .tup (vs := [_, _, _]) rfl (fun i x v h1 h2 => ?_)
    match i, h1, h2 with
    | 0, h1, h2 => cases h1; cases h2; exact .pure .tt
    | 1, h1, h2 => cases h1; cases h2; exact .pure (e2.mono hE.F)
    | 2, h1, h2 => cases h1; cases h2; exact .pure (e3.mono hE.F)
    | i + 3, h1, _ => cases h1
/-- 'entry': what 'next' has handed out. -/
theorem AM.entry {x : Operand} (hop : o.op = .entry x) {i m since last clock s : Nat} {seen : List Nat} {es : Es} (hx : opV σ x = .it i) (hi : σ (.blk i) = .obj (.mit m since (seen ++ [s]) last)) (hs : σ (.blk m) = .obj (.mp clock es) ∨ σ (.blk m) = .ro (.mp clock es))
    (hl : last = clock) (hnd : (es.map (·.1)).Nodup) (y : V × V) (hy : (s, y) ∈ es) (hK : K (.tup [y.1, y.2]) σ (n + 1)) : AM P o σ n K := by
  refine ⟨fun b g a w h hr => ?_⟩
  have hrx := hr x (by simp [hop, Op.operands])
  rw [hx] at hrx
  obtain ⟨r, hc, ex⟩ := hrx.it_inv
  obtain ⟨c, hcm, hri⟩ := h.obj i _ r hi hc
  obtain ⟨arr, hb, h2⟩ := h.mapAt hs hcm
  subst hl
  have hmap : arr.map (·.born) = es.map (·.1) := by
    apply List.ext_getElem?
    intro j
    rw [List.getElem?_map, List.getElem?_map]
    by_cases hj : j < arr.length
    · have hj' : j < es.length := by rw [← h2.1]; exact hj
      rw [List.getElem?_eq_getElem hj, List.getElem?_eq_getElem hj']
      simp only [Option.map_some]
      rw [(h2.2 j _ _ (List.getElem?_eq_getElem hj) (List.getElem?_eq_getElem hj')).1]
    · rw [List.getElem?_eq_none (by omega), List.getElem?_eq_none (by rw [← h2.1]; omega)]
      rfl
  obtain ⟨j, hj, hje⟩ := List.getElem_of_mem hy
  have hj' : j < arr.length := by rw [h2.1]; exact hj
  have hp := h2.2 j _ _ (List.getElem?_eq_getElem hj') (List.getElem?_eq_getElem hj)
  rw [hje] at hp
  obtain ⟨p1, p2, p3⟩ := hp
  have hrun := run_entry_at (P := P) w r c since seen.toArray arr.toArray last arr[j] (by rw [hri, p1]; simp) hb (by simp) (by simpa [hmap] using hnd)
  refine ⟨.value (.tuple #[arr[j].key, arr[j].val]), _, w, _, σ, n + 1, g, by simp [execOp, hop, ex, hrun, Result.andThen], .inl rfl, hK, Nat.le_succ n, ?_, h.lt (Nat.le_succ n), Ev.refl g w⟩
  refine .tup (vs := [_, _]) rfl (fun i x v h1 h2 => ?_)
  match i, h1, h2 with
  | 0, h1, h2 => cases h1; cases h2; exact .pure p2
  | 1, h1, h2 => cases h1; cases h2; exact .pure p3
  | i + 2, h1, _ => cases h1

/-- A ghost that owns one block. -/
def G.one (F : Nat → Nat → Prop) (c : Nat) : G := ⟨F, fun i => if i = 0 then some c else none, fun _ => none⟩
/-- WHAT A FUNCTION DOES THAT ONLY LOOKS AT A MAP (the map's number is 0). -/
structure PM (P : Program) (f : FuncId) (clock : Nat) (es : Es) (args : List V) (res : V) : Prop where
  enters : Enters P f
  run : ∀ (w : World) (F : Nat → Nat → Prop) (c : Nat) (arr : List MapEntry) (vals : List Value), GOk P w → (∀ k o, F k o → k < w.heap.size) → w.heap[c]? = some (.map arr.toArray clock) → EsAt w F arr es → vals.length = args.length →
    (∀ (i : Nat) (x : V) (v : Value), args[i]? = some x → vals[i]? = some v → Rep w (G.one F c) x v) →
    Calls P f vals.toArray w fun e w' => ∃ v F', e = .returned v ∧ (Below w.heap.size w w' ∧ w.drawn ≤ w'.drawn) ∧ (∀ k o, F k o → F' k o) ∧ (∀ k o, F' k o → F k o ∨ (w.heap.size ≤ k ∧ k < w'.heap.size)) ∧ PRep w' F' res v
theorem HSim.initM (w : World) (F : Nat → Nat → Prop) (hG : GOk P w) (hF : ∀ k o, F k o → k < w.heap.size) (args : List V) {c clock : Nat} {es : Es} {arr : List MapEntry} (hb : w.heap[c]? = some (.map arr.toArray clock)) (he : EsAt w F arr es) :
    HSim (P := P) (Base.plain w F hG hF) (upd (initSt args) (.blk 0) (.ro (.mp clock es))) (· < 1) (G.one F c) w := by
  have own : ∀ id k, (G.one F c).own id = some k → id = 0 ∧ k = c := fun id k h => by
    simp only [G.one] at h
    split at h
    · cases h; exact ⟨by assumption, rfl⟩
    · cases h
  have st : ∀ id, (upd (initSt args) (.blk 0) (.ro (.mp clock es))) (.blk id) = if id = 0 then .ro (.mp clock es) else .none := fun id => by
    by_cases h : id = 0
    · subst h; rw [upd_same, if_pos rfl]
    · rw [upd_ne (fun e => h (by cases e; rfl)), if_neg h]; rfl
  have nb : ∀ id, ((upd (initSt args) (.blk 0) (.ro (.mp clock es))) (.blk id)).isBlk = true → False := fun id h => by
    rw [st] at h
    split at h <;> cases h
  refine HSim.of_claims (BelowX.refl _ _ _) hF (fun _ _ h => h) (fun _ _ h _ _ => h) (fun id k h => by rw [(own id k h).1]; exact Nat.zero_lt_one) (fun _ _ h => by cases h) (fun id k h => by rw [(own id k h).2]; exact (Array.getElem?_eq_some_iff.1 hb).1) (fun _ _ _ h => by cases h)
    (fun id h => (nb id h).elim) (fun id _ h => (nb id h).elim) (fun id _ _ h => (nb id h).elim) (fun id X k hs hk => ?_) (fun id t sz N hs => ?_)
  · obtain ⟨rfl, rfl⟩ := own id k hk
    rw [st, if_pos rfl] at hs
    cases hs
    have hm : ∀ k o, F k o → ((Base.plain (P := P) w F hG hF).F0 k o ∧ ¬ (Base.plain (P := P) w F hG hF).ex k) ∧ w.cell? ⟨k, o, none⟩ = w.cell? ⟨k, o, none⟩ := fun k o h => ⟨⟨h, fun e => e⟩, rfl⟩
    exact ⟨(Array.getElem?_eq_some_iff.1 hb).1, fun h => h, arr, hb, he.1, fun i e x h1 h2 => ⟨(he.2 i e x h1 h2).1, (he.2 i e x h1 h2).2.1.mono hm, (he.2 i e x h1 h2).2.2.mono hm⟩⟩
  · rw [upd_ne (fun e => by cases e)] at hs
    cases hs
/-- Such a function is entered. -/
theorem PM.ofS (hT : TOk P T) (hm : P.follows .mixedOrders = true) {f : FuncId} {fn : Func} {c : Code} (hf : P.funcs[f]? = some fn) (hb : fn.body = some c) (hn : (fn.name == "runtime.NumGoroutine") = false) {clock : Nat} {es : Es} {args : List V} {res : V} (hl : Nat.ble args.length fn.ntmps = true) (hro : rvOk fn.ntmps fn.results.toList = true)
    (h : ev P T none fn.ntmps 1 c (upd (initSt args) (.blk 0) (.ro (.mp clock es))) 1 (retK SubV T fn res)) : PM P f clock es args res := by
  refine ⟨enters_of hf hb hn, fun w F k arr vals hG hF hmap hes hvl hv => ?_⟩
  have hle : args.length ≤ fn.ntmps := Nat.le_of_ble_eq_true hl
  refine callsIn_wide.1 (callsIn_of_wp_marks (F := Fence.wide) (n := 0) hf hb trivial ?_)
  let b : Base P := Base.plain w F hG hF
  let g0 : G := G.one F k
  let t : Top := ⟨g0, w, 1, (fun id _ h => by
    simp only [g0, G.one] at h
    split at h
    · omega
    · cases h), (fun _ _ h => by cases h)⟩
  have hsim : Sim b t fn.ntmps (upd (initSt args) (.blk 0) (.ro (.mp clock es))) 1 { tmps := vals.toArray ++ Array.replicate (fn.ntmps - vals.toArray.size) undef, defers := [] } w := by
    refine ⟨g0, HSim.initM w F hG hF args hmap hes, ⟨by simp; omega, trivial, fun i hi => ?_⟩, Ev.refl _ _, Nat.le_refl _⟩
    rw [tmpV_ne (by simp)]
    unfold tmpV
    simp only [initSt, nth_eq]
    cases hx : args[i]? with
    | none => exact .junk
    | some x =>
      have hi' : i < vals.length := by have := (List.getElem?_eq_some_iff.1 hx).1; omega
      have : (vals.toArray ++ Array.replicate (fn.ntmps - vals.toArray.size) undef).getD i undef = vals[i] := by
        simp [Array.getElem?_append, hi']
      simp only
      rw [this]
      exact hv i x _ hx (List.getElem?_eq_getElem hi')
  refine wpIn_mono ((ev_sound hT hm c _ _ _ h).run b t _ w (Nat.le_refl 1) hsim) ?_
  rintro e a' w' ⟨σ', n', hk, g', hs, hfs, hE, _⟩
  have fin : ∀ vs, resVs σ' T fn.results.toList = some vs → finK SubV σ' (oneOr vs) res → LeavesInM Fence.wide 0 P fn a'.tmps (fun e w' => ∃ v' F', e = .returned v' ∧ (Below w.heap.size w w' ∧ w.drawn ≤ w'.drawn) ∧ (∀ k o, F k o → F' k o) ∧ (∀ k o, F' k o → F k o ∨ (w.heap.size ≤ k ∧ k < w'.heap.size)) ∧ PRep w' F' res v') a'.defers .returning w' := by
    intro vs hvs hfin
    refine leaves_marks hfs.defers fun w'' hsh => ?_
    have hs := hs.shut hsh (Nat.le_refl _)
    have hf2 : FSim (Base.W b).heap.size fn.ntmps σ' g' ⟨a'.tmps, []⟩ w'' := ⟨hfs.size, trivial, fun i hi => (hfs.rep i hi).monoC (hsh.evC g')⟩
    obtain ⟨val, hrun, hrep⟩ := results_one hT hs hf2 hro hvs
    refine ⟨val, hrun, val, fun k o => g'.F k o ∨ (w.heap.size ≤ k ∧ k < w''.heap.size), rfl, ⟨hs.below.below (fun _ h => h), Nat.le_trans hE.drawn (Nat.le_of_eq hsh.drawn.symm)⟩, fun k o hk => .inl (hs.f0 k o hk), fun k o hk => ?_, ?_⟩
    · rcases hk with hk | hk
      · rcases Nat.lt_or_ge k w.heap.size with h1 | h1
        · exact .inl (hs.f1 k o hk h1 (fun h => h))
        · exact .inr ⟨h1, hs.flt k o hk⟩
      · exact .inr hk
    · unfold finK at hfin
      cases hp : pureFull (oneOr vs) with
      | true =>
        simp only [hp] at hfin
        have hfin := normV_iff.1 hfin
        exact hfin.rep _ _ _ ((pureFull_rep hp hrep).mono fun k o hk => ⟨.inl hk, rfl⟩)
      | false =>
        simp only [hp] at hfin
        exact hfin.rep hs (fun k o hk => .inl hk) (fun id c hc hl o => by
          obtain ⟨c', h1, h2, h3, _⟩ := hs.live id hl
          rw [hc] at h1; cases h1
          exact .inr ⟨h2.resolve_right (fun h => h), h3⟩) hrep
  cases e with
  | normal =>
    simp only [retK] at hk
    cases hvs : resVs σ' T fn.results.toList with
    | none => simp only [hvs] at hk
    | some vs =>
      simp only [hvs] at hk
      exact fin vs hvs hk
  | ret =>
    simp only [retK] at hk
    cases hvs : resVs σ' T fn.results.toList with
    | none => simp only [hvs] at hk
    | some vs =>
      simp only [hvs] at hk
      exact fin vs hvs hk
  | _ => exact hk.elim
/-- .. called on a map of the caller's own, that is all it is given. -/
theorem AC.of_pm {f : FuncId} {res : V} {n m clock : Nat} {es : Es} {K : V → St → Nat → Prop} (hp : PM P f clock es [.mp 0] res) (hs : σ (.blk m) = .obj (.mp clock es)) (hk : K res σ n) : AC P f [.mp m] σ n K := by
  refine ⟨hp.enters, fun b g w vals h hl hv => ?_⟩
  match vals, hl with
  | [v], _ =>
    obtain ⟨c, hc, e⟩ := (hv 0 _ v rfl rfl).mp_inv
    subst e
    obtain ⟨arr, h1, h2⟩ := h.obj m _ c hs hc
    refine (hp.run w g.F c arr [.map (some c)] h.gok h.flt h1 h2 rfl (fun i x u hx hu => ?_)).mono ?_
    · match i, hx, hu with
      | 0, hx, hu => cases hx; cases hu; exact .mp (by simp [G.one])
      | i + 1, hx, _ => cases hx
    · rintro e w' ⟨v, F', rfl, h2, h3, h4, h5⟩
      exact ⟨v, res, σ, n, { g with F := F' }, rfl, hk, Nat.le_refl _, .pure h5, h.grow h2.1 h2.2 h3 h4, h.evGrow h2.1 h2.2 h3⟩
end Go.Am

namespace Go.Am
open Go.RowKit

variable {P : Program} {T : Tab} {b : Base P} {t : Top} {σ : St} {D : Nat → Prop} {g : G} {a : Act} {w : World}

mutual
/-- A value that holds no cells that never turn. -/
def safeV : V → Bool
  | .lst _ _ [] .none => true
  | .lst _ _ [] .tight => true
  | .lst _ _ _ _ => false
  | .lptr _ _ => false
  | .agg cs => safeL cs
  | .tup cs => safeL cs
  | .func _ fs cs => match safeL fs with | true => safeL cs | false => false
  | .iface _ v => safeV v
  | _ => true
def safeL : List V → Bool
  | [] => true
  | x :: l => match safeV x with | true => safeL l | false => false
end
def safeC : C → Bool
  | .v x => safeV x
  | .box _ cells => safeL cells
  | .it _ _ => true
  | .obj (.mit _ _ _ _) => true
  | .ro _ => true
  | .none => true
  | _ => false
def safeE : List (Loc × C) → Bool
  | [] => true
  | (.row _, _) :: _ => false
  | (_, c) :: es => match safeC c with | true => safeE es | false => false
theorem safeL_get : ∀ {l : List V}, safeL l = true → ∀ (i : Nat) (x : V), l[i]? = some x → safeV x = true
  | [], _, i, x, h => by simp at h
  | c :: cs, hc, i, x, h => by
    simp only [safeL] at hc
    cases hx : safeV c with
    | false => simp [hx] at hc
    | true =>
      simp only [hx] at hc
      cases i with
      | zero => simp at h; subst h; exact hx
      | succ i => exact safeL_get hc i x (by simpa using h)
theorem safeE_get : ∀ {es : List (Loc × C)}, safeE es = true → (∀ l, safeC (ofL es l) = true) ∧ ∀ k, ofL es (.row k) = .none
  | [], _ => ⟨fun _ => rfl, fun _ => rfl⟩
  | (l', c) :: es, h => by
    have step : safeE es = true ∧ safeC c = true ∧ ∀ k, l' ≠ .row k := by
      cases l' with
      | row k => cases h
      | tmp k =>
        simp only [safeE] at h
        cases hb : safeC c with
        | false => simp [hb] at h
        | true => simp only [hb] at h; exact ⟨h, rfl, fun k e => by cases e⟩
      | blk k =>
        simp only [safeE] at h
        cases hb : safeC c with
        | false => simp [hb] at h
        | true => simp only [hb] at h; exact ⟨h, rfl, fun k e => by cases e⟩
    obtain ⟨h1, h2, h3⟩ := step
    obtain ⟨q1, q2⟩ := safeE_get h1
    refine ⟨fun l => ?_, fun k => ?_⟩
    · by_cases e : l = l'
      · subst e; rw [ofL, upd_same]; exact h2
      · rw [ofL, upd_ne e]; exact q1 l
    · rw [ofL, upd_ne (fun e => h3 k e.symm)]; exact q2 k
theorem PRep.safe {F F' : Nat → Nat → Prop} {x : V} {v : Value} (h : PRep w F x v) (hx : safeV x = true) : PRep w F' x v := by
  induction h with
  | int k n => exact .int k n
  | bool b => exact .bool b
  | tt => exact .tt
  | ff => exact .ff
  | str h => exact .str h
  | agg hl _ ih => simp only [safeV] at hx; exact .agg hl (fun i x v h1 h2 => ih i x v h1 h2 (safeL_get hx i x h1))
  | tup hl _ ih => simp only [safeV] at hx; exact .tup hl (fun i x v h1 h2 => ih i x v h1 h2 (safeL_get hx i x h1))
  | nilp => exact .nilp
  | @lst isNil sz els ad c vals hnil hc hsz ha hone _ ih =>
    cases els with
    | nil => exact .lst vals hnil hc hsz (fun i el j x h1 => by simp at h1) hone (fun i el j x h1 => by simp at h1)
    | cons e es => simp [safeV] at hx
  | func f => exact .func f
  | nilf => exact .nilf
  | iface _ ih => simp only [safeV] at hx; exact .iface (ih hx)
  | nili => exact .nili
theorem Rep.safe {g' : G} {m : Nat} {x : V} {v : Value} (h : Rep w g x v) (hx : safeV x = true) (hr : refsV m x = true) (hown : ∀ i c, i < m → g.own i = some c → g'.own i = some c) : Rep w g' x v := by
  induction h with
  | pure h => exact .pure (h.safe hx)
  | agg hl _ ih => simp only [safeV] at hx; simp only [refsV] at hr; exact .agg hl (fun i x v h1 h2 => ih i x v h1 h2 (safeL_get hx i x h1) (refsL_get hr i x h1))
  | tup hl _ ih => simp only [safeV] at hx; simp only [refsV] at hr; exact .tup hl (fun i x v h1 h2 => ih i x v h1 h2 (safeL_get hx i x h1) (refsL_get hr i x h1))
  | ptr h => simp only [refsV] at hr; exact .ptr (hown _ _ (blt_lt hr) h)
  | lptr vals ha h => simp [safeV] at hx
  | lst h ht =>
    rename_i isNil sz els tk ad n c
    cases els with
    | cons e es => cases tk <;> simp [safeV] at hx
    | nil =>
      cases tk with
      | none => exact .lst (h.safe rfl) trivial
      | tight => exact .lst (h.safe rfl) ht
      | row id => simp [safeV] at hx
      | brow id => simp [safeV] at hx
  | own h ha hs hl hf => simp only [refsV] at hr; exact .own (hown _ _ (blt_lt hr) h) ha hs hl hf
  | func hl hm _ _ ih1 ih2 =>
    simp only [safeV] at hx
    simp only [refsV] at hr
    rename_i fs cs _ _ _ _
    cases hfs : safeL fs with
    | false => simp [hfs] at hx
    | true =>
      simp only [hfs] at hx
      cases hrs : refsL m fs with
      | false => simp [hrs] at hr
      | true =>
        simp only [hrs] at hr
        exact .func hl hm (fun i x v h1 h2 => ih1 i x v h1 h2 (safeL_get hfs i x h1) (refsL_get hrs i x h1)) (fun i x v h1 h2 => ih2 i x v h1 h2 (safeL_get hx i x h1) (refsL_get hr i x h1))
  | iface _ ih => simp only [safeV] at hx; simp only [refsV] at hr; exact .iface (ih hx hr)
  | it h => simp only [refsV] at hr; exact .it (hown _ _ (blt_lt hr) h)
  | yield h => simp only [refsV] at hr; exact .yield (hown _ _ (blt_lt hr) h)
  | mp h => simp only [refsV] at hr; exact .mp (hown _ _ (blt_lt hr) h)
  | junk => exact .junk

/-- A row that nothing else of what is listed looks at becomes memory of the call's own. -/
theorem AW.thaw {r : Option Nat} {nt lo n m : Nat} {c : Code} {K : Exit → St → Nat → Prop} {es : List (Loc × C)} (s id : Nat) {isNil : Bool} {sz : Nat} {els : List (List V)} {bt : TypeId} (he : WeakL σ m es) (h0 : lo ≤ m) (hsafe : safeE es = true) (hsn : s < nt)
    (hs : σ (.tmp s) = .v (.lst isNil sz els (.brow id))) (hrow : σ (.row id) = .row bt sz els.length) (hid : lo ≤ id) (hne : els ≠ []) (hels : ∀ el ∈ els, ∀ x ∈ el, safeV x = true)
    (h : AW P r nt lo c (ofL ((.tmp s, .v (.own m 0 sz els.length true)) :: (.blk m, .mem bt els.flatten) :: es)) (m + 1) K) : AW P r nt lo c σ n K := by
  refine ⟨fun b t a w hl hsim => h.run b t a w hl ?_⟩
  obtain ⟨g, hh, hf, hE, hn⟩ := hsim
  obtain ⟨q1, q2⟩ := safeE_get hsafe
  have hslot := hf.rep s hsn
  unfold tmpV at hslot
  rw [hs] at hslot
  obtain ⟨ad, cap, hv, hp, ht⟩ := hslot.lst_inv
  obtain ⟨bk, N, t1, t2, t3⟩ := ht
  obtain ⟨bk', r1, r2⟩ := hh.row id bt sz els.length hrow
  rw [r1] at t1
  obtain ⟨e1, e2⟩ : bk' = bk ∧ els.length = N := by cases t1; exact ⟨rfl, rfl⟩
  subst e1 e2
  have hpos : 0 < els.length := List.length_pos_iff.2 hne
  rcases t3 rfl with ⟨_, e⟩ | ⟨c1, bt', rfl, rfl, hshape⟩
  · omega
  obtain ⟨a1, a2, a3, a4, a5, arr, z, a6, a7⟩ := r2 c1 rfl
  have hnew : ∀ o, ¬ t.g0.F c1 o := by
    rcases hE.fresh id c1 _ r1 with ⟨N0, e⟩ | e
    · have := t.row id _ e; omega
    · exact e
  let g2 : G := ⟨fun k o => g.F k o ∧ k ≠ c1, fun i => if i = m then some c1 else if i < m then g.own i else none, fun i => if i < m ∧ i ≠ id then g.row i else none⟩
  have own1 : ∀ i k, i < m → g.own i = some k → g2.own i = some k := fun i k hi hk => by simp only [g2]; rw [if_neg (by omega), if_pos hi]; exact hk
  have own2 : ∀ i k, g2.own i = some k → (i = m ∧ k = c1) ∨ (i < m ∧ g.own i = some k) := fun i k hk => by
    simp only [g2] at hk
    split at hk
    · cases hk; exact .inl ⟨by assumption, rfl⟩
    · split at hk
      · exact .inr ⟨by assumption, hk⟩
      · cases hk
  let σ2 : St := ofL ((.tmp s, .v (.own m 0 sz els.length true)) :: (.blk m, .mem bt els.flatten) :: es)
  have sm : σ2 (.blk m) = .mem bt els.flatten := by simp only [σ2, ofL]; rw [upd_ne (by intro e; cases e), upd_same]
  have sb : ∀ i, i ≠ m → σ2 (.blk i) = ofL es (.blk i) := fun i hi => by simp only [σ2, ofL]; rw [upd_ne (by intro e; cases e), upd_ne (by intro e; cases e; exact hi rfl)]
  have sr : ∀ i, σ2 (.row i) = .none := fun i => by simp only [σ2, ofL]; rw [upd_ne (by intro e; cases e), upd_ne (by intro e; cases e)]; exact q2 i
  have sbk : ∀ i, ofL es (.blk i) ≠ .none → ofL es (.blk i) = σ (.blk i) ∧ i < m ∧ refsC m (σ (.blk i)) = true := fun i hne => by
    rcases he.get (.blk i) with h1 | ⟨h1, h2, h3⟩
    · exact absurd h1 hne
    · exact ⟨h1, blt_lt h2, h3⟩
  have isb : ∀ i, (ofL es (.blk i)).isBlk = true → ofL es (.blk i) ≠ .none := fun i hl e => by rw [e] at hl; cases hl
  have harr : arr.length = cap * sz := by
    unfold World.shape? at hshape
    rw [a6] at hshape
    simpa using (congrArg (fun x : Option (TypeId × Nat) => x.map (·.2)) hshape)
  cases hp with
  | lst vals hnil hc hsz ha hone hrep =>
  have hcells : ∀ (p : Nat) (x : V) (v : Value), els.flatten[p]? = some x → arr[p]? = some v → PRep w g2.F x v := fun p x v hx hv => by
    obtain ⟨el, f1, f2, f3⟩ := flat_at sz els hsz p x hx
    obtain ⟨blk, base, g1', g2', g3'⟩ := ha _ el _ x f1 f2
    cases g1'
    rw [Nat.zero_add, f3] at g3'
    have hcv : w.cell? ⟨c1, p, none⟩ = some v := by rw [cell_row a6]; exact hv
    rw [hcv] at g3'
    cases g3'
    exact (hrep _ el _ x f1 f2).safe (hels el (List.mem_of_getElem? f1) x (List.mem_of_getElem? f2))
  refine ⟨g2, HSim.of_claims hh.below (fun k o hk => hh.flt k o hk.1) (fun k o hk => ⟨hh.f0 k o hk, fun e => by subst e; rcases a1 with a1 | a1; exact absurd (b.f0lt _ o hk) (by omega); exact b.f0x _ o hk a1⟩) (fun k o hk hlt hx => hh.f1 k o hk.1 hlt hx) (fun i k hk => ?_) (fun i x hx => ?_) (fun i k hk => ?_) (fun i k N hk => ?_)
    (fun i hl => ?_) (fun i k hl hk => ?_) (fun i j k hi hj hik hjk => ?_) (fun i Y k hY hk => ?_) (fun i t' sz' N hs' => by have h' : σ2 (.row i) = .row t' sz' N := hs'; rw [sr i] at h'; cases h'), ⟨hf.size, hf.defers, fun i hi => ?_⟩, ⟨⟨fun k o hk => ?_, fun i k hk => ?_, fun i bk N hr => ?_, fun i k N hr => ?_⟩, hE.size, hE.drawn, hE.dfr⟩, by omega⟩
  · rcases own2 i k hk with ⟨e, _⟩ | ⟨e, _⟩ <;> (show i < m + 1; omega)
  · simp only [g2] at hx
    split at hx
    · show i < m + 1; omega
    · cases hx
  · rcases own2 i k hk with ⟨_, e⟩ | ⟨_, e⟩
    · rw [e]; exact a2
    · exact hh.ownsz i k e
  · simp only [g2] at hk
    split at hk
    · exact hh.rowsz i k N hk
    · cases hk
  · by_cases him : i = m
    · subst him
      exact ⟨c1, by simp [g2], a1, a2, fun o ho => ho.2 rfl⟩
    · have hl' : (ofL es (.blk i)).isBlk = true := by rw [← sb i him]; exact hl
      obtain ⟨u1, u2, _⟩ := sbk i (isb i hl')
      obtain ⟨k, v1, v2, v3, v4⟩ := hh.live i (by rw [← u1]; exact hl')
      exact ⟨k, own1 i k u2 v1, v2, v3, fun o ho => v4 o ho.1⟩
  · by_cases him : i = m
    · subst him
      rcases own2 i k hk with ⟨_, e⟩ | ⟨e, _⟩
      · subst e
        show Claim w g2 k (σ2 (.blk i))
        rw [sm]
        exact ⟨arr, z, a6, by rw [flat_len sz els hsz, harr]; exact Nat.mul_le_mul_right _ hc, a7, hcells⟩
      · omega
    · have hl' : (ofL es (.blk i)).isBlk = true := by rw [← sb i him]; exact hl
      obtain ⟨u1, u2, u3⟩ := sbk i (isb i hl')
      rcases own2 i k hk with ⟨e, _⟩ | ⟨_, hk'⟩
      · exact absurd e him
      show Claim w g2 k (σ2 (.blk i))
      rw [sb i him]
      have hcl := hh.claim hk'
      have hsf := q1 (.blk i)
      rw [u1] at hsf ⊢
      cases hx : σ (.blk i) with
      | box t' cells =>
        rw [hx] at hcl hsf u3
        obtain ⟨arr', w1, w2, w3⟩ := hcl
        exact ⟨arr', w1, w2, fun j x v h1 h2 => (w3 j x v h1 h2).safe (safeL_get hsf j x h1) (refsL_get u3 j x h1) own1⟩
      | it s' pos => rw [hx] at hcl; exact hcl
      | obj X =>
        rw [hx] at hcl hsf u3
        cases X with
        | mp clock es' => cases hsf
        | mit k' since seen last =>
          obtain ⟨q, w1, w2⟩ := hcl
          exact ⟨q, own1 _ _ (blt_lt u3) w1, w2⟩
      | mem _ _ => rw [hx] at hsf; cases hsf
      | loop => rw [hx] at hsf; cases hsf
      | _ => trivial
  · by_cases him : i = m
    · by_cases hjm : j = m
      · rw [him, hjm]
      · have hj' : (ofL es (.blk j)).isBlk = true := by rw [← sb j hjm]; exact hj
        obtain ⟨u1, u2, _⟩ := sbk j (isb j hj')
        rcases own2 j k hjk with ⟨e, _⟩ | ⟨_, hk'⟩
        · exact absurd e hjm
        rcases own2 i k hik with ⟨_, e⟩ | ⟨e, _⟩
        · subst e
          exact absurd hk' (a4 j (by rw [← u1]; exact hj'))
        · omega
    · have hi' : (ofL es (.blk i)).isBlk = true := by rw [← sb i him]; exact hi
      obtain ⟨u1, u2, _⟩ := sbk i (isb i hi')
      rcases own2 i k hik with ⟨e, _⟩ | ⟨_, hk'⟩
      · exact absurd e him
      by_cases hjm : j = m
      · rcases own2 j k hjk with ⟨_, e⟩ | ⟨e, _⟩
        · subst e
          exact absurd hk' (a4 i (by rw [← u1]; exact hi'))
        · omega
      · have hj' : (ofL es (.blk j)).isBlk = true := by rw [← sb j hjm]; exact hj
        obtain ⟨v1, v2, _⟩ := sbk j (isb j hj')
        rcases own2 j k hjk with ⟨e, _⟩ | ⟨_, hk''⟩
        · exact absurd e hjm
        exact hh.inj i j k (by rw [← u1]; exact hi') (by rw [← v1]; exact hj') hk' hk''
  · by_cases him : i = m
    · subst him
      have hY : σ2 (.blk i) = .ro Y := hY
      rw [sm] at hY; cases hY
    · have hY : σ2 (.blk i) = .ro Y := hY
      rw [sb i him] at hY
      obtain ⟨u1, _, _⟩ := sbk i (by rw [hY]; simp)
      rcases own2 i k hk with ⟨e, _⟩ | ⟨_, hk'⟩
      · exact absurd e him
      exact hh.ro i Y k (by rw [← u1]; exact hY) hk'
  · by_cases hi2 : i = s
    · subst hi2
      show Rep w g2 (tmpV σ2 i) _
      have e : tmpV σ2 i = .own m 0 sz els.length true := by unfold tmpV; simp only [σ2, ofL]; rw [upd_same]
      rw [e, hv]
      exact .own (by simp [g2]) (fun _ => rfl) rfl hc (fun _ => ⟨rfl, rfl, bt', hshape⟩)
    · show Rep w g2 (tmpV σ2 i) _
      have e : σ2 (.tmp i) = ofL es (.tmp i) := by simp only [σ2, ofL]; rw [upd_ne (by intro e; cases e; exact hi2 rfl), upd_ne (by intro e; cases e)]
      unfold tmpV
      rw [e]
      rcases he.get (.tmp i) with h1 | ⟨h1, _, h3⟩
      · rw [h1]; exact .junk
      · have hr := hf.rep i hi
        have hsf := q1 (.tmp i)
        unfold tmpV at hr
        rw [h1] at hsf ⊢
        cases hx : σ (.tmp i) with
        | v x => rw [hx] at hr h3 hsf; exact hr.safe hsf h3 own1
        | _ => exact .junk
  · obtain ⟨u1, u2⟩ := hE.F k o hk
    exact ⟨⟨u1, fun e => by subst e; exact hnew o hk⟩, u2⟩
  · obtain ⟨u1, u2⟩ := hE.own i k hk
    exact ⟨own1 i k (by have := t.own i k hk; omega) u1, u2⟩
  · have h1 := t.row i _ hr
    obtain ⟨bk', N', u1, u2, u3⟩ := hE.row i bk N hr
    exact ⟨bk', N', by simp only [g2]; rw [if_pos ⟨by omega, by omega⟩]; exact u1, u2, u3⟩
  · simp only [g2] at hr
    split at hr
    · exact hE.fresh i k N hr
    · cases hr
end Go.Am

namespace Go.Am
open Go.RowKit

variable {P : Program} {T : Tab} {b : Base P} {t : Top} {σ : St} {D : Nat → Prop} {g : G} {a : Act} {w : World}

/-- A value that names blocks below m alone is the same by another ghost that agrees there. -/
theorem Rep.agree {g' : G} {m : Nat} {x : V} {v : Value} (h : Rep w g x v) (hx : refsV m x = true) (hF : g'.F = g.F) (ho : ∀ i, i < m → g'.own i = g.own i) (hr : ∀ i, i < m → g'.row i = g.row i) : Rep w g' x v := by
  induction h with
  | pure h => exact .pure (by rw [hF]; exact h)
  | agg hl _ ih =>
    simp only [refsV] at hx
    exact .agg hl (fun i x v h1 h2 => ih i x v h1 h2 (refsL_get hx i x h1))
  | tup hl _ ih =>
    simp only [refsV] at hx
    exact .tup hl (fun i x v h1 h2 => ih i x v h1 h2 (refsL_get hx i x h1))
  | ptr h => simp only [refsV] at hx; exact .ptr (by rw [ho _ (blt_lt hx)]; exact h)
  | lptr vals ha h => exact .lptr vals (by rw [hF]; exact ha) (by rw [hF]; exact h)
  | lst h ht =>
    refine .lst (by rw [hF]; exact h) ?_
    rename_i tk _ _ _
    cases tk with
    | none => trivial
    | tight => exact ht
    | row id =>
      simp only [refsV] at hx
      obtain ⟨bk, N, h1, h2, h3⟩ := ht
      exact ⟨bk, N, by rw [hr _ (blt_lt hx)]; exact h1, h2, h3⟩
    | brow id =>
      simp only [refsV] at hx
      obtain ⟨bk, N, h1, h2, h3⟩ := ht
      exact ⟨bk, N, by rw [hr _ (blt_lt hx)]; exact h1, h2, h3⟩
  | own h ha hs hl hf => simp only [refsV] at hx; exact .own (by rw [ho _ (blt_lt hx)]; exact h) ha hs hl hf
  | func hl hm _ _ ih1 ih2 =>
    simp only [refsV] at hx
    rename_i fs cs _ _ _ _
    cases hfs : refsL m fs with
    | false => simp [hfs] at hx
    | true =>
      simp only [hfs] at hx
      exact .func hl hm (fun i x v h1 h2 => ih1 i x v h1 h2 (refsL_get hfs i x h1)) (fun i x v h1 h2 => ih2 i x v h1 h2 (refsL_get hx i x h1))
  | iface _ ih =>
    simp only [refsV] at hx
    exact .iface (ih hx)
  | it h => simp only [refsV] at hx; exact .it (by rw [ho _ (blt_lt hx)]; exact h)
  | yield h => simp only [refsV] at hx; exact .yield (by rw [ho _ (blt_lt hx)]; exact h)
  | mp h => simp only [refsV] at hx; exact .mp (by rw [ho _ (blt_lt hx)]; exact h)
  | junk => exact .junk
theorem Claim.agree {g' : G} {m c : Nat} {X : C} (h : Claim w g c X) (hx : refsC m X = true) (hF : g'.F = g.F) (ho : ∀ i, i < m → g'.own i = g.own i) (hr : ∀ i, i < m → g'.row i = g.row i) : Claim w g' c X := by
  cases X with
  | box t cells =>
    obtain ⟨arr, h1, h2, h3⟩ := h
    exact ⟨arr, h1, h2, fun i x v hx' hv => (h3 i x v hx' hv).agree (refsL_get hx i x hx') hF ho hr⟩
  | mem t cells =>
    obtain ⟨arr, z, h1, h2, h3, h4⟩ := h
    exact ⟨arr, z, h1, h2, h3, fun i x v hx' hv => by rw [hF]; exact h4 i x v hx' hv⟩
  | it s pos => exact h
  | obj X =>
    cases X with
    | mp clock es =>
      obtain ⟨arr, h1, h2, h3⟩ := h
      exact ⟨arr, h1, h2, fun i e x he hx' => by rw [hF]; exact h3 i e x he hx'⟩
    | mit k since seen last =>
      obtain ⟨q, q1, q2⟩ := h
      exact ⟨q, by rw [ho _ (by simp only [refsC] at hx; exact blt_lt hx)]; exact q1, q2⟩
  | loop st pend nt tm ps assign body =>
    obtain ⟨r, hr'⟩ := h
    exact ⟨r, hr'.heap, hr'.state, hr'.pending, hr'.size, hr'.params, hr'.assign, hr'.body, fun x hx' => ⟨(hr'.tmps x hx').1, (hr'.tmps x hx').2.agree (refsT_get hx x hx') hF ho hr⟩⟩
  | _ => trivial

/-- What a function hands out that is given blocks: a value that names these alone, or a map of its own. -/
inductive Out where
  | val (v : V)
  | map (clock : Nat) (es : Es)
def outV (n : Nat) : Out → V
  | .val v => v
  | .map _ _ => .mp n
/-- What is known behind it: the blocks below m are as they are told, all others as they were; a map is block n. -/
def overS (σ : St) (m n : Nat) (es : List (Loc × C)) (x : Out) : St := fun l => match l with
  | .tmp i => σ (.tmp i)
  | .row i => match Nat.blt i m with | true => ofL es (.row i) | false => σ (.row i)
  | .blk i => match Nat.blt i m with
    | true => ofL es (.blk i)
    | false => match x with
      | .val _ => σ (.blk i)
      | .map clock es => match Nat.beq i n with | true => .obj (.mp clock es) | false => σ (.blk i)
def OutOk (m : Nat) (σ : St) (v : V) : Out → Prop
  | .val r => v = r ∧ refsV m r = true
  | .map clock es => ∃ k, m ≤ k ∧ v = .mp k ∧ σ (.blk k) = .obj (.mp clock es)
def noRo : List (Loc × C) → Bool
  | [] => true
  | (_, .ro _) :: _ => false
  | _ :: es => noRo es
theorem noRo_get : ∀ {es : List (Loc × C)}, noRo es = true → ∀ l X, ofL es l ≠ .ro X
  | [], _, l, X => by simp [ofL]
  | (l', c) :: es, h, l, X => by
    rw [ofL]
    by_cases e : l = l'
    · subst e
      rw [upd_same]
      intro h'
      subst h'
      cases h
    · rw [upd_ne e]
      refine noRo_get ?_ l X
      cases c <;> first | exact h | cases h
def givenK (m : Nat) (Q : Out → List (Loc × C) → Prop) (v : V) (σ : St) (_n : Nat) : Prop := ∃ x es, Q x es ∧ noRo es = true ∧ OutOk m σ v x ∧ WeakL σ m es

/-- A FUNCTION AMONG GIVEN BLOCKS: what it does where there are these alone, it does where there are more. -/
theorem AC.frame {f : FuncId} {args : List V} {m n : Nat} {K : V → St → Nat → Prop} {Q : Out → List (Loc × C) → Prop} {es : List (Loc × C)} (hw : WeakL σ m es) (hro : noRo es = true) (hmn : m ≤ n) (hargs : refsL m args = true)
    (h : AC P f args (ofL es) m (givenK m Q)) (hK : ∀ x es', Q x es' → K (outV n x) (overS σ m n es' x) (n + 1)) : AC P f args σ n K := by
  refine ⟨h.enters, fun b g w vals hs hvl hv => ?_⟩
  have cutown : ∀ id c, (g.cut m).own id = some c → g.own id = some c ∧ id < m := fun id c hc => by
    simp only [G.cut] at hc
    split at hc
    · exact ⟨hc, by assumption⟩
    · cases hc
  have cutrow : ∀ id c, (g.cut m).row id = some c → g.row id = some c ∧ id < m := fun id c hc => by
    simp only [G.cut] at hc
    split at hc
    · exact ⟨hc, by assumption⟩
    · cases hc
  have ownc : ∀ id, id < m → (g.cut m).own id = g.own id := fun id h => by simp [G.cut, h]
  have rowc : ∀ id, id < m → (g.cut m).row id = g.row id := fun id h => by simp [G.cut, h]
  have hb : ∀ id, ofL es (.blk id) ≠ .none → ofL es (.blk id) = σ (.blk id) ∧ id < m ∧ refsC m (σ (.blk id)) = true := fun id hne => by
    rcases hw.get (.blk id) with h1 | ⟨h1, h2, h3⟩
    · exact absurd h1 hne
    · exact ⟨h1, blt_lt h2, h3⟩
  have hrw : ∀ id, ofL es (.row id) ≠ .none → ofL es (.row id) = σ (.row id) ∧ id < m := fun id hne => by
    rcases hw.get (.row id) with h1 | ⟨h1, h2, h3⟩
    · exact absurd h1 hne
    · exact ⟨h1, blt_lt h2⟩
  have isb : ∀ id, (ofL es (.blk id)).isBlk = true → ofL es (.blk id) ≠ .none := fun id hl e => by rw [e] at hl; cases hl
  let ex : Nat → Prop := fun c => (∃ id, (ofL es (.blk id)).isBlk = true ∧ g.own id = some c) ∨ (∃ id t sz N N', ofL es (.row id) = .row t sz N ∧ g.row id = some (some c, N'))
  have exMine : ∀ c, ex c → b.Mine c := fun c hc => by
    rcases hc with ⟨id, h1, h2⟩ | ⟨id, t, sz, N, N', h1, h2⟩
    · obtain ⟨c', q1, q2, _⟩ := hs.live id (by rw [← (hb id (isb id h1)).1]; exact h1)
      rw [h2] at q1; cases q1; exact q2
    · obtain ⟨bk, q1, q2⟩ := hs.row id t sz N (by rw [← (hrw id (by rw [h1]; simp)).1]; exact h1)
      rw [h2] at q1; cases q1
      exact (q2 c rfl).1
  have hidden : ∀ id c, m ≤ id → (σ (.blk id)).isBlk = true → g.own id = some c → ¬ ex c := fun id c hm hl hc he => by
    rcases he with ⟨id', h1, h2⟩ | ⟨id', t, sz, N, N', h1, h2⟩
    · obtain ⟨e1, e2, _⟩ := hb id' (isb id' h1)
      have := hs.inj id id' c hl (by rw [← e1]; exact h1) hc h2
      omega
    · obtain ⟨bk, q1, q2⟩ := hs.row id' t sz N (by rw [← (hrw id' (by rw [h1]; simp)).1]; exact h1)
      rw [h2] at q1; cases q1
      exact (q2 c rfl).2.2.2.1 id hl hc
  have hiddenR : ∀ id t sz N c N', m ≤ id → σ (.row id) = .row t sz N → g.row id = some (some c, N') → ¬ ex c := fun id t sz N c N' hm hl hc he => by
    obtain ⟨bk, q1, q2⟩ := hs.row id t sz N hl
    rw [hc] at q1; cases q1
    rcases he with ⟨id', h1, h2⟩ | ⟨id', t', sz', M, M', h1, h2⟩
    · exact (q2 c rfl).2.2.2.1 id' (by rw [← (hb id' (isb id' h1)).1]; exact h1) h2
    · obtain ⟨e1, e2⟩ := hrw id' (by rw [h1]; simp)
      have := (q2 c rfl).2.2.2.2.1 id' t' sz' M M' (by rw [← e1]; exact h1) h2
      omega
  have notMine : ∀ k, k < b.W.heap.size → ¬ b.ex k → ¬ ex k := fun k h1 h2 h3 => by
    rcases exMine k h3 with h | h
    · omega
    · exact h2 h
  have tr : ∀ {w' : World}, BelowX ex w.heap.size w w' → BelowX b.ex b.W.heap.size b.W w' := fun {w'} hx => by
    have hsz := hs.below.size
    exact hs.below.trans ⟨hx.os, hx.tape, hx.output, hx.size, fun k hk hn => hx.block k (by omega) (notMine k hk hn), fun k hk => hx.shape k (by omega)⟩
  let b' : Base P := ⟨w, fun k o => g.F k o ∧ ¬ ex k, ex, fun w' hx => b.gok w' (tr hx), fun k o hk => hs.flt k o hk.1, fun _ _ hk => hk.2⟩
  have hsim : HSim b' (ofL es) (· < m) (g.cut m) w := by
    refine HSim.of_claims (BelowX.refl _ _ _) hs.flt (fun _ _ hk => hk.1) (fun k o hk _ hx => ⟨hk, hx⟩) (fun id c hc => (cutown id c hc).2) (fun id c hc => (cutrow id c hc).2) (fun id c hc => hs.ownsz id c (cutown id c hc).1) (fun id c N hc => hs.rowsz id c N (cutrow id _ hc).1)
      (fun id hl => ?_) (fun id c hl hc => ?_) (fun i j k hi hj hci hcj => ?_) (fun id Y c hs' _ => absurd hs' (noRo_get hro _ _)) (fun id t' sz N hs' => ?_)
    · obtain ⟨e1, e2, _⟩ := hb id (isb id hl)
      obtain ⟨c, h1, h2, h3, h4⟩ := hs.live id (by rw [← e1]; exact hl)
      exact ⟨c, by rw [ownc id e2]; exact h1, .inr (.inl ⟨id, hl, h1⟩), h3, h4⟩
    · obtain ⟨e1, e2, e3⟩ := hb id (isb id hl)
      rw [e1] at hl ⊢
      exact (hs.claim (cutown id c hc).1).agree e3 rfl ownc rowc
    · obtain ⟨e1, _, _⟩ := hb i (isb i hi)
      obtain ⟨e2, _, _⟩ := hb j (isb j hj)
      exact hs.inj i j k (by rw [← e1]; exact hi) (by rw [← e2]; exact hj) (cutown _ _ hci).1 (cutown _ _ hcj).1
    · obtain ⟨e1, e2⟩ := hrw id (by rw [hs']; simp)
      obtain ⟨bk, h1, h2⟩ := hs.row id t' sz N (by rw [← e1]; exact hs')
      refine ⟨bk, by rw [rowc id e2]; exact h1, fun k hk => ?_⟩
      obtain ⟨b1, b2, b3, b4, b5, b6⟩ := h2 k hk
      refine ⟨.inr (.inr ⟨id, t', sz, N, N, hs', by rw [h1, hk]⟩), b2, b3, fun j hl hc => ?_, fun j t'' sz'' M M' hj hr => ?_, b6⟩
      · obtain ⟨e3, _, _⟩ := hb j (isb j hl)
        exact b4 j (by rw [← e3]; exact hl) (cutown _ _ hc).1
      · obtain ⟨e3, _⟩ := hrw j (by rw [hj]; simp)
        exact b5 j t'' sz'' M M' (by rw [← e3]; exact hj) (cutrow _ _ hr).1
  refine (h.run b' (g.cut m) w vals hsim hvl fun i x v hx hv' => (hv i x v hx hv').agree (refsL_get hargs i x hx) rfl ownc rowc).mono ?_
  rintro e w' ⟨v, x, σ1, n1, g1, rfl, ⟨y, es', hq, hro', hout, hw'⟩, hmn1, hrep, hs1, hE⟩
  have hb1 : ∀ id, ofL es' (.blk id) ≠ .none → ofL es' (.blk id) = σ1 (.blk id) ∧ id < m ∧ refsC m (σ1 (.blk id)) = true := fun id hne => by
    rcases hw'.get (.blk id) with h1 | ⟨h1, h2, h3⟩
    · exact absurd h1 hne
    · exact ⟨h1, blt_lt h2, h3⟩
  have hrw1 : ∀ id, ofL es' (.row id) ≠ .none → ofL es' (.row id) = σ1 (.row id) ∧ id < m := fun id hne => by
    rcases hw'.get (.row id) with h1 | ⟨h1, h2, h3⟩
    · exact absurd h1 hne
    · exact ⟨h1, blt_lt h2⟩
  have isb1 : ∀ id, (ofL es' (.blk id)).isBlk = true → ofL es' (.blk id) ≠ .none := fun id hl e => by rw [e] at hl; cases hl
  have hsz : w.heap.size ≤ w'.heap.size := hE.size
  have hfr := hs.fresh
  -- the new map's block
  obtain ⟨kk, hkk⟩ : ∃ kk : Option Nat, (∀ c, kk = some c → ∃ clock el k, y = .map clock el ∧ m ≤ k ∧ σ1 (.blk k) = .obj (.mp clock el) ∧ x = .mp k ∧ g1.own k = some c) ∧ (∀ clock el, y = .map clock el → kk ≠ none) := by
    cases y with
    | val r => exact ⟨none, (fun c hc => by cases hc), (fun _ _ hc => by cases hc)⟩
    | map clock el =>
      obtain ⟨k, q1, q2, q3⟩ := hout
      obtain ⟨c, q4, _⟩ := hs1.live k (by rw [q3]; rfl)
      exact ⟨some c, (fun c' hc' => ⟨clock, el, k, rfl, q1, q3, q2, by cases hc'; exact q4⟩), (fun _ _ _ => by simp)⟩
  let g' : G := ⟨g1.F, fun i => if i < m then g1.own i else if i = n then kk else g.own i, fun i => if i < m then g1.row i else g.row i⟩
  have go1 : ∀ i, i < m → g'.own i = g1.own i := fun i hi => by simp [g', hi]
  have gr1 : ∀ i, i < m → g'.row i = g1.row i := fun i hi => by simp [g', hi]
  have go2 : ∀ i, m ≤ i → i ≠ n → g'.own i = g.own i := fun i hi hn => by simp [g', hn, Nat.not_lt.2 hi]
  have gon : g'.own n = kk := by simp [g', Nat.not_lt.2 hmn]
  have gr2 : ∀ i, m ≤ i → g'.row i = g.row i := fun i hi => by simp [g', Nat.not_lt.2 hi]
  have hF1 : ∀ c o, g1.F c o → c < w.heap.size → ¬ ex c → g.F c o := fun c o h1 h2 h3 => (hs1.f1 c o h1 h2 h3).1
  have hC : EvC g w g' w' := by
    refine ⟨hE.F, fun id c hc => ?_, fun id bk N hr => ?_, fun id c N hr => ?_⟩
    · by_cases hi : id < m
      · rw [go1 id hi]; exact hE.own id c (by rw [ownc id hi]; exact hc)
      · rw [go2 id (by omega) (fun e => by rw [e, hfr.1] at hc; cases hc)]
        exact ⟨hc, hs1.below.shape c (hs.ownsz id c hc)⟩
    · by_cases hi : id < m
      · rw [gr1 id hi]; exact hE.row id bk N (by rw [rowc id hi]; exact hr)
      · rw [gr2 id (by omega)]
        exact ⟨bk, N, hr, Nat.le_refl _, fun _ => ⟨rfl, fun c hc => hs1.below.shape c (hs.rowsz id c N (by rw [hr, hc]))⟩⟩
    · by_cases hi : id < m
      · rw [gr1 id hi] at hr
        rcases hE.fresh id c N hr with ⟨N0, h1⟩ | h1
        · exact .inl ⟨N0, (cutrow id _ h1).1⟩
        · exact .inr h1
      · rw [gr2 id (by omega)] at hr
        exact .inl ⟨N, hr⟩
  have ob : ∀ id, id < m → overS σ m n es' y (.blk id) = ofL es' (.blk id) := fun id hi => by
    have : Nat.blt id m = true := by rw [Nat.blt_eq]; exact hi
    simp only [overS, this]
  have ob2 : ∀ id, m ≤ id → id ≠ n → overS σ m n es' y (.blk id) = σ (.blk id) := fun id hi hne => by
    have h1 : Nat.blt id m = false := by
      cases hb : Nat.blt id m with
      | false => rfl
      | true => have := blt_lt hb; omega
    have h2 : Nat.beq id n = false := by
      cases hb : Nat.beq id n with
      | false => rfl
      | true => exact absurd (Nat.eq_of_beq_eq_true hb) hne
    simp only [overS, h1]
    cases y <;> simp only [h2]
  have obn : overS σ m n es' y (.blk n) = match y with | .val _ => σ (.blk n) | .map clock el => .obj (.mp clock el) := by
    have h1 : Nat.blt n m = false := by
      cases hb : Nat.blt n m with
      | false => rfl
      | true => have := blt_lt hb; omega
    have h2 : Nat.beq n n = true := Nat.beq_refl n
    simp only [overS, h1]
    cases y <;> simp only [h2]
  have orr : ∀ id, id < m → overS σ m n es' y (.row id) = ofL es' (.row id) := fun id hi => by
    have : Nat.blt id m = true := by rw [Nat.blt_eq]; exact hi
    simp only [overS, this]
  have orr2 : ∀ id, m ≤ id → overS σ m n es' y (.row id) = σ (.row id) := fun id hi => by
    have h1 : Nat.blt id m = false := by
      cases hb : Nat.blt id m with
      | false => rfl
      | true => have := blt_lt hb; omega
    simp only [overS, h1]
  -- of what kind a block in use is
  have kind : ∀ id c, (overS σ m n es' y (.blk id)).isBlk = true → g'.own id = some c →
      (∃ k, (id < m ∧ k = id ∨ id = n ∧ m ≤ k) ∧ (σ1 (.blk k)).isBlk = true ∧ g1.own k = some c ∧ overS σ m n es' y (.blk id) = σ1 (.blk k)) ∨ (m ≤ id ∧ (σ (.blk id)).isBlk = true ∧ g.own id = some c ∧ overS σ m n es' y (.blk id) = σ (.blk id)) := fun id c hl hc => by
    by_cases hi : id < m
    · rw [ob id hi] at hl ⊢
      obtain ⟨e1, _, _⟩ := hb1 id (isb1 id hl)
      exact .inl ⟨id, .inl ⟨hi, rfl⟩, by rw [← e1]; exact hl, by rw [← go1 id hi]; exact hc, e1⟩
    · by_cases hn : id = n
      · subst hn
        rw [gon] at hc
        obtain ⟨clock, el, k, e1, e2, e3, e4, e5⟩ := hkk.1 c hc
        subst e1
        exact .inl ⟨k, .inr ⟨rfl, e2⟩, by rw [e3]; rfl, e5, by rw [obn, e3]⟩
      · rw [ob2 id (by omega) hn] at hl ⊢
        rw [go2 id (by omega) hn] at hc
        exact .inr ⟨by omega, hl, hc, rfl⟩
  have new1 : ∀ k c, (σ1 (.blk k)).isBlk = true → g1.own k = some c → w.heap.size ≤ c ∨ ex c := fun k c hl hc => by
    obtain ⟨c', q1, q2, _⟩ := hs1.live k hl
    rw [hc] at q1; cases q1; exact q2
  have old1 : ∀ id c, m ≤ id → (σ (.blk id)).isBlk = true → g.own id = some c → ¬ (w.heap.size ≤ c ∨ ex c) := fun id c hm hl hc h => by
    rcases h with h | h
    · have := hs.ownsz id c hc; omega
    · exact hidden id c hm hl hc h
  have mine1 : ∀ c, w.heap.size ≤ c ∨ ex c → b.Mine c := fun c h => by
    rcases h with h | h
    · exact .inl (Nat.le_trans hs.below.size h)
    · exact exMine c h
  have hout' : HSim b (overS σ m n es' y) (· < n + 1) g' w' := by
    refine HSim.of_claims (tr hs1.below) hs1.flt (fun k o hk => (hE.F k o (hs.f0 k o hk)).1) (fun k o hk hlt hx => hs.f1 k o (hF1 k o hk (Nat.lt_of_lt_of_le hlt hs.below.size) (notMine k hlt hx)) hlt hx)
      (fun id c hc => ?_) (fun id c hc => ?_) (fun id c hc => ?_) (fun id c N hc => ?_) (fun id hl => ?_) (fun id c hl hc => ?_) (fun i j c hi hj hci hcj => ?_) (fun id Y c hs' hc => ?_) (fun id t' sz N hs' => ?_)
    · by_cases hi : id < m
      · show id < n + 1; omega
      · by_cases hn : id = n
        · show id < n + 1; omega
        · rw [go2 id (by omega) hn] at hc
          have := hs.ownlt id c hc
          show id < n + 1; omega
    · by_cases hi : id < m
      · show id < n + 1; omega
      · rw [gr2 id (by omega)] at hc
        have := hs.rowlt id c hc
        show id < n + 1; omega
    · by_cases hi : id < m
      · rw [go1 id hi] at hc; exact hs1.ownsz id c hc
      · by_cases hn : id = n
        · subst hn
          rw [gon] at hc
          obtain ⟨_, _, k, _, _, _, _, e5⟩ := hkk.1 c hc
          exact hs1.ownsz k c e5
        · rw [go2 id (by omega) hn] at hc
          exact Nat.lt_of_lt_of_le (hs.ownsz id c hc) hsz
    · by_cases hi : id < m
      · rw [gr1 id hi] at hc; exact hs1.rowsz id c N hc
      · rw [gr2 id (by omega)] at hc
        exact Nat.lt_of_lt_of_le (hs.rowsz id c N hc) hsz
    · -- live
      by_cases hi : id < m
      · rw [ob id hi] at hl
        obtain ⟨e1, _, _⟩ := hb1 id (isb1 id hl)
        obtain ⟨c, h1, h2, h3, h4⟩ := hs1.live id (by rw [← e1]; exact hl)
        exact ⟨c, by rw [go1 id hi]; exact h1, mine1 c h2, h3, h4⟩
      · by_cases hn : id = n
        · subst hn
          cases y with
          | val r =>
            rw [obn] at hl
            obtain ⟨c, h1, _⟩ := hs.live id hl
            rw [hfr.1] at h1; cases h1
          | map clock el =>
            cases hkc : kk with
            | none => exact absurd hkc (hkk.2 clock el rfl)
            | some c =>
              obtain ⟨_, _, k, _, e2, e3, _, e5⟩ := hkk.1 c hkc
              obtain ⟨c', h1, h2, h3, h4⟩ := hs1.live k (by rw [e3]; rfl)
              rw [e5] at h1; cases h1
              exact ⟨c, by rw [gon, hkc], mine1 c h2, h3, h4⟩
        · rw [ob2 id (by omega) hn] at hl
          obtain ⟨c, h1, h2, h3, h4⟩ := hs.live id hl
          refine ⟨c, by rw [go2 id (by omega) hn]; exact h1, h2, Nat.lt_of_lt_of_le h3 hsz, fun o ho => h4 o (hF1 c o ho h3 (hidden id c (by omega) hl h1))⟩
    · -- claims
      by_cases hi : id < m
      · rw [ob id hi] at hl ⊢
        obtain ⟨e1, _, e3⟩ := hb1 id (isb1 id hl)
        rw [e1]
        exact (hs1.claim (by rw [← go1 id hi]; exact hc)).agree e3 rfl go1 gr1
      · by_cases hn : id = n
        · subst hn
          rw [gon] at hc
          obtain ⟨clock, el, k, e1, e2, e3, e4, e5⟩ := hkk.1 c hc
          subst e1
          rw [obn]
          have := hs1.claim e5
          rw [e3] at this
          exact this
        · rw [ob2 id (by omega) hn] at hl ⊢
          rw [go2 id (by omega) hn] at hc
          exact (hs.claim hc).monoC hC (hs1.below.block c (hs.ownsz id c hc) (hidden id c (by omega) hl hc))
    · -- inj
      rcases kind i c hi hci with ⟨k, h1, h2, h3, _⟩ | ⟨h1, h2, h3, _⟩ <;> rcases kind j c hj hcj with ⟨k', h1', h2', h3', _⟩ | ⟨h1', h2', h3', _⟩
      · have := hs1.inj k k' c h2 h2' h3 h3'
        omega
      · exact absurd (new1 k c h2 h3) (old1 j c h1' h2' h3')
      · exact absurd (new1 k' c h2' h3') (old1 i c h1 h2 h3)
      · exact hs.inj i j c h2 h2' h3 h3'
    · -- ro
      by_cases hi : id < m
      · rw [ob id hi] at hs'
        exact absurd hs' (noRo_get hro' _ _)
      · by_cases hn : id = n
        · subst hn
          rw [gon] at hc
          obtain ⟨clock, el, k, e1, _⟩ := hkk.1 c hc
          subst e1
          rw [obn] at hs'
          cases hs'
        · rw [ob2 id (by omega) hn] at hs'
          rw [go2 id (by omega) hn] at hc
          exact hs.ro id Y c hs' hc
    · -- rows
      by_cases hi : id < m
      · rw [orr id hi] at hs'
        obtain ⟨e1, _⟩ := hrw1 id (by rw [hs']; simp)
        obtain ⟨bk, h1, h2⟩ := hs1.row id t' sz N (by rw [← e1]; exact hs')
        refine ⟨bk, by rw [gr1 id hi]; exact h1, fun c hc => ?_⟩
        obtain ⟨b1, b2, b3, b4, b5, b6⟩ := h2 c hc
        refine ⟨mine1 c b1, b2, b3, fun j hl hc' => ?_, fun j t'' sz'' M M' hj hr => ?_, b6⟩
        · rcases kind j c hl hc' with ⟨k, q1, q2, q3, _⟩ | ⟨q1, q2, q3, _⟩
          · exact b4 k q2 q3
          · exact old1 j c q1 q2 q3 b1
        · by_cases hjm : j < m
          · rw [orr j hjm] at hj
            obtain ⟨e2, _⟩ := hrw1 j (by rw [hj]; simp)
            exact b5 j t'' sz'' M M' (by rw [← e2]; exact hj) (by rw [← gr1 j hjm]; exact hr)
          · rw [orr2 j (by omega)] at hj
            rw [gr2 j (by omega)] at hr
            exfalso
            rcases b1 with b1 | b1
            · have := hs.rowsz j c M' hr
              have : w.heap.size ≤ c := b1
              omega
            · exact hiddenR j t'' sz'' M c M' (by omega) hj hr b1
      · rw [orr2 id (by omega)] at hs'
        obtain ⟨bk, h1, h2⟩ := hs.row id t' sz N hs'
        refine ⟨bk, by rw [gr2 id (by omega)]; exact h1, fun c hc => ?_⟩
        obtain ⟨b1, b2, b3, b4, b5, arr, z, b6, b7⟩ := h2 c hc
        have hne : ¬ ex c := hiddenR id t' sz N c N (by omega) hs' (by rw [h1, hc])
        refine ⟨b1, Nat.lt_of_lt_of_le b2 hsz, fun o ho => b3 o (hF1 c o ho b2 hne), fun j hl hc' => ?_, fun j t'' sz'' M M' hj hr => ?_, arr, z, (hs1.below.block c b2 hne).trans b6, b7⟩
        · rcases kind j c hl hc' with ⟨k, q1, q2, q3, _⟩ | ⟨q1, q2, q3, _⟩
          · rcases new1 k c q2 q3 with h | h
            · omega
            · exact hne h
          · exact b4 j q2 q3
        · by_cases hjm : j < m
          · rw [orr j hjm] at hj
            obtain ⟨e2, _⟩ := hrw1 j (by rw [hj]; simp)
            obtain ⟨bk', q1, q2⟩ := hs1.row j t'' sz'' M (by rw [← e2]; exact hj)
            rw [gr1 j hjm] at hr
            rw [hr] at q1; cases q1
            exfalso
            rcases (q2 c rfl).1 with h | h
            · have : w.heap.size ≤ c := h
              omega
            · exact hne h
          · rw [orr2 j (by omega)] at hj
            rw [gr2 j (by omega)] at hr
            exact b5 j t'' sz'' M M' hj hr
  refine ⟨v, outV n y, overS σ m n es' y, n + 1, g', rfl, hK y es' hq, Nat.le_succ n, ?_, hout', ⟨hC, hE.size, hE.drawn, hE.dfr⟩⟩
  cases y with
  | val r =>
    obtain ⟨rfl, hr⟩ := hout
    exact hrep.agree hr rfl go1 gr1
  | map clock el =>
    cases hkc : kk with
    | none => exact absurd hkc (hkk.2 clock el rfl)
    | some c =>
      obtain ⟨_, _, k, _, e2, e3, e4, e5⟩ := hkk.1 c hkc
      subst e4
      obtain ⟨c', q1, rfl⟩ := hrep.mp_inv
      rw [e5] at q1; cases q1
      exact .mp (by rw [gon, hkc])
end Go.Am

namespace Go.Am
open Go.RowKit

variable {P : Program} {T : Tab} {σ : St}

/-- WHAT A PURE FUNCTION ANSWERS, where not all of it is told. -/
structure PR (P : Program) (f : FuncId) (args : List V) (R : V → Prop) : Prop where
  enters : Enters P f
  run : ∀ (w : World) (F : Nat → Nat → Prop) (vals : List Value), GOk P w → (∀ k o, F k o → k < w.heap.size) → vals.length = args.length → (∀ (i : Nat) (x : V) (v : Value), args[i]? = some x → vals[i]? = some v → PRep w F x v) →
    Calls P f vals.toArray w fun e w' => ∃ v F' res, e = .returned v ∧ (Below w.heap.size w w' ∧ w.drawn ≤ w'.drawn) ∧ (∀ k o, F k o → F' k o) ∧ (∀ k o, F' k o → F k o ∨ (w.heap.size ≤ k ∧ k < w'.heap.size)) ∧ R res ∧ PRep w' F' res v
def retP (R : V → Prop) (T : Tab) (fn : Func) (e : Exit) (σ : St) (_n : Nat) : Prop :=
  match e with
  | .normal => match resVs σ T fn.results.toList with | some vs => ∃ res, R res ∧ finK SubV σ (oneOr vs) res | none => False
  | .ret => match resVs σ T fn.results.toList with | some vs => ∃ res, R res ∧ finK SubV σ (oneOr vs) res | none => False
  | _ => False
theorem PR.of (hT : TOk P T) (hm : P.follows .mixedOrders = true) {f : FuncId} {fn : Func} {c : Code} (hf : P.funcs[f]? = some fn) (hb : fn.body = some c) (hn : (fn.name == "runtime.NumGoroutine") = false) {args : List V} {R : V → Prop} (hl : Nat.ble args.length fn.ntmps = true) (hro : rvOk fn.ntmps fn.results.toList = true)
    (h : ev P T none fn.ntmps 0 c (initSt args) 0 (retP R T fn)) : PR P f args R := by
  refine ⟨enters_of hf hb hn, fun w F vals hG hF hvl hv => ?_⟩
  have hle : args.length ≤ fn.ntmps := Nat.le_of_ble_eq_true hl
  refine callsIn_wide.1 (callsIn_of_wp_marks (F := Fence.wide) (n := 0) hf hb trivial ?_)
  let b : Base P := Base.plain w F hG hF
  let g0 : G := ⟨F, fun _ => none, fun _ => none⟩
  let t : Top := ⟨g0, w, 0, (fun _ _ h => by cases h), (fun _ _ h => by cases h)⟩
  have hsim : Sim b t fn.ntmps (initSt args) 0 { tmps := vals.toArray ++ Array.replicate (fn.ntmps - vals.toArray.size) undef, defers := [] } w := by
    refine ⟨g0, HSim.init w F hG hF args, ⟨by simp; omega, trivial, fun i hi => ?_⟩, Ev.refl _ _, Nat.le_refl _⟩
    unfold tmpV
    simp only [initSt, nth_eq]
    cases hx : args[i]? with
    | none => exact .junk
    | some x =>
      have hi' : i < vals.length := by have := (List.getElem?_eq_some_iff.1 hx).1; omega
      have : (vals.toArray ++ Array.replicate (fn.ntmps - vals.toArray.size) undef).getD i undef = vals[i] := by
        simp [Array.getElem?_append, hi']
      simp only
      rw [this]
      exact .pure (hv i x _ hx (List.getElem?_eq_getElem hi'))
  refine wpIn_mono ((ev_sound hT hm c _ _ _ h).run b t _ w (Nat.le_refl 0) hsim) ?_
  rintro e a' w' ⟨σ', n', hk, g', hs, hfs, hE, _⟩
  have fin : ∀ vs res, R res → resVs σ' T fn.results.toList = some vs → finK SubV σ' (oneOr vs) res → LeavesInM Fence.wide 0 P fn a'.tmps (fun e w' => ∃ v' F' res, e = .returned v' ∧ (Below w.heap.size w w' ∧ w.drawn ≤ w'.drawn) ∧ (∀ k o, F k o → F' k o) ∧ (∀ k o, F' k o → F k o ∨ (w.heap.size ≤ k ∧ k < w'.heap.size)) ∧ R res ∧ PRep w' F' res v') a'.defers .returning w' := by
    intro vs res hR hvs hfin
    refine leaves_marks hfs.defers fun w'' hsh => ?_
    have hs := hs.shut hsh (Nat.le_refl _)
    have hf2 : FSim (Base.W b).heap.size fn.ntmps σ' g' ⟨a'.tmps, []⟩ w'' := ⟨hfs.size, trivial, fun i hi => (hfs.rep i hi).monoC (hsh.evC g')⟩
    obtain ⟨val, hrun, hrep⟩ := results_one hT hs hf2 hro hvs
    refine ⟨val, hrun, val, fun k o => g'.F k o ∨ (w.heap.size ≤ k ∧ k < w''.heap.size), res, rfl, ⟨hs.below.below (fun _ h => h), Nat.le_trans hE.drawn (Nat.le_of_eq hsh.drawn.symm)⟩, fun k o hk => .inl (hs.f0 k o hk), fun k o hk => ?_, hR, ?_⟩
    · rcases hk with hk | hk
      · rcases Nat.lt_or_ge k w.heap.size with h1 | h1
        · exact .inl (hs.f1 k o hk h1 (fun h => h))
        · exact .inr ⟨h1, hs.flt k o hk⟩
      · exact .inr hk
    · unfold finK at hfin
      cases hp : pureFull (oneOr vs) with
      | true =>
        simp only [hp] at hfin
        have hfin := normV_iff.1 hfin
        exact hfin.rep _ _ _ ((pureFull_rep hp hrep).mono fun k o hk => ⟨.inl hk, rfl⟩)
      | false =>
        simp only [hp] at hfin
        exact hfin.rep hs (fun k o hk => .inl hk) (fun id c hc hl o => by
          obtain ⟨c', h1, h2, h3, _⟩ := hs.live id hl
          rw [hc] at h1; cases h1
          exact .inr ⟨h2.resolve_right (fun h => h), h3⟩) hrep
  cases e with
  | normal =>
    simp only [retP] at hk
    cases hvs : resVs σ' T fn.results.toList with
    | none => simp only [hvs] at hk
    | some vs =>
      simp only [hvs] at hk
      obtain ⟨res, hR, hk⟩ := hk
      exact fin vs res hR hvs hk
  | ret =>
    simp only [retP] at hk
    cases hvs : resVs σ' T fn.results.toList with
    | none => simp only [hvs] at hk
    | some vs =>
      simp only [hvs] at hk
      obtain ⟨res, hR, hk⟩ := hk
      exact fin vs res hR hvs hk
  | _ => exact hk.elim
theorem AC.of_pr {f : FuncId} {args : List V} {R : V → Prop} {n : Nat} {K : V → St → Nat → Prop} (hp : PR P f (forgetFulls args) R) (hpure : pureFulls args = true) (hk : ∀ res, R res → K res σ n) : AC P f args σ n K := by
  refine ⟨hp.enters, fun b g w vals h hl hv => ?_⟩
  refine (hp.run w g.F vals h.gok h.flt (by rw [forgetFulls_len]; exact hl) (fun i x v hx hvv => ?_)).mono ?_
  · obtain ⟨y, h1, h2, rfl⟩ := pureFulls_get hpure hx
    exact pureFull_rep h2 (hv i y v h1 hvv)
  · rintro e w' ⟨v, F', res, h1, h2, h3, h4, h5, h6⟩
    exact ⟨v, res, σ, n, { g with F := F' }, h1, hk res h5, Nat.le_refl _, .pure h6, h.grow h2.1 h2.2 h3 h4, h.evGrow h2.1 h2.2 h3⟩
theorem PR.of_pc {f : FuncId} {args : List V} {res : V} {R : V → Prop} (h : PC P f args res) (hR : R res) : PR P f args R :=
  ⟨h.enters, fun w F vals h0 h1 h2 h3 => (h.run w F vals h0 h1 h2 h3).mono fun _ _ ⟨v, F', e1, e2, e3, e4, e5⟩ => ⟨v, F', res, e1, e2, e3, e4, hR, e5⟩⟩
theorem PR.imp {f : FuncId} {args : List V} {R R' : V → Prop} (h : PR P f args R) (hR : ∀ r, R r → R' r) : PR P f args R' :=
  ⟨h.enters, fun w F vals h0 h1 h2 h3 => (h.run w F vals h0 h1 h2 h3).mono fun _ _ ⟨v, F', res, e1, e2, e3, e4, e5, e6⟩ => ⟨v, F', res, e1, e2, e3, e4, hR _ e5, e6⟩⟩
end Go.Am
