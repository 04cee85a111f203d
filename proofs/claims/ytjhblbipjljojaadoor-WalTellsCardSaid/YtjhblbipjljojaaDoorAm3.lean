/- A machine without addresses (part 3 of 3): the values and the runs of the model, kept apart from their places. No claim of its own. -/
import Derived.Test.YtjhblbipjljojaaDoorAm2

namespace Go.Am
open Go.RowKit

variable {P : Program} {T : Tab} {b : Base P} {t : Top} {σ : St} {D : Nat → Prop} {g : G} {a : Act} {w : World}

/-- What is known is known by other names. -/
structure Turns (P : Program) (lo : Nat) (σ : St) (n : Nat) (σ' : St) (m : Nat) : Prop where
  run : ∀ (b : Base P) (t : Top) (nt : Nat) (a : Act) (w : World), t.n0 ≤ lo → Sim b t nt σ n a w → Sim b t nt σ' m a w
theorem Turns.weak {lo n m : Nat} {es : List (Loc × C)} (he : WeakL σ m es) (h0 : lo ≤ m) : Turns P lo σ n (ofL es) m := ⟨fun _ _ _ _ _ hl hs => hs.weak he (Nat.le_trans hl h0)⟩
theorem Turns.trans {lo n m k : Nat} {σ' σ'' : St} (h : Turns P lo σ n σ' m) (h' : Turns P lo σ' m σ'' k) : Turns P lo σ n σ'' k := ⟨fun b t nt a w hl hs => h'.run b t nt a w hl (h.run b t nt a w hl hs)⟩

/-- What a round leaves. -/
def roundT (P : Program) {X : Type} (st : X → List (Loc × C)) (lo m : Nat) (I : X → Prop) (μ : X → Nat) (x : X) (K : Exit → St → Nat → Prop) (e : Exit) (σ : St) (n : Nat) : Prop :=
  match e with
  | .normal => ∃ x', I x' ∧ μ x' < μ x ∧ Turns P lo σ n (ofL (st x')) m
  | e => K e σ n

theorem AW.loopT {X : Type} (st : X → List (Loc × C)) (m : Nat) (I : X → Prop) (μ : X → Nat) {r : Option Nat} {nt lo n : Nat} {c : Code} {K : Exit → St → Nat → Prop} (hm : lo ≤ m) (x0 : X) (h0 : I x0) (hw : WeakL σ m (st x0))
    (round : ∀ x, I x → AW P r nt lo c (ofL (st x)) m (roundT P st lo m I μ x K)) : AW P r nt lo (.loop c) σ n K := by
  refine ⟨fun b t a w hl hs bf k cs hro hfn hroom => ?_⟩
  have key : ∀ (q : Nat) (x : X), μ x = q → I x → ∀ (a : Act) (w : World), Sim b t nt (ofL (st x)) m a w →
      ∃ e a' w', (∃ σ' n', K e σ' n' ∧ Sim b t nt σ' n' a' w') ∧ ArrivesIn (Machine.fenced P (fen r)) P (lone (bf.atR a (.code c :: .inLoop c :: k)) cs w) bf k cs e a' w' := by
    intro q
    induction q using Nat.strongRecOn with
    | _ q ih =>
      intro x hq hI a w hs
      obtain ⟨e, a₁, w₁, ⟨σ', n', hk, hs'⟩, harr⟩ := (round x hI).run b t a w hl hs bf (.inLoop c :: k) cs hro hfn hroom
      cases e with
      | normal =>
        obtain ⟨x', hI', hlt, hw'⟩ := hk
        obtain ⟨e₂, a₂, w₂, hq₂, harr₂⟩ := ih (μ x') (hq ▸ hlt) x' rfl hI' a₁ w₁ (hw'.run b t nt a₁ w₁ hl hs')
        exact ⟨e₂, a₂, w₂, hq₂, .of_steps (StepsIn.trans harr (.one (fenced_calm hfn hroom rfl) stepR_inLoop)) harr₂⟩
      | exit id => exact ⟨_, a₁, w₁, ⟨σ', n', hk, hs'⟩, .pass (x := .inLoop c) rfl (fun _ _ => .inl (by simp)) harr⟩
      | goto l => exact ⟨_, a₁, w₁, ⟨σ', n', hk, hs'⟩, .pass (x := .inLoop c) rfl (fun _ _ => .inl (by simp)) harr⟩
      | ret => exact ⟨_, a₁, w₁, ⟨σ', n', hk, hs'⟩, .pass (x := .inLoop c) rfl (fun _ _ => .inl (by simp)) harr⟩
      | panic ch => exact ⟨_, a₁, w₁, ⟨σ', n', hk, hs'⟩, .pass (x := .inLoop c) rfl (fun _ _ => .inl (by simp)) harr⟩
      | outgrown => exact ⟨_, a₁, w₁, ⟨σ', n', hk, hs'⟩, .pass (x := .inLoop c) rfl (fun _ _ => .inl (by simp)) harr⟩
  obtain ⟨e, a', w', hq, harr⟩ := key _ x0 rfl h0 a w (hs.weak hw (Nat.le_trans hl hm))
  exact ⟨e, a', w', hq, .of_steps (.one (fenced_calm hfn hroom rfl) stepR_loop) harr⟩

/-- A row by another number. -/
def renK (i j : Nat) : Tok → Tok
  | .row k => match Nat.beq k i with | true => .row j | false => .row k
  | .brow k => match Nat.beq k i with | true => .brow j | false => .brow k
  | tk => tk
mutual
def renV (i j : Nat) : V → V
  | .lst n sz els tk => .lst n sz els (renK i j tk)
  | .agg cs => .agg (renL i j cs)
  | .tup cs => .tup (renL i j cs)
  | .func f fs cs => .func f (renL i j fs) (renL i j cs)
  | .iface t v => .iface t (renV i j v)
  | v => v
def renL (i j : Nat) : List V → List V
  | [] => []
  | x :: l => renV i j x :: renL i j l
end
def renC (i j : Nat) : C → C
  | .v x => .v (renV i j x)
  | .box t cells => .box t (renL i j cells)
  | c => c
def renS (i j : Nat) (σ : St) : St := fun l => match l with
  | .row k => match Nat.beq k j with
    | true => σ (.row i)
    | false => match Nat.beq k i with | true => .none | false => σ (.row k)
  | l => renC i j (σ l)
def noTok (j : Nat) : Tok → Bool
  | .row k => match Nat.beq k j with | true => false | false => true
  | .brow k => match Nat.beq k j with | true => false | false => true
  | _ => true
mutual
def noV (j : Nat) : V → Bool
  | .lst _ _ _ tk => noTok j tk
  | .agg cs => noL j cs
  | .tup cs => noL j cs
  | .func _ fs cs => match noL j fs with | true => noL j cs | false => false
  | .iface _ v => noV j v
  | _ => true
def noL (j : Nat) : List V → Bool
  | [] => true
  | x :: l => match noV j x with | true => noL j l | false => false
end
def noC (j : Nat) : C → Bool
  | .v x => noV j x
  | .box _ cells => noL j cells
  | .loop .. => false
  | _ => true
def noE (j : Nat) : List (Loc × C) → Bool
  | [] => true
  | (.row k, _) :: es => match Nat.beq k j with | true => false | false => noE j es
  | (_, c) :: es => match noC j c with | true => noE j es | false => false
theorem noL_get {j : Nat} : ∀ {l : List V}, noL j l = true → ∀ (i : Nat) (x : V), l[i]? = some x → noV j x = true
  | [], _, i, x, h => by simp at h
  | c :: cs, hc, i, x, h => by
    simp only [noL] at hc
    cases hx : noV j c with
    | false => simp [hx] at hc
    | true =>
      simp only [hx] at hc
      cases i with
      | zero => simp at h; subst h; exact hx
      | succ i => exact noL_get hc i x (by simpa using h)
theorem renL_len (i j : Nat) : ∀ (l : List V), (renL i j l).length = l.length
  | [] => rfl
  | _ :: l => by simp [renL, renL_len i j l]
theorem renL_get (i j : Nat) : ∀ {l : List V} {k : Nat} {y : V}, (renL i j l)[k]? = some y → ∃ x, l[k]? = some x ∧ y = renV i j x
  | [], k, y, h => by simp [renL] at h
  | c :: cs, k, y, h => by
    rw [renL] at h
    cases k with
    | zero => simp at h; exact ⟨c, rfl, h.symm⟩
    | succ k =>
      obtain ⟨x, h1, h2⟩ := renL_get i j (l := cs) (k := k) (by simpa using h)
      exact ⟨x, by simpa using h1, h2⟩
theorem PRep.ren {i j : Nat} {F : Nat → Nat → Prop} {x : V} {v : Value} (h : PRep w F x v) : PRep w F (renV i j x) v := by
  induction h with
  | int k n => exact .int k n
  | bool b => exact .bool b
  | tt => exact .tt
  | ff => exact .ff
  | str h => exact .str h
  | agg hl _ ih => exact .agg (by rw [renL_len]; exact hl) (fun k y v h1 h2 => by obtain ⟨x, q1, rfl⟩ := renL_get i j h1; exact ih k x v q1 h2)
  | tup hl _ ih => exact .tup (by rw [renL_len]; exact hl) (fun k y v h1 h2 => by obtain ⟨x, q1, rfl⟩ := renL_get i j h1; exact ih k x v q1 h2)
  | nilp => exact .nilp
  | lst vals hnil hc hsz ha hone h _ => exact .lst vals hnil hc hsz ha hone h
  | func f => exact .func f
  | nilf => exact .nilf
  | iface _ ih => exact .iface ih
  | nili => exact .nili
def G.ren (g : G) (i j : Nat) : G := { g with row := fun k => if k = j then g.row i else if k = i then none else g.row k }
theorem TokOk.ren {i j : Nat} {tk : Tok} {n sz : Nat} {ad : Option Addr} {c : Nat} (h : TokOk w g tk n sz ad c) (hn : noTok j tk = true) : TokOk w (g.ren i j) (renK i j tk) n sz ad c := by
  have key : ∀ k, (match Nat.beq k j with | true => false | false => true) = true → (g.ren i j).row (if k = i then j else k) = g.row k := fun k hk => by
    have hkj : k ≠ j := fun e => by subst e; simp at hk
    by_cases hki : k = i
    · subst hki; simp [G.ren]
    · simp [G.ren, hki, hkj]
  cases tk with
  | none => trivial
  | tight => exact h
  | row k =>
    obtain ⟨bk, N, h1, h2, h3⟩ := h
    have hk := key k hn
    simp only [renK]
    cases hb : Nat.beq k i with
    | true => rw [if_pos (Nat.eq_of_beq_eq_true hb)] at hk; exact ⟨bk, N, by rw [hk]; exact h1, h2, h3⟩
    | false => rw [if_neg (fun e => by rw [e] at hb; simp at hb)] at hk; exact ⟨bk, N, by rw [hk]; exact h1, h2, h3⟩
  | brow k =>
    obtain ⟨bk, N, h1, h2, h3⟩ := h
    have hk := key k hn
    simp only [renK]
    cases hb : Nat.beq k i with
    | true => rw [if_pos (Nat.eq_of_beq_eq_true hb)] at hk; exact ⟨bk, N, by rw [hk]; exact h1, h2, h3⟩
    | false => rw [if_neg (fun e => by rw [e] at hb; simp at hb)] at hk; exact ⟨bk, N, by rw [hk]; exact h1, h2, h3⟩
theorem Rep.ren {i j : Nat} {x : V} {v : Value} (h : Rep w g x v) (hn : noV j x = true) : Rep w (g.ren i j) (renV i j x) v := by
  induction h with
  | pure h => exact .pure h.ren
  | agg hl _ ih =>
    simp only [noV] at hn
    exact .agg (by rw [renL_len]; exact hl) (fun k y v h1 h2 => by obtain ⟨x, q1, rfl⟩ := renL_get i j h1; exact ih k x v q1 h2 (noL_get hn k x q1))
  | tup hl _ ih =>
    simp only [noV] at hn
    exact .tup (by rw [renL_len]; exact hl) (fun k y v h1 h2 => by obtain ⟨x, q1, rfl⟩ := renL_get i j h1; exact ih k x v q1 h2 (noL_get hn k x q1))
  | ptr h => exact .ptr h
  | lptr vals ha h => exact .lptr vals ha h
  | lst h ht => simp only [noV] at hn; exact .lst h (ht.ren hn)
  | own h ha hs hl hf => exact .own h ha hs hl hf
  | func hl hm _ _ ih1 ih2 =>
    simp only [noV] at hn
    rename_i fs cs _ _ _ _
    cases hfs : noL j fs with
    | false => simp [hfs] at hn
    | true =>
      simp only [hfs] at hn
      exact .func (by rw [renL_len]; exact hl) (by rw [renL_len]; exact hm) (fun k y v h1 h2 => by obtain ⟨x, q1, rfl⟩ := renL_get i j h1; exact ih1 k x v q1 h2 (noL_get hfs k x q1))
        (fun k y v h1 h2 => by obtain ⟨x, q1, rfl⟩ := renL_get i j h1; exact ih2 k x v q1 h2 (noL_get hn k x q1))
  | iface _ ih => simp only [noV] at hn; exact .iface (ih hn)
  | it h => exact .it h
  | yield h => exact .yield h
  | junk => exact .junk
theorem noE_get {j : Nat} : ∀ {es : List (Loc × C)}, noE j es = true → (∀ l, (∀ k, l ≠ .row k) → noC j (ofL es l) = true) ∧ ofL es (.row j) = .none
  | [], _ => ⟨fun _ _ => rfl, rfl⟩
  | (l', c) :: es, h => by
    have step : noE j es = true ∧ ((∀ k, l' ≠ .row k) → noC j c = true) ∧ l' ≠ .row j := by
      cases l' with
      | row k =>
        simp only [noE] at h
        cases hb : Nat.beq k j with
        | true => simp [hb] at h
        | false => simp only [hb] at h; exact ⟨h, fun hk => absurd rfl (hk k), fun e => by cases e; simp at hb⟩
      | tmp k =>
        simp only [noE] at h
        cases hb : noC j c with
        | false => simp [hb] at h
        | true => simp only [hb] at h; exact ⟨h, fun _ => rfl, fun e => by cases e⟩
      | blk k =>
        simp only [noE] at h
        cases hb : noC j c with
        | false => simp [hb] at h
        | true => simp only [hb] at h; exact ⟨h, fun _ => rfl, fun e => by cases e⟩
    obtain ⟨h1, h2, h3⟩ := step
    obtain ⟨q1, q2⟩ := noE_get h1
    refine ⟨fun l hl => ?_, ?_⟩
    · by_cases e : l = l'
      · subst e; rw [ofL, upd_same]; exact h2 hl
      · rw [ofL, upd_ne e]; exact q1 l hl
    · rw [ofL, upd_ne (fun e => h3 e.symm)]; exact q2
/-- A row is told by another number. -/
theorem Turns.row {lo n : Nat} {es : List (Loc × C)} (i j : Nat) (hi : lo ≤ i) (hj : lo ≤ j) (hjn : j < n) (hij : i ≠ j) (hno : noE j es = true) : Turns P lo (ofL es) n (renS i j (ofL es)) n := by
  refine ⟨fun b t nt a w hl hs => ?_⟩
  obtain ⟨q1, q2⟩ := noE_get hno
  generalize ofL es = σ at *
  obtain ⟨g, h, hf, hE, hn⟩ := hs
  have eb : ∀ id, renS i j σ (.blk id) = renC i j (σ (.blk id)) := fun _ => rfl
  have ib : ∀ id, (renS i j σ (.blk id)).isBlk = (σ (.blk id)).isBlk := fun id => by rw [eb]; cases σ (.blk id) <;> rfl
  have er : ∀ id t sz N, renS i j σ (.row id) = .row t sz N → ∃ id', σ (.row id') = .row t sz N ∧ (id = j ∧ id' = i ∨ id ≠ j ∧ id ≠ i ∧ id' = id) ∧ (g.ren i j).row id = g.row id' := fun id t sz N hh => by
    simp only [renS] at hh
    cases hb : Nat.beq id j with
    | true =>
      simp only [hb] at hh
      have e := Nat.eq_of_beq_eq_true hb
      subst e
      exact ⟨i, hh, .inl ⟨rfl, rfl⟩, by simp [G.ren]⟩
    | false =>
      simp only [hb] at hh
      have e : id ≠ j := fun e => by rw [e] at hb; simp at hb
      cases hb2 : Nat.beq id i with
      | true => simp [hb2] at hh
      | false =>
        simp only [hb2] at hh
        have e2 : id ≠ i := fun e => by rw [e] at hb2; simp at hb2
        exact ⟨id, hh, .inr ⟨e, e2, rfl⟩, by simp [G.ren, e, e2]⟩
  refine ⟨g.ren i j, HSim.of_claims h.below h.flt h.f0 h.f1 h.ownlt (fun id c hc => ?_) h.ownsz (fun id c N hc => ?_) (fun id hl' => h.live id (by rw [← ib]; exact hl')) (fun id c hl' hc => ?_) (fun x y c hx hy => h.inj x y c (by rw [← ib]; exact hx) (by rw [← ib]; exact hy)) (fun id t' sz N hs' => ?_),
    ⟨hf.size, hf.defers, fun k hk => ?_⟩, ⟨⟨hE.F, hE.own, fun id bk N hr => ?_⟩, hE.size, hE.dfr⟩, hn⟩
  · simp only [G.ren] at hc
    split at hc
    · omega
    · split at hc
      · cases hc
      · exact h.rowlt id c hc
  · simp only [G.ren] at hc
    split at hc
    · exact h.rowsz i c N hc
    · split at hc
      · cases hc
      · exact h.rowsz id c N hc
  · rw [eb]
    have hcl := h.claim (id := id) (c := c) hc
    have hno2 := q1 (.blk id) (fun k e => by cases e)
    cases hx : σ (.blk id) with
    | box t' cells =>
      rw [hx] at hcl hno2
      obtain ⟨arr, r1, r2, r3⟩ := hcl
      exact ⟨arr, r1, by rw [renL_len]; exact r2, fun k y v h1 h2 => by obtain ⟨x, u1, rfl⟩ := renL_get i j h1; exact (r3 k x v u1 h2).ren (noL_get hno2 k x u1)⟩
    | mem t' cells => rw [hx] at hcl; exact hcl
    | it s pos => rw [hx] at hcl; exact hcl
    | loop st pend nt' tm ps assign body => rw [hx] at hno2; cases hno2
    | _ => trivial
  · obtain ⟨id', e1, e2, e3⟩ := er id t' sz N hs'
    obtain ⟨bk, h1, h2⟩ := h.row id' t' sz N e1
    refine ⟨bk, by rw [e3]; exact h1, fun c hc => ?_⟩
    obtain ⟨b1, b2, b3, b4, b5, b6⟩ := h2 c hc
    refine ⟨b1, b2, b3, fun k hk => b4 k (by rw [← ib]; exact hk), fun k t'' sz'' M M' hk hr => ?_, b6⟩
    obtain ⟨k', f1, f2, f3⟩ := er k t'' sz'' M hk
    rw [f3] at hr
    have := b5 k' t'' sz'' M M' f1 hr
    omega
  · have hr := hf.rep k hk
    have hno2 := q1 (.tmp k) (fun k e => by cases e)
    have e : renS i j σ (.tmp k) = renC i j (σ (.tmp k)) := rfl
    unfold tmpV at hr ⊢
    rw [e]
    cases hx : σ (.tmp k) with
    | v x => rw [hx] at hr hno2; exact hr.ren hno2
    | _ => exact .junk
  · have hid := t.row id _ hr
    obtain ⟨bk', N', e1, e2, e3⟩ := hE.row id bk N hr
    refine ⟨bk', N', ?_, e2, e3⟩
    simp only [G.ren]
    rw [if_neg (by omega), if_neg (by omega)]
    exact e1
/-- A box whose cells hold plain values, as memory. -/
theorem AW.boxMem {r : Option Nat} {nt lo n : Nat} {c : Code} {K : Exit → St → Nat → Prop} (k : Nat) {bt : TypeId} {cells : List V} (hs : σ (.blk k) = .box bt cells) (hp : pureAll cells = true)
    (h : AW P r nt lo c (upd σ (.blk k) (.mem bt (forgetAll cells))) n K) : AW P r nt lo c σ n K := by
  refine ⟨fun b t a w hl hsim => h.run b t a w hl ?_⟩
  obtain ⟨g, hh, hf, hE, hn⟩ := hsim
  have e0 : ∀ id, id ≠ k → (upd σ (.blk k) (.mem bt (forgetAll cells))) (.blk id) = σ (.blk id) := fun id hne => upd_ne (fun e => hne (by cases e; rfl))
  have e1 : (upd σ (.blk k) (.mem bt (forgetAll cells))) (.blk k) = .mem bt (forgetAll cells) := upd_same _ _ _
  have er : ∀ id, (upd σ (.blk k) (.mem bt (forgetAll cells))) (.row id) = σ (.row id) := fun id => upd_ne (fun e => by cases e)
  have ib : ∀ id, ((upd σ (.blk k) (.mem bt (forgetAll cells))) (.blk id)).isBlk = (σ (.blk id)).isBlk := fun id => by
    by_cases he : id = k
    · subst he; rw [e1, hs]; rfl
    · rw [e0 id he]
  refine ⟨g, HSim.of_claims hh.below hh.flt hh.f0 hh.f1 hh.ownlt hh.rowlt hh.ownsz hh.rowsz (fun id hl' => hh.live id (by rw [← ib]; exact hl')) (fun id c hl' hc => ?_) (fun x y c hx hy => hh.inj x y c (by rw [← ib]; exact hx) (by rw [← ib]; exact hy)) (fun id t' sz N hs' => ?_),
    ⟨hf.size, hf.defers, fun i hi => by rw [tmpV_ne (by simp)]; exact hf.rep i hi⟩, hE, hn⟩
  · by_cases he : id = k
    · subst he
      rw [e1]
      obtain ⟨arr, a1, a2, a3⟩ := hh.box id bt cells c hs hc
      refine ⟨arr, (0, 0), a1, by rw [forgetAll_len, a2]; exact Nat.le_refl _, fun o _ ho => by simp at ho, fun i y v h1 h2 => ?_⟩
      obtain ⟨x, q1, rfl⟩ := forgetAll_get h1
      exact pureV_rep (pureAll_get hp i x q1) (a3 i x v q1 h2)
    · rw [e0 id he]
      exact hh.claim hc
  · rw [er] at hs'
    obtain ⟨bk, h1, h2⟩ := hh.row id t' sz N hs'
    refine ⟨bk, h1, fun c hc => ?_⟩
    obtain ⟨b1, b2, b3, b4, b5, b6⟩ := h2 c hc
    exact ⟨b1, b2, b3, fun j hj => b4 j (by rw [← ib]; exact hj), fun j t'' sz'' M M' hj hr => b5 j t'' sz'' M M' (by rw [← er]; exact hj) hr, b6⟩
end Go.Am
