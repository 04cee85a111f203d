import Derived.WalkKit
import Derived.WalkSpells
import Derived.WalkLawsBesides
import Derived.Laws.IdiomStrings
import Derived.Lib.Strings
import Derived.Laws.IdiomCopy
import Derived.Deep.AppendSrc
import Derived.Below
import Derived.Orders
import Derived.Laws.StructEq
import Derived.Test.YtffboamedcmpaaaGreatDoorCa
set_option linter.all false
set_option maxHeartbeats 4000000
set_option maxRecDepth 100000
namespace Go.Am
open Go.RowKit
inductive ql where
 |av
 |bR
 |dB (id:Nat)
 |cO (id:Nat)
inductive ae where
 |aa (k:IntKind) (n:Int)
 |aE (b:Bool)
 |bN
 |bo
 |ai (s:List UInt8)
 |aK (cs:List ae)
 |aw (vs:List ae)
 |ar (b off:Nat)
 |cB (cs:List ae) (off:Nat)
 |bU
 |ag (isNil:Bool) (sz:Nat) (els:List (List ae)) (tk:ql)
 |aL (b off sz len:Nat) (full:Bool)
 |aP (f:FuncId) (first captured:List ae)
 |cA
 |cm (t:TypeId) (v:ae)
 |cq
 |cz (b:Nat)
 |cw (b:Nat)
 |cg (b:Nat)
 |bV
inductive aS where
 |aj (t:Nat)
 |af (b:Nat)
 |aJ (b:Nat)
inductive EM where
 |dP (clock:Nat) (es:List (Nat×ae×ae))
 |oO (m since:Nat) (seen:List Nat) (last:Nat)
inductive bs where
 |bq
 |ah (x:ae)
 |au (t:TypeId) (cells:List ae)
 |aR (t:TypeId) (cells:List ae)
 |aN (t:TypeId) (sz n:Nat)
 |iR (s:List UInt8) (pos:Nat)
 |c9 (X:EM)
 |eT (X:EM)
 |eZ (st:LoopState) (pend:Option Code) (nt:Nat) (tm:List (Nat×ae)) (ps:List Nat) (assign body:Code)
structure cf where
 bJ:Nat->Nat->Prop
 aZ:Nat->Option Nat
 cu:Nat->Option (Option Nat×Nat)
def X8 (w:World) (F:Nat->Nat->Prop) (sz:Nat) (els:List (List ae)) (ad:Option Addr) (vals:Nat->Nat->Value):Prop:=
 ∀ (i:Nat) (el:List ae) (j:Nat) (x:ae),els[i]? =some el->el[j]? =some x->∃ blk base,ad=some ⟨blk,base,none⟩/\F blk (base+i*sz+j)/\w.cell? ⟨blk,base+i*sz+j,none⟩=some (vals i j)
inductive cb (w:World) (F:Nat->Nat->Prop):ae->Value->Prop
 |fK (k n):cb w F (.aa k n) (.int k n)
 |nh (b):cb w F (.aE b) (.bool b)
 |rS:cb w F .bN (.bool true)
 |qj:cb w F .bo (.bool false)
 |gX {s:List UInt8} {b:ByteArray} (h:b.data.toList=s):cb w F (.ai s) (.string b)
 |xq {cs:List ae} {vs:List Value} (hl:vs.length=cs.length) (h:∀ (i:Nat) (x:ae) (v:Value),cs[i]? =some x->vs[i]? =some v->cb w F x v):cb w F (.aK cs) (.agg vs.toArray)
 |rT {cs:List ae} {vs:List Value} (hl:vs.length=cs.length) (h:∀ (i:Nat) (x:ae) (v:Value),cs[i]? =some x->vs[i]? =some v->cb w F x v):cb w F (.aw cs) (.tuple vs.toArray)
 |EP:cb w F .bU (.pointer none)
 |iK {isNil:Bool} {sz:Nat} {els:List (List ae)} {ad:Option Addr} {c:Nat} (vals:Nat->Nat->Value)
   (hnil:isNil=ad.isNone) (hc:els.length<=c) (hsz:∀ el∈els,el.length=sz) (ha:X8 w F sz els ad vals)
   (hone:∀ (i:Nat) (el:List ae) (j:Nat) (x:ae),els[i]? =some el->el[j]? =some x->(vals i j).oneCell'=true)
   (h:∀ (i:Nat) (el:List ae) (j:Nat) (x:ae),els[i]? =some el->el[j]? =some x->cb w F x (vals i j)):cb w F (.ag isNil sz els .av) (.slice ad els.length c)
 |Ax (f):cb w F (.aP f [] []) (.func (.func f) #[] #[])
 |EN:cb w F .cA .nilFunc
 |Cm {t:TypeId} {x:ae} {v:Value} (h:cb w F x v):cb w F (.cm t x) (.iface t v)
 |EO:cb w F .cq .nilIface
def uF (w:World) (g:cf) (tk:ql) (n sz:Nat) (ad:Option Addr) (c:Nat):Prop:=
 match tk with
 | .av=>True
 | .bR=>c=n
 | .dB id=>∃ bk N,g.cu id=some (bk,N)/\n<=N/\(n=N->c=n\/∃ b t,bk=some b/\ad=some ⟨b,0,none⟩/\w.shape? b=some (t,c*sz))
 | .cO id=>∃ bk N,g.cu id=some (bk,N)/\n<=N/\(n=N->(c=0/\n=0)\/∃ b t,bk=some b/\ad=some ⟨b,0,none⟩/\w.shape? b=some (t,c*sz))
inductive aF (w:World) (g:cf):ae->Value->Prop
 |bC {x v} (h:cb w g.bJ x v):aF w g x v
 |nT {cs:List ae} {vs:List Value} (hl:vs.length=cs.length) (h:∀ (i:Nat) (x:ae) (v:Value),cs[i]? =some x->vs[i]? =some v->aF w g x v):aF w g (.aK cs) (.agg vs.toArray)
 |jN {cs:List ae} {vs:List Value} (hl:vs.length=cs.length) (h:∀ (i:Nat) (x:ae) (v:Value),cs[i]? =some x->vs[i]? =some v->aF w g x v):aF w g (.aw cs) (.tuple vs.toArray)
 |ni {b off c:Nat} (h:g.aZ b=some c):aF w g (.ar b off) (.pointer (some ⟨c,off,none⟩))
 |qT {cs:List ae} {off blk base:Nat} (vals:Nat->Value) (ha:∀ (j:Nat) (x:ae),cs[j]? =some x->g.bJ blk (base+j)/\w.cell? ⟨blk,base+j,none⟩=some (vals j))
   (h:∀ (j:Nat) (x:ae),cs[j]? =some x->cb w g.bJ x (vals j)):aF w g (.cB cs off) (.pointer (some ⟨blk,base+off,none⟩))
 |jc {isNil:Bool} {sz:Nat} {els:List (List ae)} {tk:ql} {ad:Option Addr} {n c:Nat} (h:cb w g.bJ (.ag isNil sz els .av) (.slice ad n c)) (ht:uF w g tk n sz ad c):aF w g (.ag isNil sz els tk) (.slice ad n c)
 |kH {b off sz len cap c:Nat} {full:Bool} {ad:Option Addr} (h:g.aZ b=some c) (ha:0<len->ad=some ⟨c,off,none⟩) (hs:ad.isSome) (hl:len<=cap)
   (hf:full=true->off=0/\ad=some ⟨c,0,none⟩/\∃ t,w.shape? c=some (t,cap*sz)):aF w g (.aL b off sz len full) (.slice ad len cap)
 |rU {f:FuncId} {fs cs:List ae} {vs us:List Value} (hl:vs.length=fs.length) (hm:us.length=cs.length) (h:∀ (i:Nat) (x:ae) (v:Value),fs[i]? =some x->vs[i]? =some v->aF w g x v)
   (hh:∀ (i:Nat) (x:ae) (v:Value),cs[i]? =some x->us[i]? =some v->aF w g x v):aF w g (.aP f fs cs) (.func (.func f) vs.toArray us.toArray)
 |rV {t:TypeId} {x:ae} {v:Value} (h:aF w g x v):aF w g (.cm t x) (.iface t v)
 |qS {b c:Nat} (h:g.aZ b=some c):aF w g (.cz b) (.pointer (some ⟨c,0,none⟩))
 |rW {b c:Nat} (h:g.aZ b=some c):aF w g (.cw b) (.func (.yield c) #[] #[])
 |pF {b c:Nat} (h:g.aZ b=some c):aF w g (.cg b) (.map (some c))
 |jV {v}:aF w g .bV v
theorem cb.eO {w w':World} {F F':Nat->Nat->Prop} (hF:∀ b o,F b o->F' b o/\w'.cell? ⟨b,o,none⟩=w.cell? ⟨b,o,none⟩) {x:ae} {v:Value} (h:cb w F x v):cb w' F' x v:=by
 induction h with
 |fK k n=>exact .fK k n
 |nh b=>exact .nh b
 |rS=>exact .rS
 |qj=>exact .qj
 |gX h=>exact .gX h
 |xq hl _ ih=>exact .xq hl ih
 |rT hl _ ih=>exact .rT hl ih
 |EP=>exact .EP
 |iK vals hnil hc hsz ha hone _ ih=>
  refine .iK vals hnil hc hsz (λi el j x h1 h2=>?_) hone ih;obtain ⟨blk,base,e,hf,hcell⟩:=ha i el j x h1 h2;grind
 |Ax f=>exact .Ax f
 |EN=>exact .EN
 |Cm _ ih=>exact .Cm ih
 |EO=>exact .EO
structure vR (g:cf) (w:World) (g':cf) (w':World):Prop where
 ee:∀ b o,g.bJ b o->g'.bJ b o/\w'.cell? ⟨b,o,none⟩=w.cell? ⟨b,o,none⟩
 kE:∀ id c,g.aZ id=some c->g'.aZ id=some c/\w'.shape? c=w.shape? c
 vT:∀ id bk N,g.cu id=some (bk,N)->∃ bk' N',g'.cu id=some (bk',N')/\N<=N'/\(N'=N->bk'=bk/\∀ b,bk=some b->w'.shape? b=w.shape? b)
 vS:∀ id c N,g'.cu id=some (some c,N)->(∃ N0,g.cu id=some (some c,N0))\/∀ o,¬g.bJ c o:=by exact λ_ _ N h=> .inl ⟨N,h⟩
structure dp (g:cf) (w:World) (g':cf) (w':World):Prop extends vR g w g' w' where
 rR:w.heap.size<=w'.heap.size
 uC:w.drawn<=w'.drawn
 rQ:∀ (d:Nat) (ds:Option (List Deferred)),w.heap[d]? =some (Obj.deferred ds)->w'.heap[d]? =some (Obj.deferred ds)
theorem dp.qg (g:cf) (w:World):dp g w g w:=⟨⟨λ_ _ h=>⟨h,rfl⟩,λ_ _ h=>⟨h,rfl⟩,λ_ bk N h=>⟨bk,N,h,Nat.le_refl _,λ_=>⟨rfl,λ_ _=>rfl⟩⟩,λ_ _ N h=> .inl ⟨N,h⟩⟩,Nat.le_refl _,Nat.le_refl _,λ_ _ h=>h⟩
theorem dp.gD {g g' g'':cf} {w w' w'':World} (h:dp g w g' w') (k:dp g' w' g'' w''):dp g w g'' w'':=by
 refine ⟨⟨λb o hf=>?_,λid c hc=>⟨(k.kE _ _ (h.kE _ _ hc).1).1,((k.kE _ _ (h.kE _ _ hc).1).2).trans (h.kE _ _ hc).2⟩,λid bk N hr=>?_,λid c N hr=>?_⟩,Nat.le_trans h.rR k.rR,Nat.le_trans h.uC k.uC,λd ds hd=>k.rQ d ds (h.rQ d ds hd)⟩
 ·obtain ⟨h1,e1⟩:=h.ee b o hf;obtain ⟨h2,e2⟩:=k.ee b o h1;simp_all
 ·obtain ⟨bk',N',h1,h2,h3⟩:=h.vT id bk N hr;obtain ⟨bk'',N'',k1,k2,k3⟩:=k.vT id bk' N' h1;grind
 ·rcases k.vS id c N hr with ⟨N0,h1⟩|h1
  ·exact h.vS id c N0 h1
  ·exact .inr λo ho=>h1 o (h.ee c o ho).1
theorem uF.Ye {g g':cf} {w w':World} (h:vR g w g' w') {tk n sz ad c} (ht:uF w g tk n sz ad c):uF w' g' tk n sz ad c:=by
 cases tk with
 |av=>trivial
 |bR=>exact ht
 |dB id=>
  obtain ⟨bk,N,h1,h2,h3⟩:=ht;obtain ⟨bk',N',k1,k2,k3⟩:=h.vT id bk N h1;refine ⟨bk',N',k1,Nat.le_trans h2 k2,λe=>?_⟩;grind
 |cO id=>
  obtain ⟨bk,N,h1,h2,h3⟩:=ht;obtain ⟨bk',N',k1,k2,k3⟩:=h.vT id bk N h1;refine ⟨bk',N',k1,Nat.le_trans h2 k2,λe=>?_⟩;grind
theorem uF.Yf {g:cf} {w:World} {id n sz ad c} (h:uF w g (.cO id) n sz ad c):uF w g (.dB id) n sz ad c:=by
 obtain ⟨bk,N,h1,h2,h3⟩:=h;exact ⟨bk,N,h1,h2,λe=>(h3 e).imp (λ⟨a,b⟩=>a.trans b.symm) (λh=>h)⟩
theorem aF.Hn {g g':cf} {w w':World} (hE:vR g w g' w') {x:ae} {v:Value} (h:aF w g x v):aF w' g' x v:=by
 induction h with
 |bC h=>exact .bC (h.eO hE.ee)
 |nT hl _ ih=>exact .nT hl ih
 |jN hl _ ih=>exact .jN hl ih
 |ni h=>exact .ni (hE.kE _ _ h).1
 |qT vals ha h=>
  exact .qT vals (λj x hx=>⟨(hE.ee _ _ (ha j x hx).1).1,((hE.ee _ _ (ha j x hx).1).2).trans (ha j x hx).2⟩) (λj x hx=>(h j x hx).eO hE.ee)
 |jc h ht=>exact .jc (h.eO hE.ee) (ht.Ye hE)
 |kH h ha hs hl hf=>
  exact .kH (hE.kE _ _ h).1 ha hs hl λe=>let ⟨h1,h2,t,h3⟩:=hf e;⟨h1,h2,t,((hE.kE _ _ h).2).trans h3⟩
 |rU hl hm _ _ ih1 ih2=>exact .rU hl hm ih1 ih2
 |rV _ ih=>exact .rV ih
 |qS h=>exact .qS (hE.kE _ _ h).1
 |rW h=>exact .rW (hE.kE _ _ h).1
 |pF h=>exact .pF (hE.kE _ _ h).1
 |jV=>exact .jV
theorem aF.kG {g g':cf} {w w':World} (hE:dp g w g' w') {x:ae} {v:Value} (h:aF w g x v):aF w' g' x v:=h.Hn hE.tovR
def Ck (w:World) (g:cf) (c:Nat):EM->Prop
 | .dP clock es=>∃ arr:List MapEntry,w.heap[c]? =some (.map arr.toArray clock)/\arr.length=es.length/\∀ (i:Nat) (e:MapEntry) (x:Nat×ae×ae),arr[i]? =some e->es[i]? =some x->e.born=x.1/\cb w g.bJ x.2.1 e.key/\cb w g.bJ x.2.2 e.val
 | .oO m since seen last=>∃ k,g.aZ m=some k/\w.heap[c]? =some (.mapIter (some k) since seen.toArray last)
theorem Ck.Ps {g g':cf} {w w':World} {c:Nat} {X:EM} (hE:vR g w g' w') (hb:w'.heap[c]? =w.heap[c]?) (h:Ck w g c X):Ck w' g' c X:=by
 cases X with
 |dP clock es=>
  obtain ⟨arr,h1,h2,h3⟩:=h;exact ⟨arr,hb.trans h1,h2,λi e x he hx=>⟨(h3 i e x he hx).1,(h3 i e x he hx).2.1.eO hE.ee,(h3 i e x he hx).2.2.eO hE.ee⟩⟩
 |oO m since seen last=>
  obtain ⟨k,h1,h2⟩:=h;exact ⟨k,(hE.kE _ _ h1).1,hb.trans h2⟩
structure Hl (w:World) (g:cf) (c:Nat) (st:LoopState) (pend:Option Code) (nt:Nat) (tm:List (Nat×ae)) (ps:List Nat) (Cg Ch:Code) (r:Loop):Prop where
 qi:w.heap[c]? =some (.loop r)
 EL:r.state=st
 EK:r.pending=pend
 Ci:r.tmps.size=nt
 Aw:r.params.toList=ps
 Cg:r.assign=Cg
 Ch:r.body=Ch
 uE:∀ x∈tm,x.1<nt/\aF w g x.2 (r.tmps.getD x.1 undef)
def bs.dw:bs->Bool
 | .au ..| .aR ..| .iR ..| .c9 ..| .eZ ..=>true
 |_=>false
abbrev az:=aS->bs
def aS.y6:aS->aS->Bool
 | .aj a, .aj b=>Nat.beq a b
 | .af a, .af b=>Nat.beq a b
 | .aJ a, .aJ b=>Nat.beq a b
 |_,_=>false
theorem aS.EJ {a b:aS}:a.y6 b=true↔a=b:=by
 cases a<;>cases b<;>simp [aS.y6]
def aU (σ:az) (l:aS) (c:bs):az:=λl'=>match l'.y6 l with|true=>c|false=>σ l'
theorem gY (σ:az) (l:aS) (c:bs):aU σ l c l=c:=by
 grind [aS.EJ,aU]
theorem cL {σ:az} {l l':aS} {c:bs} (h:l'≠l):aU σ l c l'=σ l':=by
 grind [aS.EJ,aU]
def Yw:List (String×IntKind×List Int):=[("gunwale/sums.steps", .u32,[0,79764919])]
def mb (P:Program) (w:World):Prop:=∀ x∈Yw,∀ i,P.globalNamed x.1=some i->∀ (j:Nat) (z:Int),x.2.2[j]? =some z->w.cell? ⟨i,j,none⟩=some (.int x.2.1 z)
theorem Pz {w w':World} {B:Nat} (h:Below B w w') {k o:Nat} (hk:k<B):w'.cell? ⟨k,o,none⟩=w.cell? ⟨k,o,none⟩:=h.cell (p:=⟨k,o,none⟩) hk
theorem P0 {w w':World} {B:Nat} (h:Below B w w') {k:Nat} (hk:k<B):w'.shape? k=w.shape? k:=by
 unfold World.shape?;rw [h.block k hk]
theorem KL {w:World} {k o:Nat} {v:Value} (h:w.cell? ⟨k,o,none⟩=some v):k<w.heap.size:=by
 rcases Nat.lt_or_ge k w.heap.size with hl|hl
 ·exact hl
 ·have:w.heap[k]? =none:=by simp [hl]
  grind [World.cell?]
theorem mb.X9 {P:Program} {w w':World} (h:mb P w) {B:Nat} (hb:Below B w w') (hB:w.heap.size<=B):mb P w':=λx hx i hi j z hz=>by
 have:=h x hx i hi j z hz;rw [Pz hb (Nat.lt_of_lt_of_le (KL this) hB)];exact this
structure oL (ex:Nat->Prop) (B:Nat) (w w':World):Prop where
 Cb:w'.os=w.os
 Cd:w'.tape=w.tape
 Cc:w'.output=w.output
 kX:w.heap.size<=w'.heap.size
 qR:∀ k,k<B->¬ex k->w'.heap[k]? =w.heap[k]?
 uB:∀ k,k<B->w'.shape? k=w.shape? k
theorem Yk {B:Nat} {w w':World} (h:Below B w w') {k:Nat} (hk:k<B):w'.shape? k=w.shape? k:=by
 unfold World.shape?;rw [h.block k hk]
theorem oL.Kx {ex:Nat->Prop} {B:Nat} {w w':World} (h:Below B w w'):oL ex B w w':=⟨h.os,h.tape,h.output,h.size,λk hk _=>h.block k hk,λ_ hk=>Yk h hk⟩
theorem oL.Kw {ex:Nat->Prop} {B:Nat} {w w':World} (h:oL ex B w w') (he:∀ k,¬ex k):Below B w w':=⟨h.Cb,h.Cd,h.Cc,h.kX,λk hk=>h.qR k hk (he k)⟩
theorem oL.EC (ex:Nat->Prop) (B:Nat) (w:World):oL ex B w w:= .Kx (Below.refl B w)
theorem oL.xl {ex:Nat->Prop} {B:Nat} {w w' w'':World} (h:oL ex B w w') (k:oL ex B w' w''):oL ex B w w'':=
 ⟨k.Cb.trans h.Cb,k.Cd.trans h.Cd,k.Cc.trans h.Cc,Nat.le_trans h.kX k.kX,λi hi hn=>(k.qR i hi hn).trans (h.qR i hi hn),λi hi=>(k.uB i hi).trans (h.uB i hi)⟩
structure ek (P:Program) where
 lr:World
 yX:Nat->Nat->Prop
 oK:Nat->Prop
 EB:∀ w,oL oK lr.heap.size lr w->mb P w
 Kv:∀ k o,yX k o->k<lr.heap.size
 Pk:∀ k o,yX k o->¬oK k
def ek.xk {P:Program} (w:World) (F:Nat->Nat->Prop) (hG:mb P w) (hF:∀ k o,F k o->k<w.heap.size):ek P:=⟨w,F,λ_=>False,λ_ h=>hG.X9 (h.Kw λ_ h=>h) (Nat.le_refl _),hF,λ_ _ _ h=>h⟩
def ek.rP {P:Program} (b:ek P) (c:Nat):Prop:=b.lr.heap.size<=c\/b.oK c
structure nU where
 AA:cf
 uG:World
 Hr:Nat
 KE:∀ id c,AA.aZ id=some c->id<Hr
 ER:∀ id x,AA.cu id=some x->id<Hr
structure bh {P:Program} (b:ek P) (σ:az) (D:Nat->Prop) (g:cf) (w:World):Prop where
 dU:oL b.oK b.lr.heap.size b.lr w
 fU:∀ k o,g.bJ k o->k<w.heap.size
 kY:∀ k o,b.yX k o->g.bJ k o
 kh:∀ k o,g.bJ k o->k<b.lr.heap.size->¬b.oK k->b.yX k o
 lu:∀ id c,g.aZ id=some c->D id
 ki:∀ id x,g.cu id=some x->D id
 eU:∀ id c,g.aZ id=some c->c<w.heap.size
 gV:∀ id c N,g.cu id=some (some c,N)->c<w.heap.size
 dq:∀ id,(σ (.af id)).dw=true->∃ c,g.aZ id=some c/\b.rP c/\c<w.heap.size/\(∀ o,¬g.bJ c o)
 nS:∀ id t cells c,σ (.af id)= .au t cells->g.aZ id=some c->∃ arr:List Value,w.heap[c]? =some (.cells arr.toArray t (0,0))/\arr.length=cells.length/\
  ∀ (i:Nat) (x:ae) (v:Value),cells[i]? =some x->arr[i]? =some v->aF w g x v
 oN:∀ id t cells c,σ (.af id)= .aR t cells->g.aZ id=some c->∃ (arr:List Value) (z:Nat×Nat),w.heap[c]? =some (.cells arr.toArray t z)/\cells.length<=arr.length/\(∀ o,o<arr.length->¬(z.1<=o/\o<z.2))/\
  ∀ (i:Nat) (x:ae) (v:Value),cells[i]? =some x->arr[i]? =some v->cb w g.bJ x v
 EG:∀ id s pos c,σ (.af id)= .iR s pos->g.aZ id=some c->∃ sb:ByteArray,w.heap[c]? =some (.stringIter sb pos)/\sb.data.toList=s
 s8:∀ id X c,σ (.af id)= .c9 X->g.aZ id=some c->Ck w g c X
 lv:∀ id X c,σ (.af id)= .eT X->g.aZ id=some c->c<b.lr.heap.size/\¬b.oK c/\Ck b.lr ⟨λk o=>b.yX k o/\¬b.oK k,λ_=>none,λ_=>none⟩ c X
 y5:∀ id st pend nt tm ps assign body c,σ (.af id)= .eZ st pend nt tm ps assign body->g.aZ id=some c->∃ r,Hl w g c st pend nt tm ps assign body r
 iT:∀ id id' c,(σ (.af id)).dw=true->(σ (.af id')).dw=true->g.aZ id=some c->g.aZ id'=some c->id=id'
 fA:∀ id t sz N,σ (.aJ id)= .aN t sz N->∃ bk,g.cu id=some (bk,N)/\∀ c,bk=some c->b.rP c/\c<w.heap.size/\(∀ o,g.bJ c o->o<N*sz)/\
  (∀ id',(σ (.af id')).dw=true->g.aZ id'≠some c)/\(∀ id' t' sz' N' N'',σ (.aJ id')= .aN t' sz' N'->g.cu id'=some (some c,N'')->id'=id)/\
  ∃ (arr:List Value) (z:Nat×Nat),w.heap[c]? =some (.cells arr.toArray t z)/\∀ o,o<arr.length->¬(z.1<=o/\o<z.2)
theorem bh.Au {P:Program} {b:ek P} {σ:az} {D:Nat->Prop} {g:cf} {w:World} (h:bh b σ D g w):mb P w:=b.EB w h.dU
section
variable {P:Program} {b:ek P} {σ:az} {D D':Nat->Prop} {g:cf} {w w':World}
theorem Hl.Pr {g g':cf} {c:Nat} {st:LoopState} {pend:Option Code} {nt:Nat} {tm:List (Nat×ae)} {ps:List Nat} {assign body:Code} {r:Loop} (hE:vR g w g' w') (hb:w'.heap[c]? =w.heap[c]?) (h:Hl w g c st pend nt tm ps assign body r):Hl w' g' c st pend nt tm ps assign body r:=
 ⟨hb.trans h.qi,h.EL,h.EK,h.Ci,h.Aw,h.Cg,h.Ch,λx hx=>⟨(h.uE x hx).1,(h.uE x hx).2.Hn hE⟩⟩
theorem bh.xn (h:bh b σ D g w) (hb:Below w.heap.size w w') (hd:w.drawn<=w'.drawn) {F':Nat->Nat->Prop} (hF:∀ k o,g.bJ k o->F' k o):dp g w {g with bJ:=F'} w':=
 ⟨⟨λk o hk=>⟨hF k o hk,Pz hb (h.fU k o hk)⟩,λid c hc=>⟨hc,P0 hb (h.eU id c hc)⟩,
  λid bk N hr=>⟨bk,N,hr,Nat.le_refl _,λ_=>⟨rfl,λc hc=>by subst hc;exact P0 hb (h.gV id c N hr)⟩⟩,λ_ _ N h=> .inl ⟨N,h⟩⟩,hb.size,hd,
  λd ds hd=>(hb.block d (Array.getElem?_eq_some_iff.1 hd).1).trans hd⟩
theorem bh.yZ (h:bh b σ D g w) (hb:Below w.heap.size w w') (hd:w.drawn<=w'.drawn) {F':Nat->Nat->Prop} (hF:∀ k o,g.bJ k o->F' k o)
  (hF1:∀ k o,F' k o->g.bJ k o\/(w.heap.size<=k/\k<w'.heap.size)):bh b σ D {g with bJ:=F'} w':=by
 have hE:=h.xn hb hd hF;have hW:=h.dU.kX;refine ⟨h.dU.xl (.Kx (hb.mono hW)),λk o hk=>?_,λk o hk=>hF k o (h.kY k o hk),λk o hk hlt hx=>?_,h.lu,h.ki,λid c hc=>Nat.lt_of_lt_of_le (h.eU id c hc) hb.size,
  λid c N hc=>Nat.lt_of_lt_of_le (h.gV id c N hc) hb.size,λid hl=>?_,λid t cells c hs hc=>?_,λid t cells c hs hc=>?_,λid s pos c hs hc=>?_,λid X c hs hc=>?_,h.lv,λid st pend nt tm ps assign body c hs hc=>?_,h.iT,λid t sz N hs=>?_⟩
 ·rcases hF1 k o hk with h1|h1
  ·exact Nat.lt_of_lt_of_le (h.fU k o h1) hb.size
  ·exact h1.2
 ·rcases hF1 k o hk with h1|h1
  ·exact h.kh k o h1 hlt hx
  ·omega
 ·obtain ⟨c,h1,h2,h3,h4⟩:=h.dq id hl;grind [hb.size]
 ·obtain ⟨arr,h1,h2,h3⟩:=h.nS id t cells c hs hc;exact ⟨arr,(hb.block c (h.eU id c hc)).trans h1,h2,λi x v hx hv=>(h3 i x v hx hv).kG hE⟩
 ·obtain ⟨arr,z,h1,h2,h3,h4⟩:=h.oN id t cells c hs hc;exact ⟨arr,z,(hb.block c (h.eU id c hc)).trans h1,h2,h3,λi x v hx hv=>(h4 i x v hx hv).eO hE.ee⟩
 ·obtain ⟨sb,h1,h2⟩:=h.EG id s pos c hs hc;exact ⟨sb,(hb.block c (h.eU id c hc)).trans h1,h2⟩
 ·exact (h.s8 id X c hs hc).Ps hE.tovR (hb.block c (h.eU id c hc))
 ·obtain ⟨r,hr⟩:=h.y5 id st pend nt tm ps assign body c hs hc;exact ⟨r,hr.Pr hE.tovR (hb.block c (h.eU id c hc))⟩
 ·obtain ⟨bk,h1,h2⟩:=h.fA id t sz N hs;refine ⟨bk,h1,λc hc=>?_⟩;obtain ⟨a1,a2,a3,a4,a5,arr,z,a6,a7⟩:=h2 c hc;refine ⟨a1,Nat.lt_of_lt_of_le a2 hb.size,λo ho=>?_,a4,a5,arr,z,(hb.block c a2).trans a6,a7⟩;grind
theorem bh.iU (h:bh b σ D g w) (hD:∀ i,D i->D' i):bh b σ D' g w:=
 ⟨h.dU,h.fU,h.kY,h.kh,λi c hc=>hD i (h.lu i c hc),λi c hc=>hD i (h.ki i c hc),h.eU,h.gV,h.dq,h.nS,h.oN,h.EG,h.s8,h.lv,h.y5,h.iT,h.fA⟩
def mI (w:World) (g:cf) (c:Nat):bs->Prop
 | .au t cells=>∃ arr:List Value,w.heap[c]? =some (.cells arr.toArray t (0,0))/\arr.length=cells.length/\∀ (i:Nat) (x:ae) (v:Value),cells[i]? =some x->arr[i]? =some v->aF w g x v
 | .aR t cells=>∃ (arr:List Value) (z:Nat×Nat),w.heap[c]? =some (.cells arr.toArray t z)/\cells.length<=arr.length/\(∀ o,o<arr.length->¬(z.1<=o/\o<z.2))/\
  ∀ (i:Nat) (x:ae) (v:Value),cells[i]? =some x->arr[i]? =some v->cb w g.bJ x v
 | .iR s pos=>∃ sb:ByteArray,w.heap[c]? =some (.stringIter sb pos)/\sb.data.toList=s
 | .c9 X=>Ck w g c X
 | .eZ st pend nt tm ps assign body=>∃ r,Hl w g c st pend nt tm ps assign body r
 |_=>True
theorem mI.ED {g g':cf} {c:Nat} {X:bs} (hE:vR g w g' w') (hb:w'.heap[c]? =w.heap[c]?) (h:mI w g c X):mI w' g' c X:=by
 cases X with
 |au t cells=>
  obtain ⟨arr,h1,h2,h3⟩:=h;exact ⟨arr,hb.trans h1,h2,λi x v hx hv=>(h3 i x v hx hv).Hn hE⟩
 |aR t cells=>
  obtain ⟨arr,z,h1,h2,h3,h4⟩:=h;exact ⟨arr,z,hb.trans h1,h2,h3,λi x v hx hv=>(h4 i x v hx hv).eO hE.ee⟩
 |iR s pos=>
  obtain ⟨sb,h1,h2⟩:=h;exact ⟨sb,hb.trans h1,h2⟩
 |c9 X=>exact Ck.Ps hE hb h
 |eZ st pend nt tm ps assign body=>
  obtain ⟨r,hr⟩:=h;exact ⟨r,hr.Pr hE hb⟩
 |_=>trivial
theorem mI.Aq {g g':cf} {c:Nat} {X:bs} (hE:dp g w g' w') (hb:w'.heap[c]? =w.heap[c]?) (h:mI w g c X):mI w' g' c X:=h.ED hE.tovR hb
theorem bh.kF (h:bh b σ D g w) {id c:Nat} (hc:g.aZ id=some c):mI w g c (σ (.af id)):=by
 cases hs:σ (.af id) with
 |au t cells=>exact h.nS id t cells c hs hc
 |aR t cells=>exact h.oN id t cells c hs hc
 |iR s pos=>exact h.EG id s pos c hs hc
 |c9 X=>exact h.s8 id X c hs hc
 |eZ st pend nt tm ps assign body=>exact h.y5 id st pend nt tm ps assign body c hs hc
 |_=>trivial
theorem bh.lQ (below:oL b.oK b.lr.heap.size b.lr w) (flt:∀ k o,g.bJ k o->k<w.heap.size) (f0:∀ k o,b.yX k o->g.bJ k o) (f1:∀ k o,g.bJ k o->k<b.lr.heap.size->¬b.oK k->b.yX k o)
  (ownlt:∀ id c,g.aZ id=some c->D id) (rowlt:∀ id x,g.cu id=some x->D id) (ownsz:∀ id c,g.aZ id=some c->c<w.heap.size) (rowsz:∀ id c N,g.cu id=some (some c,N)->c<w.heap.size)
  (live:∀ id,(σ (.af id)).dw=true->∃ c,g.aZ id=some c/\b.rP c/\c<w.heap.size/\(∀ o,¬g.bJ c o))
  (claims:∀ id c,(σ (.af id)).dw=true->g.aZ id=some c->mI w g c (σ (.af id)))
  (inj:∀ id id' c,(σ (.af id)).dw=true->(σ (.af id')).dw=true->g.aZ id=some c->g.aZ id'=some c->id=id')
  (ro:∀ id X c,σ (.af id)= .eT X->g.aZ id=some c->c<b.lr.heap.size/\¬b.oK c/\Ck b.lr ⟨λk o=>b.yX k o/\¬b.oK k,λ_=>none,λ_=>none⟩ c X)
  (row:∀ id t sz N,σ (.aJ id)= .aN t sz N->∃ bk,g.cu id=some (bk,N)/\∀ c,bk=some c->b.rP c/\c<w.heap.size/\(∀ o,g.bJ c o->o<N*sz)/\
  (∀ id',(σ (.af id')).dw=true->g.aZ id'≠some c)/\(∀ id' t' sz' N' N'',σ (.aJ id')= .aN t' sz' N'->g.cu id'=some (some c,N'')->id'=id)/\
  ∃ (arr:List Value) (z:Nat×Nat),w.heap[c]? =some (.cells arr.toArray t z)/\∀ o,o<arr.length->¬(z.1<=o/\o<z.2)):bh b σ D g w:=
 ⟨below,flt,f0,f1,ownlt,rowlt,ownsz,rowsz,live,λid t cells c hs hc=>by have:=claims id c (by rw [hs];rfl) hc;rw [hs] at this;exact this,
  λid t cells c hs hc=>by have:=claims id c (by rw [hs];rfl) hc;rw [hs] at this;exact this,λid s pos c hs hc=>by have:=claims id c (by rw [hs];rfl) hc;rw [hs] at this;exact this,
  λid X c hs hc=>by have:=claims id c (by rw [hs];rfl) hc;rw [hs] at this;exact this,ro,
  λid st pend nt tm ps assign body c hs hc=>by have:=claims id c (by rw [hs];rfl) hc;rw [hs] at this;exact this,inj,row⟩
def cf.oM (g:cf) (f c:Nat):cf:={g with aZ:=λi=>if i=f then some c else g.aZ i}
theorem cf.mJ (g:cf) (f c:Nat):(g.oM f c).aZ f=some c:=by simp [cf.oM]
theorem cf.uD (g:cf) {f c i:Nat} (h:i≠f):(g.oM f c).aZ i=g.aZ i:=by simp [cf.oM,h]
theorem dp.EE {f c:Nat} (hf:g.aZ f=none):dp g w (g.oM f c) w:=
 ⟨⟨λ_ _ h=>⟨h,rfl⟩,λid c' hc=>⟨by grind [cf.uD],rfl⟩,λ_ bk N h=>⟨bk,N,h,Nat.le_refl _,λ_=>⟨rfl,λ_ _=>rfl⟩⟩,λ_ _ N h=> .inl ⟨N,h⟩⟩,Nat.le_refl _,Nat.le_refl _,λ_ _ h=>h⟩
theorem bh.Hj (h:bh b σ D g w) {f c:Nat} {X:bs} (hf:g.aZ f=none) (_hX:X.dw=true) (hc1:b.rP c) (hc2:c<w.heap.size) (hcF:∀ o,¬g.bJ c o)
  (hown:∀ id,(σ (.af id)).dw=true->g.aZ id≠some c) (hrow:∀ id t sz N N',σ (.aJ id)= .aN t sz N->g.cu id≠some (some c,N')) (hcl:mI w g c X):
  bh b (aU σ (.af f) X) (λi=>D i\/i=f) (g.oM f c) w:=by
 have hE:dp g w (g.oM f c) w:=dp.EE hf;have e0:∀ id,id≠f->(aU σ (.af f) X) (.af id)=σ (.af id):=λid hne=>cL (by simp_all)
 have e1:(aU σ (.af f) X) (.af f)=X:=gY _ _ _;have e2:∀ id,(aU σ (.af f) X) (.aJ id)=σ (.aJ id):=λid=>cL (by intro e;cases e)
 refine bh.lQ h.dU h.fU h.kY h.kh (λid c' hc'=>?_) (λid x hx=> .inl (h.ki id x hx)) (λid c' hc'=>?_) h.gV (λid hl=>?_) (λid c' hl hc'=>?_) (λid id' c' hl hl' hc' hc''=>?_) (λid X' c' hs hc'=>by
  by_cases hid:id=f
  ·subst hid;rw [e1] at hs;subst hs;cases _hX
  ·rw [e0 id hid] at hs;rw [cf.uD g hid] at hc';exact h.lv id X' c' hs hc') (λid t sz N hs=>?_)
 ·by_cases hid:id=f
  ·exact .inr hid
  ·rw [cf.uD g hid] at hc';exact .inl (h.lu id c' hc')
 ·by_cases hid:id=f
  ·grind [cf.mJ]
  ·rw [cf.uD g hid] at hc';exact h.eU id c' hc'
 ·by_cases hid:id=f
  ·subst hid;exact ⟨c,cf.mJ _ _ _,hc1,hc2,hcF⟩
  ·rw [e0 id hid] at hl;rw [cf.uD g hid];exact h.dq id hl
 ·by_cases hid:id=f
  ·subst hid;rw [cf.mJ] at hc';cases hc';rw [e1];exact hcl.Aq hE rfl
  ·rw [e0 id hid] at hl ⊢;rw [cf.uD g hid] at hc';exact (h.kF hc').Aq hE rfl
 ·by_cases hid:id=f
  ·grind [cf.mJ,cf.uD]
  ·by_cases hid':id'=f
   ·grind [cf.mJ,cf.uD]
   ·rw [e0 id hid] at hl;rw [e0 id' hid'] at hl';rw [cf.uD g hid] at hc';rw [cf.uD g hid'] at hc'';exact h.iT id id' c' hl hl' hc' hc''
 ·rw [e2] at hs;obtain ⟨bk,h1,h2⟩:=h.fA id t sz N hs;refine ⟨bk,h1,λc' hc'=>?_⟩;obtain ⟨a1,a2,a3,a4,a5,a6⟩:=h2 c' hc';refine ⟨a1,a2,a3,λid' hl'=>?_,λid' t' sz' N' N'' hs'=>?_,a6⟩
  ·grind [cf.mJ,cf.uD]
  ·rw [e2] at hs';exact a5 id' t' sz' N' N'' hs'
structure kj (c:Nat) (w w':World):Prop where
 KH:w'.os=w.os
 KJ:w'.tape=w.tape
 KI:w'.output=w.output
 me:w'.heap.size=w.heap.size
 rX:∀ k,k≠c->w'.heap[k]? =w.heap[k]?
 ET:w'.shape? c=w.shape? c
 Yg:∀ (ds:Option (List Deferred)),w.heap[c]? =some (Obj.deferred ds)->w'.heap[c]? =some (Obj.deferred ds)
 ES:w'.drawn=w.drawn
theorem oL.Ky {ex:Nat->Prop} {c B:Nat} (h:kj c w w') (hB:B<=c\/ex c):oL ex B w w':=by
 refine ⟨h.KH,h.KJ,h.KI,by grind [h.me],λk hk hn=>h.rX k (λe=>?_),λk _=>?_⟩
 ·grind
 ·by_cases e:k=c
  ·subst e;exact h.ET
  ·unfold World.shape?;rw [h.rX k e]
theorem kj.KF {c k o:Nat} (h:kj c w w') (hk:k≠c):w'.cell? ⟨k,o,none⟩=w.cell? ⟨k,o,none⟩:=by
 unfold World.cell?;simp only [h.rX k hk]
theorem kj.Cr {c:Nat} (h:kj c w w') (k:Nat):w'.shape? k=w.shape? k:=by
 by_cases hk:k=c
 ·grind [h.ET]
 ·unfold World.shape?;rw [h.rX k hk]
theorem kj.KG {c:Nat} (h:kj c w w') (d:Nat) (ds:Option (List Deferred)) (hd:w.heap[d]? =some (.deferred ds)):w'.heap[d]? =some (.deferred ds):=by
 by_cases hk:d=c
 ·subst hk;exact h.Yg ds hd
 ·exact (h.rX d hk).trans hd
theorem dp.pC {c:Nat} (hw:kj c w w') (hF:∀ o,¬g.bJ c o):dp g w g w':=
 ⟨⟨λ_ o hk=>⟨hk,hw.KF (λe=>hF o (e▸hk))⟩,λ_ c hc=>⟨hc,hw.Cr c⟩,λ_ bk N h=>⟨bk,N,h,Nat.le_refl _,λ_=>⟨rfl,λc _=>hw.Cr c⟩⟩,λ_ _ N h=> .inl ⟨N,h⟩⟩,Nat.le_of_eq hw.me.symm,Nat.le_of_eq hw.ES.symm,hw.KG⟩
theorem bh.j8 (h:bh b σ D g w) {id c:Nat} {X:bs} (hl:(σ (.af id)).dw=true) (hc:g.aZ id=some c) (hw:kj c w w') (hcl:X.dw=true->mI w' g c X) (hro:∀ Y,X≠ .eT Y:=by intro Y e;cases e):
  bh b (aU σ (.af id) X) D g w'/\dp g w g w':=by
 obtain ⟨c',hc',hc1,hc2,hcF⟩:=h.dq id hl;have:c'=c:=by simp_all
 subst this;have hE:dp g w g w':=dp.pC hw hcF;have e0:∀ id',id'≠id->(aU σ (.af id) X) (.af id')=σ (.af id'):=λid' hne=>cL (by simp_all)
 have e1:(aU σ (.af id) X) (.af id)=X:=gY _ _ _;have e2:∀ id',(aU σ (.af id) X) (.aJ id')=σ (.aJ id'):=λid'=>cL (by intro e;cases e)
 have hlv:∀ id',((aU σ (.af id) X) (.af id')).dw=true->(σ (.af id')).dw=true:=λid' h'=>by
  grind
 refine ⟨bh.lQ (h.dU.xl (.Ky hw hc1)) (λk o hk=>by rw [hw.me];exact h.fU k o hk) h.kY h.kh h.lu h.ki (λid c hc=>by rw [hw.me];exact h.eU id c hc) (λid c N hc=>by rw [hw.me];exact h.gV id c N hc)
  (λid' hl'=>by rw [hw.me];exact h.dq id' (hlv id' hl')) (λid' c'' hl' hc''=>?_) (λi j k hi hj=>h.iT i j k (hlv i hi) (hlv j hj)) (λid' Y c'' hs hc''=>by
   by_cases hid:id'=id
   ·simp_all
   ·rw [e0 id' hid] at hs;exact h.lv id' Y c'' hs hc'') (λid' t sz N hs=>?_),hE⟩
 ·by_cases hid:id'=id
  ·simp_all
  ·rw [e0 id' hid] at hl' ⊢;have hne:c''≠c':=λe=>hid (h.iT id' id c' hl' hl (e▸hc'') hc)
   exact (h.kF hc'').Aq hE (hw.rX c'' hne)
 ·rw [e2] at hs;obtain ⟨bk,h1,h2⟩:=h.fA id' t sz N hs;refine ⟨bk,h1,λk hk=>?_⟩;obtain ⟨a1,a2,a3,a4,a5,arr,z,a6,a7⟩:=h2 k hk;have hne:k≠c':=λe=>a4 id hl (e▸hc)
  exact ⟨a1,by rw [hw.me];exact a2,a3,λi hi=>a4 i (hlv i hi),λi t' sz' N' N'' hs'=>by grind,arr,z,(hw.rX k hne).trans a6,a7⟩
theorem bh.Pq (h:bh b σ D g w) {id c sz N:Nat} {t:TypeId} (hs:σ (.aJ id)= .aN t sz N) (hr:g.cu id=some (some c,N)) (hw:kj c w w') (hkeep:∀ o,o<N*sz->w'.cell? ⟨c,o,none⟩=w.cell? ⟨c,o,none⟩)
  (hcl:∃ (arr:List Value) (z:Nat×Nat),w'.heap[c]? =some (.cells arr.toArray t z)/\∀ o,o<arr.length->¬(z.1<=o/\o<z.2)):bh b σ D g w'/\dp g w g w':=by
 obtain ⟨bk,h1,h2⟩:=h.fA id t sz N hs;have:bk=some c:=by rw [hr] at h1;cases h1;rfl
 subst this;obtain ⟨a1,a2,a3,a4,a5,_⟩:=h2 c rfl;have hE:dp g w g w':=⟨⟨λk o hk=>⟨hk,by
  by_cases hkc:k=c
  ·grind
  ·exact hw.KF hkc⟩,λ_ c hc=>⟨hc,hw.Cr c⟩,λ_ bk N h=>⟨bk,N,h,Nat.le_refl _,λ_=>⟨rfl,λc _=>hw.Cr c⟩⟩,λ_ _ N h=> .inl ⟨N,h⟩⟩,Nat.le_of_eq hw.me.symm,Nat.le_of_eq hw.ES.symm,hw.KG⟩
 refine ⟨bh.lQ (h.dU.xl (.Ky hw a1)) (λk o hk=>by rw [hw.me];exact h.fU k o hk) h.kY h.kh h.lu h.ki (λid c hc=>by rw [hw.me];exact h.eU id c hc) (λid c N hc=>by rw [hw.me];exact h.gV id c N hc)
  (λid' hl'=>by rw [hw.me];exact h.dq id' hl') (λid' c'' hl' hc''=>?_) h.iT h.lv (λid' t' sz' N' hs'=>?_),hE⟩
 ·exact (h.kF hc'').Aq hE (hw.rX c'' (λe=>a4 id' hl' (e▸hc'')))
 ·obtain ⟨bk,h1',h2'⟩:=h.fA id' t' sz' N' hs';refine ⟨bk,h1',λk hk=>?_⟩;obtain ⟨b1,b2,b3,b4,b5,arr,z,b6,b7⟩:=h2' k hk;refine ⟨b1,by rw [hw.me];exact b2,b3,b4,b5,?_⟩
  by_cases hkc:k=c
  ·grind
  ·exact ⟨arr,z,(hw.rX k hkc).trans b6,b7⟩
def cf.qh (g:cf) (id c N sz:Nat):cf:={g with bJ:=λk o=>g.bJ k o\/(k=c/\o<N*sz),cu:=λi=>if i=id then some (some c,N) else g.cu i}
theorem cf.Ce (g:cf) (id c N sz:Nat):(g.qh id c N sz).cu id=some (some c,N):=by simp [cf.qh]
theorem cf.As (g:cf) {id c N sz i:Nat} (h:i≠id):(g.qh id c N sz).cu i=g.cu i:=by simp [cf.qh,h]
theorem dp.Pp {id c N sz:Nat} (ho:∀ bk M,g.cu id=some (bk,M)->M<N) (hfr:(∃ N0,g.cu id=some (some c,N0))\/∀ o,¬g.bJ c o):dp g w (g.qh id c N sz) w:=by
 refine ⟨⟨λk o hk=>⟨.inl hk,rfl⟩,λid c hc=>⟨hc,rfl⟩,λi bk M hi=>?_,λi k M hi=>?_⟩,Nat.le_refl _,Nat.le_refl _,λ_ _ h=>h⟩
 by_cases hid:i=id
 ·grind [cf.Ce]
 ·grind [cf.As]
 grind [cf.Ce,cf.As]
theorem bh.Yb (h:bh b σ D g w) {id c N sz:Nat} {t:TypeId} (ho:∀ bk M,g.cu id=some (bk,M)->M<N) (hfr:(∃ N0,g.cu id=some (some c,N0))\/∀ o,¬g.bJ c o) (hc1:b.rP c) (hc2:c<w.heap.size) (hcF:∀ o,g.bJ c o->o<N*sz)
  (hown:∀ id,(σ (.af id)).dw=true->g.aZ id≠some c) (hrow:∀ id' t sz N N',id'≠id->σ (.aJ id')= .aN t sz N->g.cu id'≠some (some c,N'))
  (hcl:∃ (arr:List Value) (z:Nat×Nat),w.heap[c]? =some (.cells arr.toArray t z)/\∀ o,o<arr.length->¬(z.1<=o/\o<z.2)):
  bh b (aU σ (.aJ id) (.aN t sz N)) (λi=>D i\/i=id) (g.qh id c N sz) w:=by
 have hE:dp g w (g.qh id c N sz) w:=dp.Pp ho hfr;have e0:∀ id',(aU σ (.aJ id) (.aN t sz N)) (.af id')=σ (.af id'):=λid'=>cL (by intro e;cases e)
 have e1:(aU σ (.aJ id) (.aN t sz N)) (.aJ id)= .aN t sz N:=gY _ _ _;have e2:∀ id',id'≠id->(aU σ (.aJ id) (.aN t sz N)) (.aJ id')=σ (.aJ id'):=λid' hne=>cL (by simp_all)
 refine bh.lQ h.dU (λk o hk=>?_) (λk o hk=> .inl (h.kY k o hk)) (λk o hk hlt hx=>?_) (λi c hc=> .inl (h.lu i c hc)) (λi x hx=>?_) h.eU (λi k N' hk=>?_) (λi hl=>?_) (λi k hl hk=>?_) (λi j k hi hj=>?_) (λi Y k hs hk=>by rw [e0] at hs;exact h.lv i Y k hs hk) (λi t' sz' N' hs=>?_)
 ·rcases hk with hk|⟨rfl,_⟩
  ·exact h.fU k o hk
  ·exact hc2
 ·rcases hk with hk|⟨rfl,_⟩
  ·exact h.kh k o hk hlt hx
  ·rcases hc1 with hc1|hc1
   ·omega
   trivial
 ·by_cases hid:i=id
  ·exact .inr hid
  ·rw [cf.As g hid] at hx;exact .inl (h.ki i x hx)
 ·by_cases hid:i=id
  ·grind [cf.Ce]
  ·rw [cf.As g hid] at hk;exact h.gV i k N' hk
 ·rw [e0] at hl;obtain ⟨k,h1,h2,h3,h4⟩:=h.dq i hl;refine ⟨k,h1,h2,h3,λo ho=>?_⟩;rcases ho with ho|⟨rfl,_⟩
  ·exact h4 o ho
  simp_all
 ·rw [e0] at hl ⊢;exact (h.kF hk).Aq hE rfl
 ·rw [e0] at hi hj;exact h.iT i j k hi hj
 ·by_cases hid:i=id
  ·subst hid;rw [e1] at hs;cases hs;refine ⟨some c,cf.Ce _ _ _ _ _,λk hk=>?_⟩;cases hk;refine ⟨hc1,hc2,λo ho=>?_,λi hl=>?_,λj t' sz' N' N'' hj hr=>?_,hcl⟩
   ·rcases ho with ho|⟨_,ho⟩
    ·exact hcF o ho
    ·exact ho
   ·rw [e0] at hl;exact hown i hl
   grind [cf.As]
  ·rw [e2 i hid] at hs;obtain ⟨bk,h1,h2⟩:=h.fA i t' sz' N' hs;refine ⟨bk,by grind [cf.As],λk hk=>?_⟩;obtain ⟨b1,b2,b3,b4,b5,b6⟩:=h2 k hk;have hne:k≠c:=λe=>hrow i t' sz' N' N' hid hs (by rw [h1,hk,e])
   refine ⟨b1,b2,λo ho=>?_,λj hl=>?_,λj t'' sz'' M M' hj hr=>?_,b6⟩
   ·rcases ho with ho|⟨e,_⟩
    ·exact b3 o ho
    omega
   ·rw [e0] at hl;exact b4 j hl
   grind [cf.Ce,cf.As]
theorem bh.s7 (h:bh b σ D g w) (l:aS):bh b (aU σ l .bq) D g w:=by
 have hb:∀ id,((aU σ l .bq) (.af id)).dw=true->(aU σ l .bq) (.af id)=σ (.af id):=λid hl=>by
  by_cases e:(aS.af id)=l
  ·subst e;rw [gY] at hl;cases hl
  ·exact cL e
 have hr:∀ id t sz N,(aU σ l .bq) (.aJ id)= .aN t sz N->σ (.aJ id)= .aN t sz N:=λid t sz N hl=>by
  grind [gY,cL]
 refine bh.lQ h.dU h.fU h.kY h.kh h.lu h.ki h.eU h.gV (λid hl=>h.dq id (by grind)) (λid c hl hc=>by rw [hb id hl];exact h.kF hc)
  (λi j k hi hj=>h.iT i j k (by grind) (by grind)) (λid Y c hs hc=>h.lv id Y c (by
   grind [gY,cL]) hc) (λid t sz N hs=>?_)
 obtain ⟨bk,h1,h2⟩:=h.fA id t sz N (hr _ _ _ _ hs);grind
theorem bh.sZ {σ':az} (h:bh b σ D g w) (h1:∀ id,σ' (.af id)=σ (.af id)) (h2:∀ id,σ' (.aJ id)=σ (.aJ id)):bh b σ' D g w:=by
 refine bh.lQ h.dU h.fU h.kY h.kh h.lu h.ki h.eU h.gV (λid hl=>h.dq id (by simp_all)) (λid c hl hc=>by rw [h1];exact h.kF hc)
  (λi j k hi hj=>h.iT i j k (by simp_all) (by simp_all)) (λid Y c hs hc=>h.lv id Y c (by simp_all) hc) (λid t sz N hs=>?_)
 rw [h2] at hs;obtain ⟨bk,a1,a2⟩:=h.fA id t sz N hs;grind
end
inductive y8 where
 |eP (k:IntKind)
 |ij
 |fF
 |dK (e:TypeId)
 |e7 (n:Nat) (e:TypeId)
 |bO (fs:List (Nat×TypeId))
 |e8 (e:TypeId)
 |fB
 |il
 |gE
 |im
structure lz where
 Pu:y8
 aO:Nat
 xx:Nat
 jX:List ae
def lS {α:Type}:List α->Nat->Option α
 |[],_=>none
 |x::_,0=>some x
 |_::l,n+1=>lS l n
theorem td {α:Type}:∀ (l:List α) (n:Nat),lS l n=l[n]?
 |[],_=>by simp [lS]
 |_::_,0=>by simp [lS]
 |_::l,n+1=>by simp [lS,td l n]
def qm {α:Type}:List α->Nat->Option (List α)
 |_,0=>some []
 |[],_+1=>none
 |x::l,n+1=>match qm l n with|some r=>some (x::r)|none=>none
def vV {α:Type}:List α->Nat->List α
 |l,0=>l
 |[],_+1=>[]
 |_::l,n+1=>vV l n
theorem Hv {α:Type}:∀ (l:List α) (n:Nat),vV l n=l.drop n
 |l,0=>by simp [vV]
 |[],_+1=>by simp [vV]
 |_::l,n+1=>by simp [vV,Hv l n]
theorem E0 {α:Type}:∀ (l:List α) (n:Nat) (r:List α),qm l n=some r->r=l.take n/\r.length=n
 |l,0,r,h=>by grind [qm]
 |[],_+1,r,h=>by simp [qm] at h
 |x::l,n+1,r,h=>by
  simp only [qm] at h;cases hk:qm l n with
  |none=>simp [hk] at h
  |some q=>
   simp [hk] at h;obtain ⟨h1,h2⟩:=E0 l n q hk;grind
def qY {α:Type}:List α->Nat->List α->Option (List α)
 |l,0,[]=>some l
 |_::l,0,y::ys=>match qY l 0 ys with|some r=>some (y::r)|none=>none
 |[],0,_::_=>none
 |x::l,n+1,ys=>match qY l n ys with|some r=>some (x::r)|none=>none
 |[],_+1,_=>none
theorem HM {α:Type}:∀ (l:List α) (n:Nat) (ys r:List α),qY l n ys=some r->n+ys.length<=l.length/\r=l.take n++ys++l.drop (n+ys.length)
 |l,0,[],r,h=>by grind [qY]
 |[],0,_::_,r,h=>by simp [qY] at h
 |[],_+1,_,r,h=>by simp [qY] at h
 |x::l,0,y::ys,r,h=>by
  simp only [qY] at h;cases hk:qY l 0 ys with
  |none=>simp [hk] at h
  |some q=>
   simp [hk] at h;obtain ⟨h1,h2⟩:=HM l 0 ys q hk;simp_all
 |x::l,n+1,ys,r,h=>by
  simp only [qY] at h;cases hk:qY l n ys with
  |none=>simp [hk] at h
  |some q=>
   simp [hk] at h;obtain ⟨h1,h2⟩:=HM l n ys q hk;grind
def Hu:Value->ae
 | .int k n=> .aa k n
 | .bool true=> .bN
 | .bool false=> .bo
 | .string s=> .ai s.data.toList
 | .pointer none=> .bU
 | .slice none 0 0=> .ag true 1 [] .bR
 | .nilFunc=> .cA
 | .nilIface=> .cq
 |_=> .bV
theorem PE (w:World) (g:cf) (v:Value):aF w g (Hu v) v:=by
 cases v with
 |bool b=>cases b<;>first|exact .bC .qj|exact .bC .rS
 |pointer a=>cases a<;>first|exact .bC .EP|exact .jV
 |slice a n c=>
  cases a with
  |some a=>exact .jV
  |none=>
   cases n with
   |succ n=>exact .jV
   |zero=>
    cases c with
    |succ c=>exact .jV
    |zero=>
     refine .jc (.iK (els:=[]) (λ_ _=>undef) rfl (Nat.le_refl _) (by simp) ?_ ?_ ?_) rfl
     ·intro i el j x h;simp at h
     ·simp_all
     simp_all
 |int k n=>exact .bC (.fK k n)
 |string s=>exact .bC (.gX rfl)
 |nilFunc=>exact .bC .EN
 |nilIface=>exact .bC .EO
 |_=>exact .jV
def lz.Pt (P:Program) (t:TypeId) (r:lz):Prop:=
 (match r.Pu with
  | .eP k=>P.underlying t=some (.int k)
  | .ij=>P.underlying t=some .bool
  | .fF=>P.underlying t=some .string
  | .dK e=>P.underlying t=some (.slice e)
  | .e7 n e=>P.underlying t=some (.array n e)
  | .bO fs=>∃ fields places,P.underlying t=some (.struct fields)/\fields.toList.map (λf=>(f.offset,f.type))=fs/\fields.toList.mapM (λf=>(P.info? f.type).map λi=>(f.offset,i.size))=some places
  | .e8 e=>P.underlying t=some (.pointer e)
  | .fB=>∃ ms,P.underlying t=some (.interface ms)
  | .il=>∃ a b c,P.underlying t=some (.func a b c)
  | .gE=>∃ a b,P.underlying t=some (.map a b)
  | .im=>True)/\
 ∃ i z,P.info? t=some i/\i.size=r.aO/\i.bytes=r.xx/\i.zero=some z/\z.cells.toList.map Hu=r.jX/\z.cells.size=r.aO/\(z.cells=#[z]\/∃ cs,z= .agg cs)
abbrev cN:=List (Nat×lz)
def cP:cN->Nat->Option lz
 |[],_=>none
 |(k,r)::l,t=>match Nat.beq k t with|true=>some r|false=>cP l t
def dA (P:Program) (T:cN):Prop:=∀ t r,cP T t=some r->r.Pt P t
def dV (σ:az) (t:Nat):ae:=match σ (.aj t) with| .ah x=>x|_=> .bV
def aM (σ:az):Operand->ae
 | .tmp t=>dV σ t
 | .const v=>Hu v
 | .global _=> .bV
 | .func f=> .aP f [] []
def xB:ae->Bool
 | .aK _| .aw _| .bV=>false
 |_=>true
def fL:List ae->Bool
 |[]=>true
 |x::l=>match xB x with|true=>fL l|false=>false
def xy:ae->Option (List ae)
 | .aK cs=>match fL cs with|true=>some cs|false=>none
 | .bV=>none
 | .aw _=>none
 |v=>some [v]
def xC:ae->Bool
 | .aa ..| .aE _| .bN| .bo| .ai _| .bU| .cA| .cq=>true
 | .ag _ _ _ _=>true
 | .aP _ [] []=>true
 |_=>false
def kZ:List ae->Bool
 |[]=>true
 |x::l=>match xC x with|true=>kZ l|false=>false
def xA:ae->ae
 | .ag a b c _=> .ag a b c .av
 | .bN=> .aE true
 | .bo=> .aE false
 |v=>v
def iB:List ae->List ae
 |[]=>[]
 |x::l=>xA x::iB l
inductive jW:Type 1 where
 |bP (v:ae) (us:List (aS×bs))
 |dJ (p:Prop) (r:jW)
 |mL (α:Type) (f:α->jW)
 |bD
def jW.Az (K:ae->List (aS×bs)->Prop) (r:jW):Prop:=
 jW.rec (motive:=λ_=>Prop) (λv us=>K v us) (λp _ ih=>p/\ih) (λα _ ih=>∃ x:α,ih x) False r
def jW.fV (v:ae) (us:List (aS×bs)):jW->Prop
 | .bP v' us'=>v=v'/\us=us'
 | .dJ p r=>p/\r.fV v us
 | .mL α f=>∃ x:α,(f x).fV v us
 | .bD=>False
theorem jW.Hq {K:ae->List (aS×bs)->Prop}:∀ (r:jW),r.Az K->∃ v us,r.fV v us/\K v us
 | .bP v us,h=>⟨v,us,⟨rfl,rfl⟩,h⟩
 | .dJ _ r,h=>let ⟨v,us,h1,h2⟩:=r.Hq h.2;⟨v,us,⟨h.1,h1⟩,h2⟩
 | .mL _ f,⟨x,h⟩=>let ⟨v,us,h1,h2⟩:=(f x).Hq h;⟨v,us,⟨x,h1⟩,h2⟩
 | .bD,h=>h.elim
def eG (σ:az):List (aS×bs)->az
 |[]=>σ
 |(l,c)::us=>eG (aU σ l c) us
def cW (s:List UInt8):List ae:=s.map λc=> .aa .u8 c.toNat
def eB (n:Nat) (z:List ae):List ae:=(List.replicate n z).flatten
def EW:ae->Option ae
 | .bN=>some .bo
 | .bo=>some .bN
 | .aE b=>some (.aE (!b))
 |_=>none
def CD (op:BinOp) (k:IntKind) (a b:Int):jW:=
 match op with
 | .add=> .bP (.aa k (k.wrap (a+b))) []
 | .sub=> .bP (.aa k (k.wrap (a - b))) []
 | .mul=> .bP (.aa k (k.wrap (a*b))) []
 | .quo=>match b==0 with|false=> .bP (.aa k (k.wrap (a.tdiv b))) []|true=> .bD
 | .rem=>match b==0 with|false=> .bP (.aa k (a.tmod b)) []|true=> .bD
 | .and=> .bP (.aa k (k.wrap ((BitVec.ofInt k.bits a &&& BitVec.ofInt k.bits b).toNat:Int))) []
 | .or=> .bP (.aa k (k.wrap ((BitVec.ofInt k.bits a|||BitVec.ofInt k.bits b).toNat:Int))) []
 | .xor=> .bP (.aa k (k.wrap ((BitVec.ofInt k.bits a^^^BitVec.ofInt k.bits b).toNat:Int))) []
 | .eql=> .bP (.aE (a==b)) []
 | .neq=> .bP (.aE (a !=b)) []
 | .lss=> .bP (.aE (decide (a<b))) []
 | .leq=> .bP (.aE (decide (a<=b))) []
 | .gtr=> .bP (.aE (decide (b<a))) []
 | .geq=> .bP (.aE (decide (b<=a))) []
 | .shl=> .dJ (0<=b) (.bP (.aa k (k.wrap (a*2^min b.toNat k.bits))) [])
 | .shr=> .dJ (0<=b) (.bP (.aa k (a.fdiv (2^min b.toNat k.bits))) [])
 |_=> .bD
def Hy:BinOp->Bool
 | .shl| .shr=>true
 |_=>false
def r7:IntKind->IntKind->Bool
 | .i8, .i8| .i16, .i16| .i32, .i32| .i64, .i64| .u8, .u8| .u16, .u16| .u32, .u32| .u64, .u64=>true
 |_,_=>false
theorem Hz {j k:IntKind} (h:r7 j k=true):j=k:=by cases j<;>cases k<;>first|rfl|cases h
def EZ (op:BinOp) (x y:ae):jW:=
 match x,y with
 | .aa k a, .aa j b=>match Hy op with
  |true=>CD op k a b
  |false=>match r7 k j with|true=>CD op k a b|false=> .bD
 | .ai a, .ai b=>match op with
  | .add=> .dJ (a.length+b.length<9223372036854775808) (.bP (.ai (a++b)) [])
  | .eql=> .bP (.aE (decide (a=b))) []
  | .neq=> .bP (.aE (!decide (a=b))) []
  | .lss=> .bP (.aE (Op.bytesLess a b)) []
  | .gtr=> .bP (.aE (!(Op.bytesLess a b||decide (a=b)))) []
  | .leq=> .bP (.aE (Op.bytesLess a b||decide (a=b))) []
  | .geq=> .bP (.aE (!Op.bytesLess a b)) []
  |_=> .bD
 |_,_=> .bD
def qk (P:Program) (σ:az) (o:Oper) (v:ae):Prop:=
 ∀ (g:cf) (a:Act) (w:World),(∀ x∈o.op.operands,aF w g (aM σ x) (a.eval x))->∃ val,(execOp a.eval o).run P w= .ok (.value val) w/\aF w g v val
def cY (T:cN) (t:TypeId):Option lz:=cP T t
def uJ (T:cN) (t:TypeId):Option (Nat×Bool):=
 match cP T t with
 |some ⟨.bO _,n,_,_⟩=>some (n,true)
 |some ⟨.e7 _ _,n,_,_⟩=>some (n,true)
 |some ⟨.im,_,_,_⟩=>none
 |some ⟨_,n,_,_⟩=>some (n,false)
 |none=>none
def uH (place:Nat->Option (Nat×Nat)):List (Nat×ae)->List ae->Option (List ae)
 |[],cells=>some cells
 |(i,x)::ps,cells=>match place i with
  |none=>none
  |some (off,size)=>match xy x with
   |none=>none
   |some cs=>match Nat.beq cs.length size with
    |false=>none
    |true=>match qY cells off cs with
     |none=>none
     |some cells'=>uH place ps cells'
def nn (σ:az):List (Nat×Operand)->List (Nat×ae)
 |[]=>[]
 |(i,x)::l=>(i,aM σ x)::nn σ l
def y9 (sz:Nat):(n:Nat)->List ae->Option (List (List ae))
 |0,[]=>some []
 |0,_::_=>none
 |n+1,l=>match qm l sz with
  |none=>none
  |some r=>match y9 sz n (vV l sz) with
   |none=>none
   |some rs=>some (r::rs)
def nm (agg:Bool) (size off:Nat) (cells:List ae):Option ae:=
 match agg with
 |true=>match qm (vV cells off) size with|some cs=>some (.aK cs)|none=>none
 |false=>lS cells off
def AD:ae->Option Int
 | .aa _ n=>some n
 |_=>none
def iq (σ:az):Option Operand->Option (Option Int)
 |none=>some none
 |some x=>match aM σ x with| .aa _ n=>some (some n)|_=>none
def Cw (σ:az) (T:cN) (tx:TypeId) (sz:Nat) (x:ae) (k:List (List ae)->jW):jW:=
 match x with
 | .ag _ sz' els _=>match cY T tx with
  |some ⟨.dK _,_,_,_⟩=>match Nat.beq sz' sz with
   |true=>k els
   |false=> .dJ (els=[]) (k [])
  |_=> .bD
 | .ai s=>match cY T tx,Nat.beq sz 1 with
  |some ⟨.fF,_,_,_⟩,true=>k (s.map λc=>[.aa .u8 c.toNat])
  |_,_=> .bD
 | .aL b off sz' len _=>match cY T tx with
  |some ⟨.dK _,_,_,_⟩=>match Nat.beq sz' sz with
   |false=> .bD
   |true=>match σ (.af b) with
    | .aR _ cells=> .mL (List (List ae)) λels=> .dJ (els.length=len/\(∀ el∈els,el.length=sz)/\off+len*sz<=cells.length/\(cells.drop off).take (len*sz)=els.flatten/\fL els.flatten=true) (k els)
    | .au _ cells=> .mL (List (List ae)) λels=> .dJ (els.length=len/\(∀ el∈els,el.length=sz)/\off+len*sz<=cells.length/\iB ((cells.drop off).take (len*sz))=els.flatten/\kZ ((cells.drop off).take (len*sz))=true) (k els)
    |_=> .bD
  |_=> .bD
 |_=> .bD
def AH:ql->ql
 | .bR=> .bR
 |_=> .av
def P1:ql->ql
 | .dB id=> .dB id
 |_=> .av
def pD (n bytes:Nat):Prop:=n<=140737488355328/\n*bytes<=140737488355328
def AB (σ:az) (f:Nat) (e:TypeId) (sz bytes:Nat) (isNil:Bool) (tk:ql) (news els:List (List ae)):jW:=
 match tk with
 | .av=> .bD
 | .bR=>match σ (.aJ 0) with
  | .ah .bN=> .dJ (news=[]) (.bP (.ag isNil sz els .bR) [])
  | .ah _=> .dJ (els=[]/\0<news.length/\pD news.length bytes) (.bP (.aL f 0 sz news.length true) [(.af f, .aR e news.flatten)])
  |_=> .dJ (pD (els.length+news.length) bytes) (.bP (.ag (isNil && news.isEmpty) sz (els++news) (.dB f)) [(.aJ f, .aN e sz (els.length+news.length))])
 | .dB id=>match σ (.aJ id) with
  | .aN e' sz'' N=>match Nat.beq sz'' sz,Nat.beq e' e with
   |true,true=> .dJ (N=els.length/\pD (els.length+news.length) bytes) (.bP (.ag (isNil && news.isEmpty) sz (els++news) (.dB id)) [(.aJ id, .aN e sz (els.length+news.length))])
   |_,_=> .bD
  |_=> .bD
 | .cO id=>match σ (.aJ id) with
  | .aN e' sz'' N=>match Nat.beq sz'' sz,Nat.beq e' e with
   |true,true=> .dJ (N=els.length/\pD (els.length+news.length) bytes) (.bP (.ag (isNil && news.isEmpty) sz (els++news) (.cO id)) [(.aJ id, .aN e sz (els.length+news.length))])
   |_,_=> .bD
  |_=> .bD
def CA (σ:az) (T:cN) (f:Nat) (t tx:TypeId) (s x:ae):jW:=
 match cY T t with
 |some ⟨.dK e,_,_,_⟩=>match cY T e with
  |some ⟨_,sz,bytes,_⟩=>Cw σ T tx sz x λnews=>
   match s with
   | .ag isNil sz' els tk=>match Nat.beq sz' sz with
    |true=>AB σ f e sz bytes isNil tk news els
    |false=> .dJ (els=[]) (AB σ f e sz bytes isNil (AH tk) news [])
   | .aL b 0 sz' len true=>match Nat.beq sz' sz with
    |false=> .bD
    |true=>match σ (.af b) with
     | .aR bt cells=>match Nat.beq bt e with
      |true=>match σ (.aJ 1) with
       | .ah _=> .dJ ((len+news.length)*sz<=cells.length/\0<sz) (.bP (.aL b 0 sz (len+news.length) true) [(.af b, .aR bt (cells.take (len*sz)++news.flatten++cells.drop ((len+news.length)*sz)))])
       |_=> .mL (List (List ae)) λels=> .dJ (els.length=len/\(∀ el∈els,el.length=sz)/\cells=els.flatten/\fL els.flatten=true/\pD (els.length+news.length) bytes)
        (.bP (.ag false sz (els++news) (.dB f)) [(.af b, .bq),(.aJ f, .aN e sz (els.length+news.length))])
      |false=> .bD
     |_=> .bD
   |_=> .bD
  |none=> .bD
 |_=> .bD
def Cz (σ:az) (x:ae) (k:Nat->List ae->jW) (sz:Nat):jW:=
 match x with
 | .ai s=>match Nat.beq sz 1 with
  |true=>k s.length (cW s)
  |false=> .bD
 | .ag _ sz' els _=>match Nat.beq sz' sz with
  |true=>k els.length els.flatten
  |false=> .dJ (els=[]) (k 0 [])
 | .aL b off sz' len _=>match Nat.beq sz' sz with
  |false=> .bD
  |true=>match σ (.af b) with
   | .aR _ cells=> .dJ (off+len*sz<=cells.length/\fL ((cells.drop off).take (len*sz))=true) (k len ((cells.drop off).take (len*sz)))
   | .au _ cells=>match kZ cells with
    |true=> .dJ (off+len*sz<=cells.length) (k len (iB ((cells.drop off).take (len*sz))))
    |false=> .bD
   |_=> .bD
 |_=> .bD
def CC (σ:az) (T:cN) (t:TypeId) (d x:ae):jW:=
 match cY T t with
 |some ⟨.dK e,_,_,_⟩=>match cY T e with
  |some ⟨_,sz,_,_⟩=>Cz σ x (sz:=sz) λn src=>
   match d with
   | .aL b off sz' len _=>match Nat.beq sz' sz with
    |false=> .bD
    |true=>match σ (.af b) with
     | .aR bt cells=> .dJ (off+len*sz<=cells.length) (.bP (.aa .i64 (min n len:Nat)) [(.af b, .aR bt (cells.take off++src.take (min n len*sz)++cells.drop (off+min n len*sz)))])
     | .au bt cells=> .dJ (off+len*sz<=cells.length) (.bP (.aa .i64 (min n len:Nat)) [(.af b, .au bt (cells.take off++src.take (min n len*sz)++cells.drop (off+min n len*sz)))])
     |_=> .bD
   |_=> .bD
  |none=> .bD
 |_=> .bD
def KS (isNil:Bool) (sz:Nat) (tk:ql) (lo hi mx:Option Int) (els:List (List ae)):jW:=
 match lo,hi,mx with
 |none,none,none=> .bP (.ag isNil sz els tk) []
 |some l,none,none=> .dJ (0<=l/\l.toNat<=els.length) (.bP (.ag isNil sz (els.drop l.toNat) (AH tk)) [])
 |none,some h,none=> .dJ (0<=h/\h.toNat<=els.length) (.bP (.ag isNil sz (els.take h.toNat) (P1 tk)) [])
 |some l,some h,none=> .dJ (0<=l/\l<=h/\h.toNat<=els.length) (.bP (.ag isNil sz ((els.take h.toNat).drop l.toNat) .av) [])
 |none,some h,some m=> .dJ (0<=h/\h.toNat<=els.length/\m=h) (.bP (.ag isNil sz (els.take h.toNat) .bR) [])
 |some l,some h,some m=> .dJ (0<=l/\l<=h/\h.toNat<=els.length/\m=h) (.bP (.ag isNil sz ((els.take h.toNat).drop l.toNat) .bR) [])
 |_,_,_=> .bD
def qZ (_σ:az) (T:cN) (t:TypeId) (x:ae) (lo hi mx:Option (Option Int)):jW:=
 match x,lo,hi,mx with
 | .ai s,some lo,some hi,some none=>match cY T t with
  |some ⟨.fF,_,_,_⟩=>match lo,hi with
   |none,none=> .bP (.ai s) []
   |some l,none=> .dJ (0<=l/\l.toNat<=s.length) (.bP (.ai (s.drop l.toNat)) [])
   |none,some h=> .dJ (0<=h/\h.toNat<=s.length) (.bP (.ai (s.take h.toNat)) [])
   |some l,some h=> .dJ (0<=l/\l<=h/\h.toNat<=s.length) (.bP (.ai ((s.take h.toNat).drop l.toNat)) [])
  |_=> .bD
 | .ag isNil sz els tk,some lo,some hi,some mx=>match cY T t with
  |some ⟨.dK e,_,_,_⟩=>match cY T e with
   |some ⟨_,sz',_,_⟩=>match Nat.beq sz sz' with
    |true=>KS isNil sz' tk lo hi mx els
    |false=> .dJ (els=[]) (KS isNil sz' (AH tk) lo hi mx [])
   |none=> .bD
  |_=> .bD
 | .aL b off sz len full,some lo,some hi,some none=>match cY T t with
  |some ⟨.dK e,_,_,_⟩=>match cY T e with
   |some ⟨_,sz',_,_⟩=>match Nat.beq sz sz' with
    |false=> .bD
    |true=>match lo,hi with
     |none,none=> .bP (.aL b off sz len full) []
     |some l,none=> .dJ (0<=l/\l.toNat<=len) (.bP (.aL b (off+l.toNat*sz) sz (len - l.toNat) false) [])
     |none,some h=> .dJ (0<=h/\h.toNat<=len) (.bP (.aL b off sz h.toNat full) [])
     |some l,some h=> .dJ (0<=l/\l<=h/\h.toNat<=len) (.bP (.aL b (off+l.toNat*sz) sz (h.toNat - l.toNat) false) [])
   |none=> .bD
  |_=> .bD
 | .aL b off sz len _,some lo,some (some h),some (some m)=>match cY T t with
  |some ⟨.dK e,_,_,_⟩=>match cY T e with
   |some ⟨_,sz',_,_⟩=>match Nat.beq sz sz' with
    |false=> .bD
    |true=>match lo with
     |none=> .dJ (0<=h/\h.toNat<=len/\h<=m/\m.toNat<=len) (.bP (.aL b off sz h.toNat false) [])
     |some l=> .dJ (0<=l/\l<=h/\h.toNat<=len/\h<=m/\m.toNat<=len) (.bP (.aL b (off+l.toNat*sz) sz (h.toNat - l.toNat) false) [])
   |none=> .bD
  |_=> .bD
 | .ar b off,some lo,some hi,some none=>match cY T t with
  |some ⟨.e7 n e,_,_,_⟩=>match cY T e with
   |some ⟨_,sz,_,_⟩=>match lo,hi with
    |none,none=> .bP (.aL b off sz n false) []
    |some l,none=> .dJ (0<=l/\l.toNat<=n) (.bP (.aL b (off+l.toNat*sz) sz (n - l.toNat) false) [])
    |none,some h=> .dJ (0<=h/\h.toNat<=n) (.bP (.aL b off sz h.toNat false) [])
    |some l,some h=> .dJ (0<=l/\l<=h/\h.toNat<=n) (.bP (.aL b (off+l.toNat*sz) sz (h.toNat - l.toNat) false) [])
   |none=> .bD
  |_=> .bD
 |_,_,_,_=> .bD
def HU (σ:az) (T:cN) (t:TypeId) (a:ae):jW:=
 match uJ T t with
 |none=> .bD
 |some (size,agg)=>match a with
  | .ar b off=>match σ (.af b) with
   | .au _ cells=>match nm agg size off cells with|some x=> .bP x []|none=> .bD
   | .aR _ cells=>match agg with
    |true=> .mL (List ae) λcs=> .dJ (off+size<=cells.length/\(cells.drop off).take size=cs) (.bP (.aK cs) [])
    |false=> .mL ae λx=> .dJ (cells[off]? =some x) (.bP x [])
   |_=> .bD
  | .cB cs off=>match nm agg size off cs with|some x=> .bP x []|none=> .bD
  |_=> .bD
def HV (σ:az) (T:cN) (t:TypeId) (a x:ae):jW:=
 match uJ T t with
 |none=> .bD
 |some (size,_)=>match xy x with
  |none=> .bD
  |some cs=>match Nat.beq cs.length size with
   |false=> .bD
   |true=>match a with
    | .ar b off=>match σ (.af b) with
     | .au bt cells=>match qY cells off cs with
      |some cells'=> .bP .bV [(.af b, .au bt cells')]
      |none=> .bD
     | .aR bt cells=>match kZ cs with
      |true=> .dJ (off+size<=cells.length) (.bP .bV [(.af b, .aR bt (cells.take off++iB cs++cells.drop (off+size)))])
      |false=> .bD
     |_=> .bD
    |_=> .bD
def HQ (σ:az) (T:cN) (f:Nat) (src dst:TypeId) (x:ae):jW:=
 match cY T dst with
 |some ⟨.eP k,_,_,_⟩=>match x with
  | .aa _ n=>match cY T src with
   |some ⟨.eP _,_,_,_⟩=> .bP (.aa k (k.wrap n)) []
   |_=> .bD
  |_=> .bD
 |some ⟨.fF,_,_,_⟩=>match x with
  | .ai s=>match cY T src with
   |some ⟨.fF,_,_,_⟩=> .bP (.ai s) []
   |_=> .bD
  | .ag _ sz els _=>match cY T src with
   |some ⟨.dK e,_,_,_⟩=>match cY T e with
    |some ⟨.eP .u8,_,_,_⟩=> .mL (List UInt8) λs=> .dJ ((sz=1\/els=[])/\els=s.map λc=>[.aa .u8 c.toNat]) (.bP (.ai s) [])
    |_=> .bD
   |_=> .bD
  | .aL b off sz len _=>match Nat.beq sz 1 with
   |false=> .bD
   |true=>match cY T src with
   |some ⟨.dK e,_,_,_⟩=>match cY T e with
    |some ⟨.eP .u8,_,_,_⟩=>match σ (.af b) with
     | .aR _ cells=> .mL (List UInt8) λs=> .dJ (off+len<=cells.length/\(cells.drop off).take len=cW s) (.bP (.ai s) [])
     | .au _ cells=> .mL (List UInt8) λs=> .dJ (off+len<=cells.length/\(cells.drop off).take len=cW s) (.bP (.ai s) [])
     |_=> .bD
    |_=> .bD
   |_=> .bD
  |_=> .bD
 |some ⟨.dK e,_,_,_⟩=>match x with
  | .ai s=>match cY T e with
   |some ⟨.eP .u8,_,_,_⟩=>match cY T src with
    |some ⟨.fF,_,_,_⟩=> .bP (.aL f 0 1 s.length true) [(.af f, .aR e (cW s))]
    |_=> .bD
   |_=> .bD
  |_=> .bD
 |_=> .bD
def qX (mx:Bool):List ae->Option ae
 |[]=>none
 |[.aa k a]=>some (.aa k a)
 |[.aa k a, .aa j b]=>match r7 k j with
  |true=>some (.aa k (match mx with|true=>max a b|false=>min a b))
  |false=>none
 |[.aa k a, .aa j b, .aa l c]=>match r7 k j,r7 k l with
  |true,true=>some (.aa k (match mx with|true=>max (max a b) c|false=>min (min a b) c))
  |_,_=>none
 |_=>none
def dQ (σ:az):List Operand->List ae
 |[]=>[]
 |x::l=>aM σ x::dQ σ l
def CB (P:Program) (σ:az) (T:cN) (f:Nat) (o:Oper) (b:Builtin) (ts:List TypeId) (args:List ae):jW:=
 match b,ts,args with
 | .len,[t],[x]=>match cY T t with
  |some ⟨.e7 n _,_,_,_⟩=> .bP (.aa .i64 (n:Int)) []
  |some ⟨.fF,_,_,_⟩=>match x with| .ai s=> .bP (.aa .i64 (s.length:Int)) []|_=> .bD
  |some ⟨.dK _,_,_,_⟩=>match x with
   | .ag _ _ els _=> .bP (.aa .i64 (els.length:Int)) []
   | .aL _ _ _ n _=> .bP (.aa .i64 (n:Int)) []
   |_=> .bD
  |_=> .bD
 | .append,[t,tx],[s,x]=>CA σ T f t tx s x
 | .copy,[t,_],[d,x]=>CC σ T t d x
 | .min,_,xs=>match qX false xs with|some v=> .bP v []|none=> .bD
 | .max,_,xs=>match qX true xs with|some v=> .bP v []|none=> .bD
 |_,_,_=> .mL ae λv=> .dJ (qk P σ o v) (.bP v [])
def H2:Operand->Bool
 | .const (.int _ (.ofNat 0))=>true
 |_=>false
theorem YR {x:Operand} (h:H2 x=true) (a:Act):∃ k,a.eval x= .int k 0:=by
 unfold H2 at h;split at h
 ·exact ⟨_,rfl⟩
 ·cases h
def nV:ae->Option Bool
 | .aE b=>some b
 | .bN=>some true
 | .bo=>some false
 |_=>none
def xz:ae->ae->Option Bool
 | .aa k a, .aa j b=>match r7 k j with|true=>some (a==b)|false=>none
 | .ai a, .ai b=>some (decide (a=b))
 | .aE a,y=>match nV y with|some b=>some (a==b)|none=>none
 | .bN,y=>match nV y with|some b=>some (true==b)|none=>none
 | .bo,y=>match nV y with|some b=>some (false==b)|none=>none
 |_,_=>none
def ta:List ae->List ae->Option Bool
 |[],[]=>some true
 |[x],[y]=>xz x y
 |x::l,y::m=>match xz x y with
  |some b=>match ta l m with|some c=>some (b && c)|none=>none
  |none=>none
 |_,_=>none
def vW (P:Program) (q:TypeId->Option (List Nat)):List Field->Nat->Option (List Nat)
 |[],_=>some []
 |f::fs,n=>if (f.name != "_" && f.offset==n)=true then (match q f.type,P.info? f.type with
   |some ks,some i=>if ks.length=i.size/\i.size≠0 then (match vW P q fs (n+i.size) with|some r=>some (ks++r)|none=>none) else none
   |_,_=>none) else none
def uI (P:Program):Nat->TypeId->Option (List Nat)
 |0,_=>none
 |d+1,t=>match P.underlying t with
  |some (.int _)=>some [0]
  |some .string=>some [1]
  |some .bool=>some [2]
  |some (.struct fs)=>if P.stoodInHeld t=true then none else vW P (uI P d) fs.toList 0
  |_=>none
def PH:ae->Nat
 | .aa _ _=>0
 | .ai _=>1
 | .aE _=>2
 | .bN=>2
 | .bo=>2
 |_=>9
def vX:List ae->List Nat
 |[]=>[]
 |x::l=>PH x::vX l
def EU (P:Program) (t:TypeId) (ks:List Nat):Bool:=!P.eqGuardType P.depth t && (uI P 9 t==some ks && (match P.underlying t with|some (.struct _)=>true|_=>false))
def KO (T:cN) (t:TypeId) (x y:ae):Option Bool:=
 match cY T t with
 |some ⟨.dK _,_,_,_⟩=>match x,y with
  | .ag n _ _ _, .ag true _ _ _=>some n
  | .ag true _ _ _, .ag n _ _ _=>some n
  | .aL _ _ _ _ _, .ag true _ _ _=>some false
  |_,_=>none
 |some ⟨.fB,_,_,_⟩=>match x,y with
  | .cm _ _, .cq=>some false
  | .cq, .cm _ _=>some false
  |_,_=>none
 |some ⟨.ij,_,_,_⟩=>match nV x,nV y with|some p,some q=>some (p==q)|_,_=>none
 |some ⟨.e8 _,_,_,_⟩=>match x,y with
  | .bU, .bU=>some true
  | .ar _ _, .bU=>some false
  | .cB _ _, .bU=>some false
  |_,_=>none
 |some ⟨.il,_,_,_⟩=>match x,y with
  | .cA, .cA=>some true
  | .aP _ _ _, .cA=>some false
  |_,_=>none
 |_=>none
def AE:Operand->Bool
 | .const _=>true
 |_=>false
def Ht (T:cN) (t:TypeId) (c:Bool) (x y:ae):Option Bool:=match c,x,y with
 |true, .cq, .cq=>match cY T t with|some ⟨.fB,_,_,_⟩=>some true|_=>none
 |_,_,_=>KO T t x y
def HI:Bool->Bool->Bool
 |true,_=>true
 |false,b=>b
def xF (ti:y8) (zero:List ae):Option (Bool×ae):=match ti,zero with
 | .bO _,cs=>some (true, .aK cs)
 | .e7 _ _,cs=>some (true, .aK cs)
 |_,[x]=>some (false,x)
 |_,_=>none
def HW (P:Program) (t:TypeId):Option Bool:=match P.info? t with
 |some i=>match i.zero with
  |some (.agg _)=>some true
  |some _=>some false
  |none=>none
 |none=>none
def Hx (P:Program) (ti:y8) (zero:List ae) (at_:TypeId):Bool->jW
 |true=>match xF ti zero with
  |some (q,z)=> .dJ (HW P at_=some q) (.bP (.aw [z, .bo]) [])
  |none=> .bD
 |false=> .bD
def KK (P:Program) (ti:y8) (zero:List ae) (at_:TypeId) (ok:Bool):ae->jW
 | .cm t v=>match Nat.beq t at_,ok with
  |true,true=> .bP (.aw [v, .bN]) []
  |true,false=> .bP v []
  |false,ok=>Hx P ti zero at_ ok
 | .cq=>Hx P ti zero at_ ok
 |_=> .bD
def df (P:Program) (T:cN) (σ:az) (f:Nat) (o:Oper):jW:=
 match o.op with
 | .move x=> .bP (aM σ x) []
 | .assign x=> .bP (aM σ x) []
 | .pick c a b=>match aM σ c with
  | .bN=> .bP (aM σ a) []
  | .bo=> .bP (aM σ b) []
  | .aE q=>match nV (aM σ a),nV (aM σ b) with
   |some p,some r=> .bP (.aE (match q with|true=>p|false=>r)) []
   |_,_=> .bD
  |_=> .bD
 | .alloc t=>match cY T t with
  |some r=> .bP (.ar f 0) [(.af f, .au t r.jX)]
  |none=> .bD
 | .box t x=>match xy (aM σ x) with
  |some cs=> .bP (.ar f 0) [(.af f, .au t cs)]
  |none=> .bD
 | .build t parts=>match cY T t with
  |some ⟨.bO fs,_,_,zero⟩=>match uH (λi=>match lS fs i with|some (off,ft)=>(match cY T ft with|some r=>some (off,r.aO)|none=>none)|none=>none) (nn σ parts.toList) zero with
   |some cs=> .bP (.aK cs) []
   |none=> .bD
  |some ⟨.e7 _ e,_,_,zero⟩=>match cY T e with
   |some r=>match uH (λi=>some (i*r.aO,r.aO)) (nn σ parts.toList) zero with
    |some cs=> .bP (.aK cs) []
    |none=> .bD
   |none=> .bD
  |_=> .bD
 | .buildSlice t n parts=>match cY T t with
  |some ⟨.dK e,_,_,_⟩=>match cY T e with
   |some r=>match Nat.ble (n*r.aO) 1000000 with
    |false=> .bD
    |true=>match uH (λi=>some (i*r.aO,r.aO)) (nn σ parts.toList) (eB n r.jX) with
     |some cs=>match kZ cs with
      |true=>match y9 r.aO n (iB cs) with
       |some els=> .bP (.ag false r.aO els .bR) []
       |none=> .bD
      |false=> .bP (.aL f 0 r.aO n false) [(.af f, .au e cs)]
     |none=> .bD
   |none=> .bD
  |_=> .bD
 | .load t a=>HU σ T t (aM σ a)
 | .store t a x=>HV σ T t (aM σ a) (aM σ x)
 | .nilCheck x=>match aM σ x with
  | .ar b off=> .bP (.ar b off) []
  | .cB cs off=> .bP (.cB cs off) []
  | .aP f a b=> .bP (.aP f a b) []
  |_=> .bD
 | .binOp op t x y _=>match aM σ x,aM σ y with
  | .aa j a, .aa k b=>EZ op (.aa j a) (.aa k b)
  | .ai a, .ai b=>EZ op (.ai a) (.ai b)
  | .aK cs, .aK ds=>match op,ta cs ds with
   | .eql,some b=> .dJ (EU P t (vX cs)=true) (.bP (.aE b) [])
   | .neq,some b=> .dJ (EU P t (vX cs)=true) (.bP (.aE (!b)) [])
   |_,_=> .mL ae λv=> .dJ (qk P σ o v) (.bP v [])
  |vx,vy=>match op,Ht T t (HI (AE x) (AE y)) vx vy with
   | .eql,some b=> .bP (.aE b) []
   | .neq,some b=> .bP (.aE (!b)) []
   |_,_=> .mL ae λv=> .dJ (qk P σ o v) (.bP v [])
 | .unOp .not _ x=>match EW (aM σ x) with|some v=> .bP v []|none=> .bD
 | .unOp .neg _ x=>match aM σ x with| .aa k n=> .bP (.aa k (k.wrap (0 - n))) []|_=> .bD
 | .convert src dst x=>HQ σ T f src dst (aM σ x)
 | .slice t x lo hi mx=>qZ σ T t (aM σ x) (iq σ lo) (iq σ hi) (iq σ mx)
 | .fieldAddr s x i=>match cY T s with
  |some ⟨.bO fs,_,_,_⟩=>match lS fs i with
   |some (off,ft)=>match cY T ft with
    |some r=>match r.aO with
     |0=> .bD
     |_+1=>match aM σ x with
      | .ar b o=> .bP (.ar b (o+off)) []
      | .cB cs o=> .bP (.cB cs (o+off)) []
      |_=> .bD
    |none=> .bD
   |none=> .bD
  |_=> .bD
 | .field s x i=>match cY T s with
  |some ⟨.bO fs,_,_,_⟩=>match lS fs i with
   |some (off,ft)=>match uJ T ft with
    |some (size,agg)=>match aM σ x with
     | .aK cs=>match nm agg size off cs with|some v=> .bP v []|none=> .bD
     |_=> .bD
    |none=> .bD
   |none=> .bD
  |_=> .bD
 | .indexAddr t x i=>match AD (aM σ i) with
  |none=> .bD
  |some n=>match cY T t with
   |some ⟨.dK e,_,_,_⟩=>match cY T e with
    |none=> .bD
    |some r=>match aM σ x with
     | .ag _ sz els _=>match Nat.beq sz r.aO,r.aO with
      |true,_+1=> .mL (List ae) λel=> .dJ (0<=n/\els[n.toNat]? =some el) (.bP (.cB el 0) [])
      |_,_=> .bD
     | .aL b off sz len _=>match Nat.beq sz r.aO with
      |true=> .dJ (0<=n/\n.toNat<len) (.bP (.ar b (off+n.toNat*sz)) [])
      |false=> .bD
     |_=> .bD
   |some ⟨.e7 m e,_,_,_⟩=>match cY T e with
    |none=> .bD
    |some r=>match aM σ x with
     | .ar b off=> .dJ (0<=n/\n.toNat<m) (.bP (.ar b (off+n.toNat*r.aO)) [])
     | .cB cs off=> .dJ (0<=n/\n.toNat<m) (.bP (.cB cs (off+n.toNat*r.aO)) [])
     |_=> .bD
   |_=> .bD
 | .index t x i=>match AD (aM σ i) with
  |none=> .bD
  |some n=>match aM σ x with
   | .ai s=>match cY T t with
    |some ⟨.fF,_,_,_⟩=> .mL UInt8 λc=> .dJ (0<=n/\s[n.toNat]? =some c) (.bP (.aa .u8 c.toNat) [])
    |_=> .bD
   |_=> .mL ae λv=> .dJ (qk P σ o v) (.bP v [])
 | .extract x i=>match aM σ x with
  | .aw vs=>match lS vs i with|some v=> .bP v []|none=> .bD
  |_=> .bD
 | .makeSlice t l c=>match cY T t with
  |some ⟨.dK e,_,_,_⟩=>match cY T e with
   |none=> .bD
   |some ⟨_,sz,bytes,zero⟩=>match H2 l with
    |true=>match aM σ c with
     | .aa _ m=> .dJ (0<=m/\pD m.toNat bytes) (.bP (.ag false sz [] (.dB f)) [(.aJ f, .aN e sz 0)])
     |_=> .bD
    |false=>match aM σ l,aM σ c with
     | .aa _ n, .aa _ m=>match kZ zero with
      |true=> .dJ (0<=n/\n=m/\pD m.toNat bytes) (.bP (.aL f 0 sz n.toNat true) [(.af f, .aR e (eB n.toNat (iB zero)))])
      |false=> .bD
     |_,_=> .bD
  |_=> .bD
 | .makeInterface t x=>match cY T t with
  |some ⟨.fB,_,_,_⟩=> .bD
  |some ⟨.im,_,_,_⟩=> .bD
  |none=> .bD
  |some _=> .bP (.cm t (aM σ x)) []
 | .range t x=>match aM σ x with
  | .ai s=>match cY T t with
   |some ⟨.fF,_,_,_⟩=> .bP (.cz f) [(.af f, .iR s 0)]
   |_=> .bD
  |_=> .bD
 | .next x str=>match str,aM σ x with
  |true, .cz c=>match σ (.af c) with
   | .iR s pos=> .mL Bool λq=> .dJ (q=decide (pos<s.length)) (match q with
    |true=> .bP (.aw [.bN, .aa .i64 (pos:Int), .aa .i32 ((Utf8.decode ⟨s.toArray⟩ pos).1:Int)]) [(.af c, .iR s (pos+(Utf8.decode ⟨s.toArray⟩ pos).2))]
    |false=> .bP (.aw [.bo]) [])
   |_=> .bD
  |_,_=> .bD
 | .typeAssert x _ at_ ok=>match cY T at_ with
  |none=> .bD
  |some ⟨.fB,_,_,_⟩=> .bD
  |some ⟨.im,_,_,_⟩=> .bD
  |some ⟨ti,_,_,zero⟩=>KK P ti zero at_ ok (aM σ x)
 | .makeFunc (.func fn) first captured=> .bP (.aP fn (dQ σ first.toList) (dQ σ captured.toList)) []
 | .call c=>match c.callee with
  | .builtin b=>CB P σ T f o b c.argTypes.toList (dQ σ c.args.toList)
  |_=> .bD
 |_=> .mL ae λv=> .dJ (qk P σ o v) (.bP v [])
section inv
variable {w:World} {g:cf} {v:Value}
theorem aF.lR {k n} (h:aF w g (.aa k n) v):v= .int k n:=by cases h with|bC h=>cases h;rfl
theorem aF.s9 {x} (h:aF w g (.aE x) v):v= .bool x:=by cases h with|bC h=>cases h;rfl
theorem aF.xw (h:aF w g .bN v):v= .bool true:=by cases h with|bC h=>cases h;rfl
theorem aF.xr (h:aF w g .bo v):v= .bool false:=by cases h with|bC h=>cases h;rfl
theorem aF.qV {s} (h:aF w g (.ai s) v):∃ b:ByteArray,v= .string b/\b.data.toList=s:=by cases h with|bC h=>cases h with|gX h=>simp_all
theorem aF.qU {x off} (h:aF w g (.ar x off) v):∃ c,g.aZ x=some c/\v= .pointer (some ⟨c,off,none⟩):=by
 cases h with
 |bC h=>cases h
 |ni h=>simp_all
theorem aF.Ho (h:aF w g .bU v):v= .pointer none:=by cases h with|bC h=>cases h;rfl
theorem aF.Co {cs off} (h:aF w g (.cB cs off) v):∃ (blk base:Nat) (vals:Nat->Value),v= .pointer (some ⟨blk,base+off,none⟩)/\(∀ (j:Nat) (x:ae),cs[j]? =some x->g.bJ blk (base+j)/\w.cell? ⟨blk,base+j,none⟩=some (vals j))/\
  (∀ (j:Nat) (x:ae),cs[j]? =some x->cb w g.bJ x (vals j)):=by
 cases h with
 |bC h=>cases h
 |qT vals ha h=>exact ⟨_,_,vals,rfl,ha,h⟩
theorem aF.Cn {cs} (h:aF w g (.aK cs) v):∃ vs:List Value,v= .agg vs.toArray/\vs.length=cs.length/\∀ (i:Nat) (x:ae) (u:Value),cs[i]? =some x->vs[i]? =some u->aF w g x u:=by
 cases h with
 |bC h=>cases h with|xq hl h=>exact ⟨_,rfl,hl,λi x u h1 h2=> .bC (h i x u h1 h2)⟩
 |nT hl h=>grind
theorem aF.Hp {cs} (h:aF w g (.aw cs) v):∃ vs:List Value,v= .tuple vs.toArray/\vs.length=cs.length/\∀ (i:Nat) (x:ae) (u:Value),cs[i]? =some x->vs[i]? =some u->aF w g x u:=by
 cases h with
 |bC h=>cases h with|rT hl h=>exact ⟨_,rfl,hl,λi x u h1 h2=> .bC (h i x u h1 h2)⟩
 |jN hl h=>grind
theorem aF.jj {isNil sz els tk} (h:aF w g (.ag isNil sz els tk) v):∃ ad c,v= .slice ad els.length c/\cb w g.bJ (.ag isNil sz els .av) (.slice ad els.length c)/\uF w g tk els.length sz ad c:=by
 cases h with
 |bC h=>cases h with|iK vals hnil hc hsz ha hone h=>exact ⟨_,_,rfl, .iK vals hnil hc hsz ha hone h,trivial⟩
 |jc h ht=>cases h with|iK vals hnil hc hsz ha hone h=>exact ⟨_,_,rfl, .iK vals hnil hc hsz ha hone h,ht⟩
theorem aF.mK {x off sz len full} (h:aF w g (.aL x off sz len full) v):∃ c cap ad,g.aZ x=some c/\v= .slice ad len cap/\(0<len->ad=some ⟨c,off,none⟩)/\ad.isSome/\len<=cap/\
  (full=true->off=0/\ad=some ⟨c,0,none⟩/\∃ t,w.shape? c=some (t,cap*sz)):=by
 cases h with
 |bC h=>cases h
 |kH h ha hs hl hf=>grind
theorem aF.y7 {f fs cs} (h:aF w g (.aP f fs cs) v):∃ vs us:List Value,v= .func (.func f) vs.toArray us.toArray/\vs.length=fs.length/\us.length=cs.length/\(∀ (i:Nat) (x:ae) (u:Value),fs[i]? =some x->vs[i]? =some u->aF w g x u)/\
  (∀ (i:Nat) (x:ae) (u:Value),cs[i]? =some x->us[i]? =some u->aF w g x u):=by
 cases h with
 |bC h=>cases h with|Ax f=>simp_all
 |rU hl hm h hh=>grind
theorem aF.Ay {t x} (h:aF w g (.cm t x) v):∃ u,v= .iface t u/\aF w g x u:=by
 cases h with
 |bC h=>cases h with|Cm h=>exact ⟨_,rfl, .bC h⟩
 |rV h=>simp_all
theorem aF.Cp (h:aF w g .cq v):v= .nilIface:=by cases h with|bC h=>cases h;rfl
theorem aF.KC (h:aF w g .cA v):v= .nilFunc:=by cases h with|bC h=>cases h;rfl
theorem aF.Hm {x} (h:aF w g (.cz x) v):∃ c,g.aZ x=some c/\v= .pointer (some ⟨c,0,none⟩):=by
 cases h with
 |bC h=>cases h
 |qS h=>simp_all
theorem aF.xu {x} (h:aF w g (.cg x) v):∃ c,g.aZ x=some c/\v= .map (some c):=by
 cases h with
 |bC h=>cases h
 |pF h=>simp_all
theorem aF.KD {x} (h:aF w g (.cw x) v):∃ c,g.aZ x=some c/\v= .func (.yield c) #[] #[]:=by
 cases h with
 |bC h=>cases h
 |rW h=>simp_all
theorem te {x:ae} (h:aF w g x v) (hx:xB x=true):v.oneCell'=true:=by
 cases x with
 |aK as=>cases hx
 |aw as=>cases hx
 |bV=>cases hx
 |aa k n=>rw [h.lR];rfl
 |aE x=>rw [h.s9];rfl
 |bN=>rw [h.xw];rfl
 |bo=>rw [h.xr];rfl
 |ai s=>obtain ⟨b,e,_⟩:=h.qV;rw [e];rfl
 |ar b off=>obtain ⟨b,_,e⟩:=h.qU;rw [e];rfl
 |cB _ _=>obtain ⟨_,_,_,e,_⟩:=h.Co;rw [e];rfl
 |bU=>rw [h.Ho];rfl
 |ag _ _ _ _=>obtain ⟨_,_,e,_⟩:=h.jj;rw [e];rfl
 |aL _ _ _ _ _=>obtain ⟨_,_,_,_,e,_⟩:=h.mK;rw [e];rfl
 |aP _ _ _=>obtain ⟨_,_,e,_⟩:=h.y7;rw [e];rfl
 |cA=>rw [h.KC];rfl
 |cm _ _=>obtain ⟨_,e,_⟩:=h.Ay;rw [e];rfl
 |cq=>rw [h.Cp];rfl
 |cz b=>obtain ⟨_,_,e⟩:=h.Hm;rw [e];rfl
 |cw b=>obtain ⟨_,_,e⟩:=h.KD;rw [e];rfl
 |cg b=>obtain ⟨_,_,e⟩:=h.xu;rw [e];rfl
theorem zb:∀ {cs:List ae},fL cs=true->∀ (i:Nat) (x:ae),cs[i]? =some x->xB x=true
 |[],_,i,x,h=>by simp at h
 |c::cs,hc,i,x,h=>by
  simp only [fL] at hc;cases hx:xB c with
  |false=>simp [hx] at hc
  |true=>
   simp only [hx] at hc;cases i with
   |zero=>simp_all
   |succ i=>exact zb hc i x (by simpa using h)
theorem aF.KB {x:ae} {cs:List ae} (h:aF w g x v) (hc:xy x=some cs):v.cells.toList.length=cs.length/\(∀ (i:Nat) (y:ae) (u:Value),cs[i]? =some y->v.cells.toList[i]? =some u->aF w g y u)/\
  (∀ u∈v.cells.toList,u.oneCell'=true):=by
 have one:xB x=true->v.cells=#[v]->cs=[x]->v.cells.toList.length=cs.length/\(∀ (i:Nat) (y:ae) (z:Value),cs[i]? =some y->v.cells.toList[i]? =some z->aF w g y z)/\(∀ u∈v.cells.toList,u.oneCell'=true):=by
  grind [te]
 have two:v.oneCell'=true->v.cells=#[v]:=by intro h;cases v<;>first|rfl|cases h
 cases x with
 |aK as=>
  obtain ⟨vs,rfl,hl,hr⟩:=h.Cn;simp only [xy] at hc;cases ho:fL as with
  |false=>simp [ho] at hc
  |true=>
   simp only [ho,Option.some.injEq] at hc;subst hc;refine ⟨by trivial,λi y u h1 h2=>hr i y u h1 (by trivial),λu hu=>?_⟩;simp only [Value.cells,List.toList_toArray] at hu;obtain ⟨i,hi,rfl⟩:=List.getElem_of_mem hu;have hi':i<as.length:=om;exact te (hr i as[i] vs[i] (List.getElem?_eq_getElem hi') (List.getElem?_eq_getElem hi)) (zb ho i _ (List.getElem?_eq_getElem hi'))
 |bV=>cases hc
 |aw as=>cases hc
 |_=>exact one rfl (two (te h rfl)) (by cases hc;rfl)
end inv
section
variable {P:Program} {T:cN} {b:ek P} {σ:az} {D:Nat->Prop} {g:cf} {a:Act} {w:World}
def gk (P:Program) (b:ek P) (σ:az) (us:List (aS×bs)) (f:Nat) (D:Nat->Prop) (g:cf) (a:Act) (w:World) (o:Oper) (v:ae):Prop:=
 ∃ nx val w' g',(execOp a.eval o).run P w= .ok nx w'/\(nx= .value val\/(nx= .skip/\val=undef))/\aF w' g' v val/\bh b (eG σ us) (λi=>D i\/i=f) g' w'/\dp g w g' w'
theorem gk.fq {o:Oper} {v:ae} {f:Nat} {val:Value} (h:bh b σ D g w) (hr:(execOp a.eval o).run P w= .ok (.value val) w) (hv:aF w g v val):gk P b σ [] f D g a w o v:=
 ⟨_,val,w,g,hr, .inl rfl,hv,h.iU (λ_ hi=> .inl hi),dp.qg g w⟩
theorem HJ {t:TypeId} {i:TypeInfo} (hi:P.info? t=some i) (w:World):(sizeOf t).run P w= .ok i.size w:=by
 simp [sizeOf,typeInfo,hi]
theorem AF {t:TypeId} {d:TypeDesc} (h:P.underlying t=some d) (w:World):(isAgg t).run P w= .ok (match d with| .struct _| .array _ _=>true|_=>false) w:=by
 cases d<;>simp [isAgg,run_underlying h]
theorem KT (hT:dA P T) {t:TypeId} {n:Nat} {agg:Bool} (h:uJ T t=some (n,agg)) (w:World):(isAgg t).run P w= .ok agg w/\(sizeOf t).run P w= .ok n w:=by
 unfold uJ at h;cases hr:cP T t with
 |none=>simp [hr] at h
 |some r=>
  obtain ⟨ti,size,bytes,zero⟩:=r;obtain ⟨h1,i,z,hi,hs,_⟩:=hT t _ hr;have hsz:(sizeOf t).run P w= .ok size w:=by rw [HJ hi,hs]
  cases ti<;>simp only [hr,Option.some.injEq,Prod.mk.injEq,reduceCtorEq] at h<;>first
   |(
     obtain ⟨rfl,rfl⟩:=h;refine ⟨?_,hsz⟩
     first
      |(obtain ⟨_,_,h1,_⟩:=h1;exact AF h1 w)
      |(obtain ⟨_,h1⟩:=h1;exact AF h1 w)
      |(obtain ⟨_,_,h1⟩:=h1;exact AF h1 w)
      |(obtain ⟨_,_,_,h1⟩:=h1;exact AF h1 w)
      |exact AF h1 w)
   |cases h
theorem qW (k off j:Nat):(⟨k,off,none⟩:Addr).add j=⟨k,off+j,none⟩:=by grind [Addr.add]
theorem PY (k off:Nat):∀ (n i:Nat) (vs:List Value) (acc:Array Value),vs.length=n->(∀ j u,vs[j]? =some u->w.cell? ⟨k,off+(i+j),none⟩=some u)->
  (loadCellsFrom ⟨k,off,none⟩ i n acc).run P w= .ok (acc++vs.toArray) w
 |0,i,vs,acc,hl,_=>by
  have:vs=[]:=List.eq_nil_of_length_eq_zero hl;subst this;trivial
 |n+1,i,vs,acc,hl,hc=>by
  cases vs with
  |nil=>simp at hl
  |cons u vs=>
   have h0:=hc 0 u rfl;simp only [Nat.add_zero] at h0;have ih:=PY k off n (i+1) vs (acc.push u) (by simpa using hl) (λj x hx=>by have:=hc (j+1) x (by simpa using hx);grind);simp only [loadCellsFrom,qW,Sem.run_bind];simp_all
theorem PZ (hT:dA P T) {t:TypeId} {n:Nat} {agg:Bool} (h:uJ T t=some (n,agg)) {k off:Nat} {cs:List ae} {vs:Nat->Value} (hc:∀ j x,cs[j]? =some x->w.cell? ⟨k,off+j,none⟩=some (vs j))
  (hr:∀ j x,cs[j]? =some x->aF w g x (vs j)) {x:ae} (hx:nm agg n 0 cs=some x):∃ v,(loadVar t ⟨k,off,none⟩).run P w= .ok v w/\aF w g x v:=by
 obtain ⟨h1,h2⟩:=KT hT h w;cases agg with
 |false=>
  simp only [nm,td] at hx;refine ⟨vs 0,?_,hr 0 x hx⟩;have h0:=hc 0 x hx;simp only [Nat.add_zero] at h0;simp [loadVar,h1,load,Sem.run,h0]
 |true=>
  simp only [nm,vV] at hx;cases ht:qm cs n with
  |none=>simp [ht] at hx
  |some r=>
   simp only [ht,Option.some.injEq] at hx;subst hx;obtain ⟨e1,e2⟩:=E0 cs n r ht;have hlen:n<=cs.length:=by grind
   have hget:∀ j x,r[j]? =some x->cs[j]? =some x:=λj x hj=>by
    rw [e1,List.getElem?_take] at hj;split at hj
    ·exact hj
    ·cases hj
   have hrun:=PY (P:=P) (w:=w) k off n 0 ((List.range n).map vs) #[] (by simp) (λj u hj=>by
    rw [List.getElem?_map] at hj
    by_cases hjn:j<n
    ·rw [List.getElem?_range hjn] at hj;simp at hj;subst hj;have:j<cs.length:=om;simp_all
    simp_all)
   refine ⟨.agg ((List.range n).map vs).toArray,?_, .nT (by simp [e2]) (λi y u hy hu=>?_)⟩
   ·simp only [loadVar,Sem.run_bind,h1,Result.andThen_ok,if_true,h2,loadCells,hrun];simp
   grind
end
section
variable {P:Program} {T:cN} {b:ek P} {σ:az} {D:Nat->Prop} {g:cf} {a:Act} {w:World}
theorem Cs {x:ae} {p:Bool} {v:Value} (h:aF w g x v) (hb:nV x=some p):v= .bool p:=by
 cases x with
 |aE c=>grind [nV,h.s9]
 |bN=>grind [nV,h.xw]
 |bo=>grind [nV,h.xr]
 |_=>cases hb
inductive xm:Value->Value->Bool->Prop
 |Hh (k:IntKind) (p q:Int):xm (.int k p) (.int k q) (p==q)
 |Hi (s t:ByteArray):xm (.string s) (.string t) (s.toList==t.toList)
 |Hg (p q:Bool):xm (.bool p) (.bool q) (p==q)
theorem PD {x y:ae} {u v:Value} {r:Bool} (hx:aF w g x u) (hy:aF w g y v) (h:xz x y=some r):xm u v r:=by
 have bb:∀ {p:Bool},nV x=some p->(match nV y with|some b=>some (p==b)|none=>none)=some r->xm u v r:=by
  intro p hp hh;cases hq:nV y with
  |none=>simp [hq] at hh
  |some q=>
   simp only [hq,Option.some.injEq] at hh;subst hh;rw [Cs hx hp,Cs hy hq];exact .Hg _ _
 cases x with
 |aa k p=>
  cases y with
  |aa j q=>
   simp only [xz] at h;cases hk:r7 k j with
   |false=>simp [hk] at h
   |true=>
    simp only [hk,Option.some.injEq] at h;subst h;have:=Hz hk;subst this;rw [hx.lR,hy.lR];exact .Hh _ _ _
  |_=>simp [xz] at h
 |ai p=>
  cases y with
  |ai q=>
   simp only [xz,Option.some.injEq] at h;subst h;obtain ⟨s,rfl,hs⟩:=hx.qV;obtain ⟨t,rfl,ht⟩:=hy.qV;have e:(s.toList==t.toList)=decide (p=q):=by
    grind [Lib.toList_data]
   rw [<-e];exact .Hi _ _
  |_=>simp [xz] at h
 |aE p=>exact bb rfl h
 |bN=>exact bb rfl h
 |bo=>exact bb rfl h
 |_=>simp [xz] at h
inductive vQ:List Value->List Value->Bool->Prop
 |Ar:vQ [] [] true
 |yY {u v:Value} {us vs:List Value} {p q:Bool} (h:xm u v p) (h':vQ us vs q):vQ (u::us) (v::vs) (p && q)
theorem PB:∀ {cs ds:List ae} {us vs:List Value} {r:Bool},us.length=cs.length->vs.length=ds.length->(∀ (i:Nat) (x:ae) (u:Value),cs[i]? =some x->us[i]? =some u->aF w g x u)->
  (∀ (i:Nat) (x:ae) (u:Value),ds[i]? =some x->vs[i]? =some u->aF w g x u)->ta cs ds=some r->vQ us vs r
 |[],[],us,vs,r,hl,hm,_,_,h=>by
  rw [List.eq_nil_of_length_eq_zero hl,List.eq_nil_of_length_eq_zero hm];simp only [ta,Option.some.injEq] at h;subst h;exact .Ar
 |[x],[y],[u],[v],r,_,_,hx,hy,h=>by
  simp only [ta] at h;have:=vQ.yY (PD (hx 0 x u rfl rfl) (hy 0 y v rfl rfl) h) .Ar;simp_all
 |x::x'::l,y::m,us,vs,r,hl,hm,hx,hy,h=>by
  match us,vs,hl,hm,hx,hy with
  |u::us,v::vs,hl,hm,hx,hy=>
   simp only [ta] at h;cases h1:xz x y with
   |none=>simp [h1] at h
   |some p=>
    cases h2:ta (x'::l) m with
    |none=>simp [h1,h2] at h
    |some q=>
     simp only [h1,h2,Option.some.injEq] at h;subst h;exact .yY (PD (hx 0 x u rfl rfl) (hy 0 y v rfl rfl) h1) (PB (by simpa using hl) (by simpa using hm) (λi=>hx (i+1)) (λi=>hy (i+1)) h2)
 |[x],y::y'::m,us,vs,r,hl,hm,hx,hy,h=>by
  grind [ta]
 |[],_::_,_,_,_,_,_,_,_,h=>by simp [ta] at h
 |_::_,[],_,_,_,_,_,_,_,h=>by simp [ta] at h
theorem vQ.Pm:∀ {us vs:List Value} {r:Bool},vQ us vs r->us.length=vs.length
 |_,_,_, .Ar=>rfl
 |_,_,_, .yY _ h=>by simp [h.Pm]
theorem vQ.Pn:∀ {n:Nat} {us vs:List Value} {r:Bool},vQ us vs r->∃ p q,vQ (us.take n) (vs.take n) p/\vQ (us.drop n) (vs.drop n) q/\r=(p && q)
 |0,us,vs,r,h=>⟨true,r,by simpa using vQ.Ar,by simpa using h,by simp⟩
 |n+1,_,_,_, .Ar=>⟨true,true, .Ar, .Ar,rfl⟩
 |n+1,_,_,_, .yY h h'=>by
  obtain ⟨p,q,h1,h2,rfl⟩:=h'.Pn (n:=n);exact ⟨_,q, .yY h h1,h2,by rw [Bool.and_assoc]⟩
def za:Value->Nat
 | .int _ _=>0
 | .string _=>1
 | .bool _=>2
 |_=>9
theorem xm.X6 {t:TypeId} {u v:Value} {r:Bool} (h:xm u v r) (d:Nat) (w:World) {k:IntKind} (hu:P.underlying t=some (.int k)) (hk:za u=0):(Op.equalIn (d+1) t u v).run P w= .ok r w:=by
 cases h with
 |Hh k' p q=>grind [run_equalIn_int]
 |_=>cases hk
theorem xm.X7 {t:TypeId} {u v:Value} {r:Bool} (h:xm u v r) (d:Nat) (w:World) (hu:P.underlying t=some .string) (hk:za u=1):(Op.equalIn (d+1) t u v).run P w= .ok r w:=by
 cases h with
 |Hi s q=>grind [run_equalIn_string]
 |_=>cases hk
theorem xm.X5 {t:TypeId} {u v:Value} {r:Bool} (h:xm u v r) (d:Nat) (w:World) (hu:P.underlying t=some .bool) (hk:za u=2):(Op.equalIn (d+1) t u v).run P w= .ok r w:=by
 cases h with
 |Hg p q=>grind [run_equalIn_bool']
 |_=>cases hk
def HG:TypeDesc->Prop
 | .array _ _=>False
 |_=>True
def HH (n:Nat):TypeDesc->Prop
 | .struct _=>True
 |_=>n=1
def Ap (P:Program) (t:TypeId) (us:List Value) (x:Value):Prop:=match P.underlying t with
 |some (.struct _)=>x= .agg us.toArray
 |_=>us=[x]
def Po (P:Program) (d:Nat) (q:TypeId->Option (List Nat)):Prop:=∀ (t:TypeId) (ks:List Nat),q t=some ks->
 (∃ k,P.underlying t=some k/\HG k)/\∀ (us vs:List Value) (r:Bool),us.map za=ks->vQ us vs r->∀ (x y:Value),Ap P t us x->Ap P t vs y->∀ w,(Op.equalIn d t x y).run P w= .ok r w
theorem PQ {t:TypeId} {k:TypeDesc} (hu:P.underlying t=some k) (hk:HG k) {i:TypeInfo} (hi:P.info? t=some i) {us:List Value} {off:Nat} {n:Nat} (hn:n=i.size) (h1:HH n k)
  (hl:off+n<=us.length) (w:World):∃ x,(part t us.toArray off).run P w= .ok x w/\Ap P t ((us.drop off).take n) x:=by
 subst hn;unfold Ap;rw [hu];cases k with
 |struct fs=>
  refine ⟨_,?_,rfl⟩;simp only [part,Sem.run_bind,AF hu,Result.andThen_ok,if_true,HJ hi,Sem.run_pure];simp_all
 |array n e=>exact hk.elim
 |_=>
  rw [h1] at hl ⊢;have hlt:off<us.length:=om;refine ⟨us[off],?_,?_⟩
  ·have hg:us.toArray[off]? =some us[off]:=by simp [hlt]
   simp only [part,Sem.run_bind,AF hu,Result.andThen_ok];simp [hg]
  grind [List.drop_eq_getElem_cons]
theorem PJ {d:Nat} {t:TypeId} {ks:List Nat} (h:uI P d t=some ks):∃ k,P.underlying t=some k/\(HG k)/\HH ks.length k:=by
 cases d with
 |zero=>cases h
 |succ d=>
  simp only [uI] at h;cases hu:P.underlying t with
  |none=>simp [hu] at h
  |some k=>
   refine ⟨k,rfl,?_⟩;cases k<;>simp only [hu,Option.some.injEq,reduceCtorEq] at h<;>first|(subst h;trivial)|trivial
theorem PX {d:Nat} {q:TypeId->Option (List Nat)} (hq:Po P d q) (hq1:∀ t ks,q t=some ks->∃ k,P.underlying t=some k/\(HG k)/\HH ks.length k) {us vs:List Value}:∀ (fs:List Field) (n:Nat) (ks:List Nat) (r:Bool),vW P q fs n=some ks->
  (us.drop n).map za=ks->vQ (us.drop n) (vs.drop n) r->∀ w,(Op.eqFields d us.toArray vs.toArray fs).run P w= .ok r w
 |[],n,ks,r,hk,hm,hc,w=>by
  simp only [vW,Option.some.injEq] at hk;subst hk;have h0:us.drop n=[]:=by simpa using hm
  rw [h0] at hc;have hr:r=true:=by
   generalize vs.drop n=vs' at hc;cases hc;rfl
  subst hr;simp [Op.eqFields]
 |f::fs,n,ks,r,hk,hm,hc,w=>by
  simp only [vW] at hk;split at hk
  ·rename_i hcond;simp only [Bool.and_eq_true,bne_iff_ne,ne_eq,beq_iff_eq] at hcond;cases h1:q f.type with
   |none=>simp [h1] at hk
   |some k1=>
    cases h2:P.info? f.type with
    |none=>simp [h1,h2] at hk
    |some i=>
     simp only [h1,h2] at hk;split at hk
     ·rename_i hlen;cases h3:vW P q fs (n+i.size) with
      |none=>simp [h3] at hk
      |some k2=>
       simp only [h3,Option.some.injEq] at hk;subst hk;obtain ⟨p,q',c1,c2,rfl⟩:=hc.Pn (n:=i.size);have hlen0:=hc.Pm;have hml:=congrArg List.length hm;simp only [List.length_map,List.length_drop,List.length_append] at hml hlen0;rw [List.drop_drop,List.drop_drop] at c2;have hm1:((us.drop n).take i.size).map za=k1:=by
        simp_all
       have hm2:(us.drop (n+i.size)).map za=k2:=by
        grind [List.drop_drop,List.map_drop,List.drop_left]
       obtain ⟨k,hu,hk1,hk2⟩:=hq1 _ _ h1;have h1':HH i.size k:=by simp_all
       ·obtain ⟨x,p1,p2⟩:=PQ hu hk1 h2 (us:=us) (off:=n) rfl h1' om w;obtain ⟨y,p3,p4⟩:=PQ hu hk1 h2 (us:=vs) (off:=n) rfl h1' om w;have he:=(hq _ _ h1).2 _ _ _ hm1 c1 x y p2 p4 w;have ih:=PX hq hq1 fs (n+i.size) k2 q' h3 hm2 c2 w;simp only [Op.eqFields,hcond.1,ne_eq,not_false_eq_true,if_true,Sem.run_bind,hcond.2,p1,p3,he,Result.andThen_ok];cases p with
        |false=>simp
        |true=>simp [ih]
     ·cases hk
  ·cases hk
theorem PI:∀ (d:Nat) (e:Nat),Po P (d+e) (uI P d)
 |0,_=>λt ks h=>by cases h
 |d+1,e=>λt ks h=>by
  obtain ⟨k,hu,h1,_⟩:=PJ h;refine ⟨⟨k,hu,h1⟩,λus vs r hm hc x y hx hy w=>?_⟩;simp only [uI] at h;unfold Ap at hx hy;rw [hu] at h hx hy;rw [show d+1+e=d+e+1 by omega];cases k with
  |int k=>
   simp only [Option.some.injEq] at h hx hy;subst h hx hy;cases hc with|yY hc _=>cases ‹vQ [] [] _›;rw [Bool.and_true];exact hc.X6 _ _ hu (by simpa using hm)
  |string=>
   simp only [Option.some.injEq] at h hx hy;subst h hx hy;cases hc with|yY hc _=>cases ‹vQ [] [] _›;rw [Bool.and_true];exact hc.X7 _ _ hu (by simpa using hm)
  |bool=>
   simp only [Option.some.injEq] at h hx hy;subst h hx hy;cases hc with|yY hc _=>cases ‹vQ [] [] _›;rw [Bool.and_true];exact hc.X5 _ _ hu (by simpa using hm)
  |struct fs=>
   simp only at h hx hy;split at h
   ·cases h
   ·rename_i hst;subst hx hy;have hf:P.fieldsOf t=fs:=by simp [Program.fieldsOf,hu]
    rw [run_equalIn_struct w _ t _ _ (by rw [hf];exact hu) (by simpa using hst),hf];exact PX (PI d e) (λt ks h=>PJ h) fs.toList 0 ks r h (by simpa using hm) (by simpa using hc) w
  |_=>trivial
theorem PK:∀ {cs:List ae} {us:List Value},us.length=cs.length->(∀ (i:Nat) (x:ae) (u:Value),cs[i]? =some x->us[i]? =some u->aF w g x u)->(∀ k∈vX cs,k≠9)->us.map za=vX cs
 |[],us,hl,_,_=>by rw [List.eq_nil_of_length_eq_zero hl];rfl
 |x::cs,u::us,hl,h,hk=>by
  have h0:=h 0 x u rfl rfl;have hk0:PH x≠9:=hk _ (by simp [vX]);simp only [List.map_cons,vX];rw [PK (cs:=cs) (us:=us) (by simpa using hl) (λi=>h (i+1)) (λk hk'=>hk k (by simp [vX,hk']))];congr 1;cases x with
  |aa k n=>rw [h0.lR];rfl
  |ai s=>obtain ⟨b,rfl,_⟩:=h0.qV;rfl
  |aE p=>rw [h0.s9];rfl
  |bN=>rw [h0.xw];rfl
  |bo=>rw [h0.xr];rfl
  |_=>trivial
 |x::cs,[],hl,_,_=>by simp at hl
theorem PL:∀ (d:Nat) (t:TypeId) (ks:List Nat),uI P d t=some ks->∀ k∈ks,k≠9
 |0,t,ks,h=>by cases h
 |d+1,t,ks,h=>by
  simp only [uI] at h;have fields:∀ (fs:List Field) (n:Nat) (ks:List Nat),vW P (uI P d) fs n=some ks->∀ k∈ks,k≠9:=by
   intro fs
   induction fs with
   |nil=>grind [vW]
   |cons f fs ih=>
    intro n ks h;simp only [vW] at h;split at h
    ·cases h1:uI P d f.type with
     |none=>simp [h1] at h
     |some k1=>
      cases h2:P.info? f.type with
      |none=>simp [h1,h2] at h
      |some i=>
       simp only [h1,h2] at h;split at h
       ·cases h3:vW P (uI P d) fs (n+i.size) with
        |none=>simp [h3] at h
        |some k2=>
         simp only [h3,Option.some.injEq] at h;subst h;intro k hk;rcases List.mem_append.1 hk with hk|hk
         ·exact PL d _ _ h1 k hk
         grind
       ·cases h
    ·cases h
  grind
theorem Yh {t:TypeId} {cs ds:List ae} {xs ys:List Value} {r:Bool} (hl:xs.length=cs.length) (hm:ys.length=ds.length) (hx:∀ (i:Nat) (x:ae) (u:Value),cs[i]? =some x->xs[i]? =some u->aF w g x u)
  (hy:∀ (i:Nat) (x:ae) (u:Value),ds[i]? =some x->ys[i]? =some u->aF w g x u) (hc:ta cs ds=some r) (hk:EU P t (vX cs)=true):P.eqGuardType P.depth t=false/\(Op.equalIn 10000 t (.agg xs.toArray) (.agg ys.toArray)).run P w= .ok r w:=by
 simp only [EU,Bool.and_eq_true,Bool.not_eq_true',beq_iff_eq] at hk;obtain ⟨h1,h2,h3⟩:=hk;refine ⟨h1,?_⟩;have hst:∃ fs,P.underlying t=some (.struct fs):=by
  grind
 obtain ⟨fs,hu⟩:=hst;refine (PI 9 9991 t _ h2).2 xs ys r (PK hl hx (PL _ _ _ h2)) (PB hl hm hx hy hc) _ _ ?_ ?_ w
 ·unfold Ap;rw [hu]
 grind [Ap]
end
section
variable {P:Program} {T:cN} {b:ek P} {σ:az} {D:Nat->Prop} {g:cf} {a:Act} {w:World}
theorem KP {agg:Bool} {n off:Nat} {cs:List ae} {x:ae} (h:nm agg n off cs=some x):nm agg n 0 (cs.drop off)=some x:=by
 cases agg with
 |false=>grind [nm,td]
 |true=>grind [nm,Hv]
theorem nk {c off:Nat} {arr:List Value} {t:TypeId} {z:Nat×Nat} (h:w.heap[c]? =some (.cells arr.toArray t z)):w.cell? ⟨c,off,none⟩=arr[off]?:=by
 simp [World.cell?,h]
theorem KN {c off:Nat} {arr:List Value} {t:TypeId} {z:Nat×Nat} (h:w.heap[c]? =some (.cells arr.toArray t z)) (ho:¬(z.1<=off/\off<z.2)):w.frozen? ⟨c,off,none⟩=false:=by
 grind [World.frozen?]
theorem bh.EF (h:bh b σ D g w) {id c:Nat} {bt:TypeId} {cells:List ae} (hs:σ (.af id)= .au bt cells) (hc:g.aZ id=some c):
  ∃ vs:Nat->Value,∀ j x,cells[j]? =some x->w.cell? ⟨c,j,none⟩=some (vs j)/\aF w g x (vs j):=by
 obtain ⟨arr,h1,h2,h3⟩:=h.nS id bt cells c hs hc;refine ⟨λj=>arr.getD j undef,λj x hx=>?_⟩;have hj:j<arr.length:=by grind
 grind [nk]
theorem bh.EH (h:bh b σ D g w) {id c:Nat} {bt:TypeId} {cells:List ae} (hs:σ (.af id)= .aR bt cells) (hc:g.aZ id=some c):
  ∃ vs:Nat->Value,∀ j x,cells[j]? =some x->w.cell? ⟨c,j,none⟩=some (vs j)/\cb w g.bJ x (vs j):=by
 obtain ⟨arr,z,h1,h2,h2',h3⟩:=h.oN id bt cells c hs hc;refine ⟨λj=>arr.getD j undef,λj x hx=>?_⟩;have hj:j<arr.length:=by grind
 grind [nk]
theorem Yx (hT:dA P T) (h:bh b σ D g w) {t:TypeId} {p v:ae} {us:List (aS×bs)} {pv:Value} (hp:aF w g p pv) (hg:(HU σ T t p).fV v us):
  us=[]/\∃ val,(Instr.loadAt t pv).run P w= .ok val w/\aF w g v val:=by
 unfold HU at hg;cases ht:uJ T t with
 |none=>simp only [ht] at hg;exact hg.elim
 |some r=>
  obtain ⟨size,agg⟩:=r;simp only [ht] at hg;have fin:∀ (k off:Nat) (cs:List ae) (vs:Nat->Value),(∀ j x,cs[j]? =some x->w.cell? ⟨k,off+j,none⟩=some (vs j))->(∀ j x,cs[j]? =some x->aF w g x (vs j))->nm agg size 0 cs=some v->
    pv= .pointer (some ⟨k,off,none⟩)->∃ val,(Instr.loadAt t pv).run P w= .ok val w/\aF w g v val:=by
   intro k off cs vs h1 h2 h3 h4;subst h4;obtain ⟨val,h5,h6⟩:=PZ hT ht h1 h2 h3;grind [Instr.loadAt,Instr.sureAddr]
  cases p with
  |ar id off=>
   obtain ⟨c,hc,e⟩:=hp.qU;simp only at hg;cases hs:σ (.af id) with
   |au bt cells=>
    simp only [hs] at hg;cases hpt:nm agg size off cells with
    |none=>simp only [hpt] at hg;exact hg.elim
    |some x=>
     simp only [hpt] at hg;obtain ⟨e1,e2⟩:=hg;subst e1;obtain ⟨vs,hv⟩:=h.EF hs hc;exact ⟨e2,fin c off (cells.drop off) (λj=>vs (off+j)) (λj x hx=>(hv (off+j) x (by simpa using hx)).1) (λj x hx=>(hv (off+j) x (by simpa using hx)).2) (KP hpt) e⟩
   |aR bt cells=>
    simp only [hs] at hg;obtain ⟨vs,hv⟩:=h.EH hs hc;have h1:∀ j x,(cells.drop off)[j]? =some x->w.cell? ⟨c,off+j,none⟩=some (vs (off+j)):=λj x hx=>(hv (off+j) x (by simpa using hx)).1
    have h2:∀ j x,(cells.drop off)[j]? =some x->aF w g x (vs (off+j)):=λj x hx=> .bC (hv (off+j) x (by simpa using hx)).2
    cases agg with
    |true=>
     simp only at hg;obtain ⟨cs,⟨hl,hcs⟩,e1,e2⟩:=hg;subst e1;refine ⟨e2,fin c off (cells.drop off) (λj=>vs (off+j)) h1 h2 ?_ e⟩;simp only [nm,vV];cases hk:qm (cells.drop off) size with
     |some r=>obtain ⟨h3,_⟩:=E0 _ _ _ hk;simp_all
     |none=>
      exfalso;have:∀ (l:List ae) (n:Nat),n<=l.length->qm l n≠none:=by
       intro l
       induction l with
       |nil=>trivial
       |cons y l ih=>
        intro n hn;cases n with
        |zero=>simp [qm]
        |succ n=>
         grind [qm]
      grind
    |false=>
     simp only at hg;obtain ⟨x,hx,e1,e2⟩:=hg;subst e1;exact ⟨e2,fin c off (cells.drop off) (λj=>vs (off+j)) h1 h2 (by grind [nm,td]) e⟩
   |_=>simp only [hs] at hg;exact hg.elim
  |cB cs off=>
   obtain ⟨blk,base,vals,e,h1,h2⟩:=hp.Co;simp only at hg;cases hpt:nm agg size off cs with
   |none=>simp only [hpt] at hg;exact hg.elim
   |some x=>
    simp only [hpt] at hg;obtain ⟨e1,e2⟩:=hg;subst e1;exact ⟨e2,fin blk (base+off) (cs.drop off) (λj=>vals (off+j)) (λj x hx=>by grind) (λj x hx=> .bC (h2 (off+j) x (by simpa using hx))) (KP hpt) e⟩
  |_=>exact hg.elim
theorem AG (c:Nat) {t:TypeId} {z:Nat×Nat}:∀ (vs:List Value) (off i:Nat) (arr:List Value) (w:World),w.heap[c]? =some (.cells arr.toArray t z)->off+i+vs.length<=arr.length->
  (∀ o,o<arr.length->¬(z.1<=o/\o<z.2))->(∀ u∈vs,u.oneCell'=true)->
  ∃ w',(storeCells ⟨c,off,none⟩ vs i).run P w= .ok () w'/\kj c w w'/\w'.heap[c]? =some (.cells (arr.take (off+i)++vs++arr.drop (off+i+vs.length)).toArray t z)
 |[],off,i,arr,w,h,_,_,_=>⟨w,by simp [storeCells],⟨rfl,rfl,rfl,rfl,λ_ _=>rfl,rfl,λ_ h=>h,rfl⟩,by simp [h]⟩
 |u::vs,off,i,arr,w,h,hl,hz,hu=>by
  have hlt:off+i<arr.length:=by simp at hl;omega
  have hcell:w.cell? ⟨c,off+i,none⟩=some arr[off+i]:=by rw [nk h];simp_all
  have hfr:=KN (w:=w) h (hz (off+i) hlt);have hst:(store ⟨c,off+i,none⟩ u).run P w= .ok () (w.setCell ⟨c,off+i,none⟩ u):=by
   grind [run_store]
  have hheap:(w.setCell ⟨c,off+i,none⟩ u).heap[c]? =some (.cells (arr.set (off+i) u).toArray t z):=by
   grind [World.setCell]
  have hw1:kj c w (w.setCell ⟨c,off+i,none⟩ u):=⟨rfl,rfl,rfl,by simp_all,λk hk=>Below.heap_setCell _ _ _ _ hk,by
   grind [World.shape?],λds hd=>(by simp_all),rfl⟩
  obtain ⟨w',h1,h2,h3⟩:=AG c vs off (i+1) (arr.set (off+i) u) _ hheap (by grind) (λo ho=>hz o (by simpa using ho)) (λx hx=>hu x (by simp [hx]));refine ⟨w',?_,⟨h2.KH.trans hw1.KH,h2.KJ.trans hw1.KJ,h2.KI.trans hw1.KI,h2.me.trans hw1.me,λk hk=>(h2.rX k hk).trans (hw1.rX k hk),h2.ET.trans hw1.ET,λds hd=>(by simp_all),h2.ES.trans hw1.ES⟩,?_⟩
  ·grind [storeCells,qW,Sem.run_bind,Result.andThen_ok]
  ·rw [h3];congr 2;congr 1;have e1:(arr.set (off+i) u).take (off+(i+1))=arr.take (off+i)++[u]:=by
    grind [List.take_succ_eq_append_getElem,List.take_set_of_le]
   have e2:(arr.set (off+i) u).drop (off+(i+1)+vs.length)=arr.drop (off+i+(u::vs).length):=by
    grind [List.drop_set_of_lt]
   simp_all
theorem tg {x:ae} {v:Value} (hx:xC x=true) (h:aF w g x v):cb w g.bJ (xA x) v:=by
 cases h with
 |bC h=>cases h<;>first|(constructor<;>assumption)|constructor|(rename_i h1 h2 h3 h4 h5 h6;exact .lst _ h1 h2 h3 h4 h5 h6)|cases hx|exact .bool _
 |jc h ht=>exact h
 |rU hl hm h hh=>
  rename_i f fs cs vs us;cases fs with
  |cons y fs=>cases hx
  |nil=>
   cases cs with
   |cons y cs=>cases hx
   |nil=>
    have e1:vs=[]:=List.eq_nil_of_length_eq_zero hl;have e2:us=[]:=List.eq_nil_of_length_eq_zero hm;subst e1 e2;exact .Ax f
 |_=>cases hx
theorem rY:∀ {cs:List ae} {i:Nat} {y:ae},(iB cs)[i]? =some y->∃ x,cs[i]? =some x/\y=xA x
 |[],i,y,h=>by trivial
 |c::cs,0,y,h=>by grind [iB]
 |c::cs,i+1,y,h=>by
  obtain ⟨x,h1,h2⟩:=rY (cs:=cs) (i:=i) (y:=y) (by trivial);simp_all
theorem rZ:∀ (cs:List ae),(iB cs).length=cs.length
 |[]=>rfl
 |c::cs=>by simp [iB,rZ cs]
theorem tf:∀ {cs:List ae},kZ cs=true->∀ (i:Nat) (x:ae),cs[i]? =some x->xC x=true
 |[],_,i,x,h=>by simp at h
 |c::cs,hc,i,x,h=>by
  simp only [kZ] at hc;cases hx:xC c with
  |false=>simp [hx] at hc
  |true=>
   simp only [hx] at hc;cases i with
   |zero=>simp_all
   |succ i=>exact tf hc i x (by simpa using h)
theorem YP (hT:dA P T) (h:bh b σ D g w) {t:TypeId} {p x v:ae} {us:List (aS×bs)} {pv xv:Value} (hp:aF w g p pv) (hx:aF w g x xv) (hg:(HV σ T t p x).fV v us):
  v= .bV/\∃ w',(Instr.storeAt t pv xv).run P w= .ok () w'/\bh b (eG σ us) D g w'/\dp g w g w':=by
 unfold HV at hg;cases ht:uJ T t with
 |none=>simp only [ht] at hg;exact hg.elim
 |some r=>
  obtain ⟨size,agg⟩:=r;simp only [ht] at hg;cases hcs:xy x with
  |none=>simp only [hcs] at hg;exact hg.elim
  |some cs=>
   simp only [hcs] at hg;cases hsz:Nat.beq cs.length size with
   |false=>simp only [hsz] at hg;exact hg.elim
   |true=>
    simp only [hsz] at hg;have hlen:cs.length=size:=Nat.eq_of_beq_eq_true hsz;obtain ⟨hc1,hc2,hc3⟩:=hx.KB hcs;obtain ⟨_,hsize⟩:=KT hT ht w;have hst:∀ (k off:Nat),(Instr.storeAt t (.pointer (some ⟨k,off,none⟩)) xv).run P w=(storeCells ⟨k,off,none⟩ xv.cells.toList).run P w:=by
     intro k off;have e:xv.cells.size=size:=by simp_all
     simp [Instr.storeAt,Instr.sureAddr,storeVar,hsize,e]
    generalize xv.cells.toList=ul at*;cases p with
    |ar id off=>
     obtain ⟨c,hc,e⟩:=hp.qU;subst e;simp only at hg;cases hs:σ (.af id) with
     |au bt cells=>
      simp only [hs] at hg;cases hspl:qY cells off cs with
      |none=>simp only [hspl] at hg;exact hg.elim
      |some cells'=>
       simp only [hspl] at hg;obtain ⟨e1,e2⟩:=hg;obtain ⟨hs1,hs2⟩:=HM _ _ _ _ hspl;obtain ⟨arr,ha1,ha2,ha3⟩:=h.nS id bt cells c hs hc;obtain ⟨w',hr,hw,hh⟩:=AG (P:=P) c ul off 0 arr w ha1 om (λo _ ho=>by omega) hc3;have hl:(σ (.af id)).dw=true:=by rw [hs];rfl
       obtain ⟨k1,k2⟩:=h.j8 (X:= .au bt cells') hl hc hw (λ_=>by
        have hE:dp g w g w':=dp.pC hw (λo=>by obtain ⟨c',q1,_,_,q2⟩:=h.dq id hl;simp_all);refine ⟨_,hh,by simp_all,λi y u hy hu=>?_⟩;rw [hs2] at hy;simp only [Nat.add_zero] at hu;refine aF.kG hE ?_;grind)
       subst e2;exact ⟨e1,w',(hst c off).trans hr,k1,k2⟩
     |aR bt cells=>
      simp only [hs] at hg;cases hpu:kZ cs with
      |false=>simp only [hpu] at hg;exact hg.elim
      |true=>
       simp only [hpu] at hg;obtain ⟨hb,e1,e2⟩:=hg;obtain ⟨arr,z,ha1,ha2,hz,ha3⟩:=h.oN id bt cells c hs hc;obtain ⟨w',hr,hw,hh⟩:=AG (P:=P) c ul off 0 arr w ha1 om hz hc3;have hl:(σ (.af id)).dw=true:=by rw [hs];rfl
       obtain ⟨k1,k2⟩:=h.j8 (X:= .aR bt (cells.take off++iB cs++cells.drop (off+size))) hl hc hw (λ_=>by
        have hE:dp g w g w':=dp.pC hw (λo=>by obtain ⟨c',q1,_,_,q2⟩:=h.dq id hl;simp_all);have hfl:=rZ cs;refine ⟨_,z,hh,by simp;omega,λo ho=>hz o (by simp at ho;omega),λi y u hy hu=>?_⟩;simp only [Nat.add_zero] at hu;refine cb.eO hE.ee ?_
        by_cases h1:i<off
        ·grind
        ·by_cases h2:i<off+cs.length
         ·rw [List.append_assoc,List.getElem?_append_right (by simp;omega),List.getElem?_append_left (by simp;omega)] at hy hu;have m1:min off cells.length=off:=om;have m2:min off arr.length=off:=om;grind [rY,tg,tf]
         grind)
       subst e2;exact ⟨e1,w',(hst c off).trans hr,k1,k2⟩
     |_=>simp only [hs] at hg;exact hg.elim
    |_=>exact hg.elim
end
section
variable {P:Program} {T:cN} {b:ek P} {σ:az} {D:Nat->Prop} {g:cf} {a:Act} {w:World}
theorem bh.pE (h:bh b σ D g w) {w':World} (hb:Below w.heap.size w w') (hd:w.drawn<=w'.drawn:=by first|exact Nat.le_refl _|exact Nat.le_succ _):bh b σ D g w'/\dp g w g w':=
 ⟨h.yZ hb hd (F':=g.bJ) (λ_ _ h=>h) (λ_ _ h=> .inl h),h.xn hb hd (F':=g.bJ) (λ_ _ h=>h)⟩
theorem bh.EI (h:bh b σ D g w) {f:Nat} (hf:g.aZ f=none) {X:bs} (hX:X.dw=true) (o:Obj) (hcl:∀ g' w',dp g w g' w'->w'.heap[w.heap.size]? =some o->g'.bJ=g.bJ->mI w' g' w.heap.size X):
  bh b (aU σ (.af f) X) (λi=>D i\/i=f) (g.oM f w.heap.size) (w.alloc o)/\dp g w (g.oM f w.heap.size) (w.alloc o):=by
 obtain ⟨h1,e1⟩:=h.pE ((Below.refl _ w).alloc (Nat.le_refl _) o);have hnew:(w.alloc o).heap[w.heap.size]? =some o:=heap_alloc_new w o;have e2:=e1.gD (dp.EE (c:=w.heap.size) hf);refine ⟨h1.Hj hf hX (.inl h.dU.kX) (by simp) (λo ho=>?_) (λid hl hc=>?_) (λid t sz N N' _ hr=>?_) (hcl g _ e1 hnew rfl),e2⟩
 ·exact absurd (h.fU _ _ ho) (Nat.lt_irrefl _)
 ·exact absurd (h.eU _ _ hc) (Nat.lt_irrefl _)
 ·exact absurd (h.gV _ _ _ hr) (Nat.lt_irrefl _)
theorem bh.Kz (h:bh b σ D g w) {f:Nat} (hf:g.aZ f=none) {t:TypeId} {cells:List ae} {arr:List Value} (hl:arr.length=cells.length)
  (hr:∀ (i:Nat) (x:ae) (v:Value),cells[i]? =some x->arr[i]? =some v->aF w g x v):
  bh b (aU σ (.af f) (.au t cells)) (λi=>D i\/i=f) (g.oM f w.heap.size) (w.alloc (.cells arr.toArray t))/\dp g w (g.oM f w.heap.size) (w.alloc (.cells arr.toArray t)):=
 h.EI hf rfl _ λ_ _ hE hh _=>⟨arr,hh,hl,λi x v hx hv=>(hr i x v hx hv).kG hE⟩
theorem bh.Hk (h:bh b σ D g w) {f:Nat} (hf:g.aZ f=none) {t:TypeId} {cells:List ae} {arr:List Value} {z:Nat×Nat} (hl:cells.length<=arr.length) (hz:∀ o,o<arr.length->¬(z.1<=o/\o<z.2))
  (hr:∀ (i:Nat) (x:ae) (v:Value),cells[i]? =some x->arr[i]? =some v->cb w g.bJ x v):
  bh b (aU σ (.af f) (.aR t cells)) (λi=>D i\/i=f) (g.oM f w.heap.size) (w.alloc (.cells arr.toArray t z))/\dp g w (g.oM f w.heap.size) (w.alloc (.cells arr.toArray t z)):=
 h.EI hf rfl _ λ_ _ hE hh _=>⟨arr,z,hh,hl,hz,λi x v hx hv=>(hr i x v hx hv).eO hE.ee⟩
theorem lz.pG (hT:dA P T) {t:TypeId} {r:lz} (h:cP T t=some r):∃ i z,P.info? t=some i/\i.zero=some z/\i.size=r.aO/\i.bytes=r.xx/\z.cells.size=r.aO/\r.jX.length=r.aO/\
  (∀ (w:World) (g:cf) (j:Nat) (x:ae) (v:Value),r.jX[j]? =some x->z.cells.toList[j]? =some v->aF w g x v)/\(z.cells=#[z]\/∃ cs,z= .agg cs):=by
 obtain ⟨_,i,z,h1,h2,h3,h4,h5,h6,h7⟩:=hT t r h;grind [PE]
theorem Yi (hT:dA P T) (h:bh b σ D g w) {f:Nat} (hf:g.aZ f=none) {t:TypeId} {r:lz} (hr:cP T t=some r) {dst ty pos after guard}:
  gk P b σ [(.af f, .au t r.jX)] f D g a w ⟨dst, .alloc t,ty,pos,after,guard⟩ (.ar f 0):=by
 obtain ⟨i,z,h1,h2,_,_,h3,h4,h5,_⟩:=lz.pG hT hr;obtain ⟨k1,k2⟩:=h.Kz hf (t:=t) (cells:=r.jX) (arr:=z.cells.toList) (by rw [h4];exact h3) (h5 w g);refine ⟨_, .pointer (some ⟨w.heap.size,0,none⟩),_,_,?_, .inl rfl, .ni (cf.mJ _ _ _),k1,k2⟩;simp [execOp,Instr.alloc,zeroValue,typeInfo,h1,h2,newVar,newRow]
theorem Ym (h:bh b σ D g w) {f:Nat} (hf:g.aZ f=none) {t:TypeId} {x:Operand} {cs:List ae} (hc:xy (aM σ x)=some cs) (hx:aF w g (aM σ x) (a.eval x)) {dst ty pos after guard}:
  gk P b σ [(.af f, .au t cs)] f D g a w ⟨dst, .box t x,ty,pos,after,guard⟩ (.ar f 0):=by
 obtain ⟨h1,h2,_⟩:=hx.KB hc;obtain ⟨k1,k2⟩:=h.Kz hf (t:=t) (cells:=cs) (arr:=(a.eval x).cells.toList) h1 h2;refine ⟨_, .pointer (some ⟨w.heap.size,0,none⟩),_,_,?_, .inl rfl, .ni (cf.mJ _ _ _),k1,k2⟩;trivial
theorem PF (off:Nat):∀ (vs cells:List Value) (k:Nat),off+k+vs.length<=cells.length->
  (vs.zipIdx k).foldl (λ(cs:Array Value) (p:Value×Nat)=>cs.setIfInBounds (off+p.2) p.1) cells.toArray=(cells.take (off+k)++vs++cells.drop (off+k+vs.length)).toArray
 |[],cells,k,_=>by simp
 |v::vs,cells,k,h=>by
  simp only [List.zipIdx_cons,List.foldl_cons,List.setIfInBounds_toArray];rw [PF off vs (cells.set (off+k) v) (k+1) (by grind)];congr 1;have hlt:off+k<cells.length:=by simp at h;omega
  have e1:(cells.set (off+k) v).take (off+(k+1))=cells.take (off+k)++[v]:=by
   grind [List.take_succ_eq_append_getElem,List.take_set_of_le]
  have e2:(cells.set (off+k) v).drop (off+(k+1)+vs.length)=cells.drop (off+k+(v::vs).length):=by
   grind [List.drop_set_of_lt]
  simp_all
theorem KM (place place':Nat->Option (Nat×Nat)) (hpp:∀ i p,place i=some p->place' i=some p):∀ (ps:List (Nat×ae)) (qs:List (Nat×Value)) (cells cells':List ae) (vals:List Value),
  ps.length=qs.length->(∀ (j:Nat) (i:Nat) (x:ae) (i':Nat) (v:Value),ps[j]? =some (i,x)->qs[j]? =some (i',v)->i=i'/\aF w g x v)->
  vals.length=cells.length->(∀ (j:Nat) (x:ae) (v:Value),cells[j]? =some x->vals[j]? =some v->aF w g x v)->
  uH place ps cells=some cells'->∃ vals':List Value,Instr.fill place' vals.toArray qs=some vals'.toArray/\vals'.length=cells'.length/\cells'.length=cells.length/\
   ∀ (j:Nat) (x:ae) (v:Value),cells'[j]? =some x->vals'[j]? =some v->aF w g x v
 |[],qs,cells,cells',vals,hl,_,hv,hr,hf=>by
  have:qs=[]:=List.eq_nil_of_length_eq_zero (by simpa using hl.symm);subst this;simp only [uH,Option.some.injEq] at hf;subst hf;exact ⟨vals,rfl,hv,rfl,hr⟩
 |(i,x)::ps,qs,cells,cells',vals,hl,hp,hv,hr,hf=>by
  cases qs with
  |nil=>simp at hl
  |cons q qs=>
   obtain ⟨i',v⟩:=q;obtain ⟨rfl,hx⟩:=hp 0 i x i' v rfl rfl;simp only [uH] at hf;cases hpl:place i with
   |none=>simp [hpl] at hf
   |some os=>
    obtain ⟨off,size⟩:=os;simp only [hpl] at hf;cases hc:xy x with
    |none=>simp [hc] at hf
    |some cs=>
     simp only [hc] at hf;cases hb:Nat.beq cs.length size with
     |false=>simp [hb] at hf
     |true=>
      simp only [hb] at hf;cases hs:qY cells off cs with
      |none=>simp [hs] at hf
      |some c2=>
       simp only [hs] at hf;obtain ⟨s1,s2⟩:=HM _ _ _ _ hs;obtain ⟨x1,x2,_⟩:=hx.KB hc;have hsz:cs.length=size:=Nat.eq_of_beq_eq_true hb;have x1':v.cells.size=cs.length:=x1;have hle:c2.length=cells.length:=by grind
       have hfold:=PF off v.cells.toList vals 0 om;obtain ⟨vals',f1,f2,f3,f4⟩:=KM place place' hpp ps qs c2 cells' (vals.take off++v.cells.toList++vals.drop (off+v.cells.toList.length)) (by simpa using hl)
        (λj i x i' v h1 h2=>hp (j+1) i x i' v (by simpa using h1) (by simpa using h2)) (by rw [hle];simp;omega) (λj y u hy hu=>by
         grind) hf
       grind [Instr.fill,Array.toList_zipIdx]
theorem PS:∀ (ps:List (Nat×Operand)) (j i:Nat) (x:ae),(nn σ ps)[j]? =some (i,x)->∃ o,ps[j]? =some (i,o)/\x=aM σ o
 |[],j,i,x,h=>by simp [nn] at h
 |(i',o)::ps,0,i,x,h=>by grind [nn]
 |(i',o)::ps,j+1,i,x,h=>PS ps j i x (by trivial)
theorem KQ:∀ (ps:List (Nat×Operand)),(nn σ ps).length=ps.length
 |[]=>rfl
 |(_,_)::ps=>by simp [nn,KQ ps]
theorem PU {ps:Array (Nat×Operand)} (hop:∀ p∈ps,aF w g (aM σ p.2) (a.eval p.2)) (j i:Nat) (x:ae) (i':Nat) (v:Value) (h1:(nn σ ps.toList)[j]? =some (i,x))
  (h2:(ps.map λ(i,x)=>(i,a.eval x)).toList[j]? =some (i',v)):i=i'/\aF w g x v:=by
 grind [PS]
theorem PO {α β:Type} (f:α->Option β):∀ (l:List α) (r:List β),l.mapM f=some r->∀ (i:Nat) (x:α),l[i]? =some x->r[i]? =f x
 |[],r,h,i,x,hx=>by simp at hx
 |y::l,r,h,i,x,hx=>by
  simp only [List.mapM_cons,Option.bind_eq_bind,Option.pure_def] at h;cases hy:f y with
  |none=>simp [hy] at h
  |some z=>
   cases hr:l.mapM f with
   |none=>simp [hy,hr] at h
   |some rest=>
    simp [hy,hr] at h;subst h;cases i with
    |zero=>simp_all
    |succ i=>simpa using PO f l rest hr i x (by simpa using hx)
theorem Yo (hT:dA P T) (h:bh b σ D g w) {f:Nat} {t:TypeId} {ps:Array (Nat×Operand)} {us:List (aS×bs)} {v:ae} {dst ty pos after guard} (hg:(df P T σ f ⟨dst, .build t ps,ty,pos,after,guard⟩).fV v us)
  (hop:∀ p∈ps,aF w g (aM σ p.2) (a.eval p.2)):gk P b σ us f D g a w ⟨dst, .build t ps,ty,pos,after,guard⟩ v:=by
 simp only [df,cY] at hg;cases hr:cP T t with
 |none=>simp only [hr] at hg;exact hg.elim
 |some r=>
  obtain ⟨i,z,h1,h2,h3,_,h4,h5,h6,_⟩:=lz.pG hT hr;have hrow:=(hT t _ hr).1;obtain ⟨ti,n,bytes,zero⟩:=r;simp only [hr] at hg hrow;have fin:∀ (place place':Nat->Option (Nat×Nat)) (cs:List ae),(∀ i p,place i=some p->place' i=some p)->uH place (nn σ ps.toList) zero=some cs->
    (∀ cells,Instr.fill place' z.cells (ps.map λ(i,x)=>(i,a.eval x)).toList=some cells->P.built t (ps.map λ(i,x)=>(i,a.eval x)).toList=some cells)->
    v= .aK cs->us=[]->gk P b σ us f D g a w ⟨dst, .build t ps,ty,pos,after,guard⟩ v:=by
   intro place place' cs hpp hf hb e1 e2;subst e1 e2;obtain ⟨vals',f1,f2,f3,f4⟩:=KM (w:=w) (g:=g) place place' hpp (nn σ ps.toList) (ps.map λ(i,x)=>(i,a.eval x)).toList zero cs z.cells.toList (by rw [KQ];simp)
    (λj i x i' v h1 h2=>PU hop j i x i' v h1 h2) (by rw [h5];exact h4) (λj x v hx hv=>h6 w g j x v hx hv) hf
   refine gk.fq h (val:= .agg vals'.toArray) ?_ (.nT f2 f4);have:=run_build (P:=P) w t (ps.map λ(i,x)=>(i,a.eval x)) _ (hb _ f1);simp only [execOp,Sem.run_bind,this,Result.andThen_ok];rfl
  cases ti with
  |bO fs=>
   simp only at hg hrow;obtain ⟨fields,places,hu,hfs,hpl⟩:=hrow;generalize hpf:(λi=>match lS fs i with|some (off,ft)=>(match cP T ft with|some r=>some (off,r.aO)|none=>none)|none=>none:Nat->Option (Nat×Nat))=place at hg;cases hf:uH place (nn σ ps.toList) zero with
   |none=>simp only [hf] at hg;exact hg.elim
   |some cs=>
    simp only [hf] at hg;obtain ⟨e1,e2⟩:=hg;refine fin place (places.toArray[·]?) cs (λi p hp=>?_) hf (λcells hc=>?_) e1 e2
    ·rw [<-hpf] at hp;simp only at hp;cases hn:lS fs i with
     |none=>simp [hn] at hp
     |some q=>
      obtain ⟨off,ft⟩:=q;simp only [hn] at hp;cases hft:cP T ft with
      |none=>simp [hft] at hp
      |some r=>
       simp only [hft,Option.some.injEq] at hp;subst hp;obtain ⟨j,_,q1,_,q2,_⟩:=lz.pG hT hft;rw [td,<-hfs,List.getElem?_map] at hn;cases hfi:fields.toList[i]? with
       |none=>simp [hfi] at hn
       |some fd=>
        grind [PO]
    grind [Program.built]
  |e7 m e=>
   simp only at hg hrow;cases he:cP T e with
   |none=>simp only [he] at hg;exact hg.elim
   |some r=>
    simp only [he] at hg;cases hf:uH (λi=>some (i*r.aO,r.aO)) (nn σ ps.toList) zero with
    |none=>simp only [hf] at hg;exact hg.elim
    |some cs=>
     simp only [hf] at hg;obtain ⟨e1,e2⟩:=hg;obtain ⟨j,_,q1,_,q2,_⟩:=lz.pG hT he;refine fin _ (λi=>some (i*r.aO,r.aO)) cs (λi p hp=>hp) hf (λcells hc=>?_) e1 e2;simp only [Program.built,h1,hrow,h2,q1,q2];exact hc
  |_=>exact hg.elim
end
section
variable {P:Program} {T:cN} {b:ek P} {σ:az} {D:Nat->Prop} {g:cf} {a:Act} {w:World}
theorem PA (sz:Nat):∀ (n:Nat) (l:List ae) (els:List (List ae)),y9 sz n l=some els->els.length=n/\(∀ el∈els,el.length=sz)/\l=els.flatten
 |0,[],els,h=>by grind [y9]
 |0,_::_,els,h=>by simp [y9] at h
 |n+1,l,els,h=>by
  simp only [y9] at h;cases ht:qm l sz with
  |none=>simp [ht] at h
  |some r=>
   simp only [ht] at h;cases hc:y9 sz n (vV l sz) with
   |none=>simp [hc] at h
   |some rs=>
    simp only [hc,Option.some.injEq] at h;subst h;obtain ⟨h1,h2⟩:=E0 _ _ _ ht;obtain ⟨h3,h4,h5⟩:=PA sz n _ _ hc;grind [Hv,List.take_append_drop]
theorem KR {x:ae} (h:xC x=true):xB x=true:=by cases x<;>first|rfl|cases h
theorem EV {α:Type} (sz:Nat):∀ (els:List (List α)) (i j:Nat) (el:List α) (x:α),(∀ el∈els,el.length=sz)->els[i]? =some el->el[j]? =some x->els.flatten[i*sz+j]? =some x
 |[],i,j,el,x,_,h,_=>by simp at h
 |e::els,0,j,el,x,hs,h,hx=>by
  grind
 |e::els,i+1,j,el,x,hs,h,hx=>by
  have he:e.length=sz:=hs e (by simp);rw [List.flatten_cons,List.getElem?_append_right (by grind),he];rw [show (i+1)*sz+j - sz=i*sz+j by grind];exact EV sz els i j el x (λy hy=>hs y (by simp [hy])) (by simpa using h) hx
theorem lA {α:Type} (sz:Nat):∀ (els:List (List α)),(∀ el∈els,el.length=sz)->els.flatten.length=els.length*sz
 |[],_=>by simp
 |e::els,hs=>by
  rw [List.flatten_cons,List.length_append,lA sz els (λy hy=>hs y (by simp [hy])),hs e (by simp),List.length_cons,Nat.succ_mul];omega
theorem PV {F:Nat->Nat->Prop} {c sz:Nat} {t:TypeId} {z:Nat×Nat} {arr:List Value} {els:List (List ae)} {cap:Nat} (hh:w.heap[c]? =some (.cells arr.toArray t z)) (hF:∀ o,o<els.length*sz->F c o)
  (hcap:els.length<=cap) (hsz:∀ el∈els,el.length=sz) (hl:els.length*sz<=arr.length)
  (ho:∀ (i:Nat) (x:ae) (v:Value),els.flatten[i]? =some x->arr[i]? =some v->v.oneCell'=true)
  (hr:∀ (i:Nat) (x:ae) (v:Value),els.flatten[i]? =some x->arr[i]? =some v->cb w F x v):cb w F (.ag false sz els .av) (.slice (some ⟨c,0,none⟩) els.length cap):=by
 have key:∀ (i:Nat) (el:List ae) (j:Nat) (x:ae),els[i]? =some el->el[j]? =some x->els.flatten[i*sz+j]? =some x/\i*sz+j<els.length*sz:=by
  grind [EV,lA]
 refine .iK (λi j=>arr.getD (i*sz+j) undef) rfl hcap hsz (λi el j x h1 h2=>?_) (λi el j x h1 h2=>?_) (λi el j x h1 h2=>?_)
 ·grind [nk]
 ·grind
 grind
theorem bh.Ya (h:bh b σ D g w) (arr:List Value) (t:TypeId) (z:Nat×Nat):∃ g',bh b σ D g' (w.alloc (.cells arr.toArray t z))/\dp g w g' (w.alloc (.cells arr.toArray t z))/\(∀ o,g'.bJ w.heap.size o)/\
  g'.aZ=g.aZ/\g'.cu=g.cu/\(∀ k o,g.bJ k o->g'.bJ k o):=by
 have hb:=(Below.refl _ w).alloc (Nat.le_refl _) (.cells arr.toArray t z);refine ⟨{g with bJ:=λk o=>g.bJ k o\/k=w.heap.size},h.yZ hb (Nat.le_refl _) (λ_ _ h=> .inl h) (λk o hk=>?_),h.xn hb (Nat.le_refl _) (λ_ _ h=> .inl h),λ_=> .inr rfl,rfl,rfl,λ_ _ h=> .inl h⟩;rcases hk with hk|rfl
 ·exact .inl hk
 simp_all
theorem r8 (n:Nat) (z:List ae):(eB n z).length=n*z.length:=by
 unfold eB;simp_all
theorem EX (n:Nat) (z:List ae) (i:Nat) (x:ae) (h:(eB n z)[i]? =some x):z[i % z.length]? =some x/\i<n*z.length:=by
 have hi:i<n*z.length:=by grind [r8]
 have hz:0<z.length:=by
  grind
 have hq:i / z.length<n:=by rw [Nat.div_lt_iff_lt_mul hz];exact hi
 have hm:i % z.length<z.length:=Nat.mod_lt _ hz;have:=EV z.length (List.replicate n z) (i / z.length) (i % z.length) z z[i % z.length] (λel hel=>by simp_all) (by simp_all) (List.getElem?_eq_getElem hm);rw [show i / z.length*z.length+i % z.length=i from by rw [Nat.mul_comm];exact Nat.div_add_mod i z.length] at this;grind [eB]
theorem P2 (hT:dA P T) {t:TypeId} {r:lz} (hr:cP T t=some r) (n:Nat):∃ i z,P.info? t=some i/\i.zero=some z/\i.size=r.aO/\i.bytes=r.xx/\z.cells.size=r.aO/\r.jX.length=r.aO/\
  (∀ (w:World) (g:cf) (j:Nat) (x:ae) (v:Value),(eB n r.jX)[j]? =some x->((Array.range (n*r.aO)).map (z.cells[· % z.cells.size]!)).toList[j]? =some v->aF w g x v):=by
 obtain ⟨i,z,h1,h2,h3,h3',h4,h5,h6,_⟩:=lz.pG hT hr;refine ⟨i,z,h1,h2,h3,h3',h4,h5,λw g j x v hx hv=>?_⟩;obtain ⟨h7,h8⟩:=EX n r.jX j x hx;grind
theorem Yn (hT:dA P T) (h:bh b σ D g w) {f:Nat} (hf:g.aZ f=none) {t:TypeId} {n:Nat} {ps:Array (Nat×Operand)} {us:List (aS×bs)} {v:ae} {dst ty pos after guard}
  (hg:(df P T σ f ⟨dst, .buildSlice t n ps,ty,pos,after,guard⟩).fV v us)
  (hop:∀ p∈ps,aF w g (aM σ p.2) (a.eval p.2)):gk P b σ us f D g a w ⟨dst, .buildSlice t n ps,ty,pos,after,guard⟩ v:=by
 simp only [df,cY] at hg;cases hr:cP T t with
 |none=>simp only [hr] at hg;exact hg.elim
 |some r=>
  have hrow:=(hT t _ hr).1;obtain ⟨ti,m,bytes,zero⟩:=r;simp only [hr] at hg hrow;cases ti with
  |dK e=>
   simp only at hg hrow;cases he:cP T e with
   |none=>simp only [he] at hg;exact hg.elim
   |some r=>
    simp only [he] at hg;obtain ⟨i,z,q1,q2,q3,_,q4,q5,q6⟩:=P2 hT he n;cases hb:Nat.ble (n*r.aO) 1000000 with
    |false=>simp only [hb] at hg;exact hg.elim
    |true=>
     simp only [hb] at hg;have hle:n*r.aO<=1000000:=Nat.le_of_ble_eq_true hb;cases hfl:uH (λi=>some (i*r.aO,r.aO)) (nn σ ps.toList) (eB n r.jX) with
     |none=>simp only [hfl] at hg;exact hg.elim
     |some cs=>
      simp only [hfl] at hg;obtain ⟨vals',f1,f2,f3,f4⟩:=KM (w:=w) (g:=g) _ (λi=>some (i*r.aO,r.aO)) (λ_ _ h=>h) (nn σ ps.toList) (ps.map λ(i,x)=>(i,a.eval x)).toList (eB n r.jX) cs
       ((Array.range (n*r.aO)).map (z.cells[· % z.cells.size]!)).toList (by rw [KQ];simp) (λj i x i' v h1 h2=>PU hop j i x i' v h1 h2) (by rw [r8,q5];simp) (λj x v hx hv=>q6 w g j x v hx hv) hfl
      have hrun:(execOp a.eval ⟨dst, .buildSlice t n ps,ty,pos,after,guard⟩).run P w= .ok (.value (.slice (some ⟨w.heap.size,0,none⟩) n n)) (w.alloc (.cells vals'.toArray e)):=by
       have hs:=HJ q1 w;rw [q3] at hs;rw [show ((Array.range (n*r.aO)).map (z.cells[· % z.cells.size]!)).toList.toArray=((Array.range (n*r.aO)).map (z.cells[· % z.cells.size]!)) from rfl] at f1;simp only [execOp,Instr.buildSlice,Sem.run_bind,run_underlying hrow,Result.andThen_ok,hs];rw [if_neg om]
       by_cases h0:n*r.aO=0
       ·have e0:∀ fn:Nat->Value,(Array.range 0).map fn=#[]:=λ_=>by simp
        rw [h0] at f1;simp only [h0,if_true,Sem.run_bind,Sem.run_pure,Result.andThen_ok,e0] at f1 ⊢;rw [f1];simp [newRow]
       ·simp only [if_neg h0,Sem.run_bind,Sem.run_pure,Result.andThen_ok,zeroValue,typeInfo,run_program,q1,q2];rw [f1];simp [newRow]
      have hcl:cs.length=n*r.aO:=by rw [f3,r8,q5]
      cases hp:kZ cs with
      |true=>
       simp only [hp] at hg;cases hch:y9 r.aO n (iB cs) with
       |none=>simp only [hch] at hg;exact hg.elim
       |some els=>
        simp only [hch] at hg;obtain ⟨e1,e2⟩:=hg;subst e1 e2;obtain ⟨c1,c2,c3⟩:=PA _ _ _ _ hch;obtain ⟨g',k1,k2,k3,k4,k5,k6⟩:=h.Ya vals' e (0,0);refine ⟨_,_,_,g',hrun, .inl rfl,?_,k1.iU (λ_ hi=> .inl hi),k2⟩;rw [<-c1];refine .jc (PV (heap_alloc_new w _) (λo _=>k3 o) (Nat.le_refl _) c2 (by simp_all) (λi x u hx hu=>by
         grind [rY,te,KR,tf]) (λi x u hx hu=>?_)) rfl
        rw [<-c3] at hx;obtain ⟨y,hy,rfl⟩:=rY hx;exact (tg (tf hp i y hy) (f4 i y u hy hu)).eO k2.ee
      |false=>
       simp only [hp] at hg;obtain ⟨e1,e2⟩:=hg;subst e1 e2;obtain ⟨k1,k2⟩:=h.Kz hf (t:=e) (cells:=cs) (arr:=vals') f2 f4;exact ⟨_,_,_,_,hrun, .inl rfl, .kH (cf.mJ _ _ _) (λ_=>rfl) rfl (Nat.le_refl _) (λe=>by cases e),k1,k2⟩
  |_=>exact hg.elim
end
section
variable {P:Program} {T:cN} {b:ek P} {σ:az} {D:Nat->Prop} {g:cf} {a:Act} {w:World}
theorem Cx {k:IntKind} {n:Int} {y:Nat} {code:BoundsCode} (h0:0<=n) (h1:n.toNat<=y):(Instr.sliceBound (.int k n) y code).run P w= .ok n.toNat w:=by
 grind [Instr.sliceBound,asIntOf,Sem.run_pure]
theorem Cv {x:Option Operand} {r:Option Int} (h:iq σ x=some r) (hx:∀ y,x=some y->aF w g (aM σ y) (a.eval y)):(r=none/\x=none)\/∃ n y k,r=some n/\x=some y/\a.eval y= .int k n:=by
 cases x with
 |none=>grind [iq]
 |some y=>
  simp only [iq] at h;have:=hx y rfl;cases hv:aM σ y with
  |aa k n=>
   simp only [hv,Option.some.injEq] at h;rw [hv] at this;grind [this.lR]
  |_=>simp [hv] at h
def cS (o:Option Int) (d:Nat):Nat:=match o with|some n=>n.toNat|none=>d
theorem Cy {isS:Bool} {len cap:Nat} (hcap:len<=cap) {lo hi mx:Option Operand} {l h m:Option Int} (hl:iq σ lo=some l) (hh:iq σ hi=some h) (hm:iq σ mx=some m)
  (hop:∀ y,(lo=some y\/hi=some y\/mx=some y)->aF w g (aM σ y) (a.eval y)) (hmh:∀ m',m=some m'->∃ h',h=some h'/\h'<=m'/\m'.toNat<=cap)
  (h1:∀ n,l=some n->0<=n/\n.toNat<=cS h len) (h2:∀ n,h=some n->0<=n/\n.toNat<=len):
  (Instr.sliceBounds isS len cap (lo.map a.eval) (hi.map a.eval) (mx.map a.eval)).run P w= .ok (cS l 0,cS h len,cS m cap) w:=by
 rcases Cv hm (λy hy=>hop y (.inr (.inr hy))) with ⟨rfl,rfl⟩|⟨n3,y3,k3,rfl,rfl,e3⟩
 ·rcases Cv hh (λy hy=>hop y (.inr (.inl hy))) with ⟨rfl,rfl⟩|⟨n2,y2,k2,rfl,rfl,e2⟩
  ·simp only [Instr.sliceBounds,Option.map_none,Sem.run_bind,Sem.run_pure,Result.andThen_ok,Option.isSome_none];rcases Cv hl (λy hy=>hop y (.inl hy)) with ⟨rfl,rfl⟩|⟨n1,y1,k1,rfl,rfl,e1⟩
   ·simp [cS]
   ·have h4:=h1 n1 rfl;simp only [cS] at h4;simp only [Option.map_some,e1,Sem.run_bind];rw [Cx h4.1 h4.2];rfl
  ·have h3:=h2 n2 rfl;simp only [Instr.sliceBounds,Option.map_none,Option.map_some,Sem.run_bind,Sem.run_pure,Result.andThen_ok,Option.isSome_none];rw [e2,Cx h3.1 om];simp only [Result.andThen_ok];rcases Cv hl (λy hy=>hop y (.inl hy)) with ⟨rfl,rfl⟩|⟨n1,y1,k1,rfl,rfl,e1⟩
   ·simp [cS]
   ·have h4:=h1 n1 rfl;simp only [cS] at h4;simp only [Option.map_some,e1,Sem.run_bind];rw [Cx h4.1 h4.2];rfl
 ·obtain ⟨h',e,hle,hmc⟩:=hmh n3 rfl;subst e;rcases Cv hh (λy hy=>hop y (.inr (.inl hy))) with ⟨e,_⟩|⟨n2,y2,k2,e,rfl,e2⟩
  ·cases e
  ·cases e;have h3:=h2 h' rfl;simp only [Instr.sliceBounds,Option.map_some,Sem.run_bind,Option.isSome_some];rw [e3,Cx om om];simp only [Result.andThen_ok];rw [e2,Cx h3.1 om];simp only [Result.andThen_ok];rcases Cv hl (λy hy=>hop y (.inl hy)) with ⟨rfl,rfl⟩|⟨n1,y1,k1,rfl,rfl,e1⟩
   ·simp [cS]
   ·have h4:=h1 n1 rfl;simp only [cS] at h4;simp only [Option.map_some,e1,Sem.run_bind];rw [Cx h4.1 h4.2];rfl
theorem cb.Yd {F:Nat->Nat->Prop} {isNil:Bool} {sz:Nat} {els:List (List ae)} {ad:Option Addr} {n c:Nat} (h:cb w F (.ag isNil sz els .av) (.slice ad n c)) {l k m:Nat} (hl:l<=k) (hk:k<=n) (hm:k<=m):
  cb w F (.ag isNil sz ((els.take k).drop l) .av) (.slice (if m=l then ad else ad.map (·.add (l*sz))) (k - l) (m - l)):=by
 cases h with
 |iK vals hnil hc hsz ha hone h=>
  have hlen:((els.take k).drop l).length=k - l:=by simp;omega
  rw [<-hlen];have hget:∀ (i:Nat) (el:List ae),((els.take k).drop l)[i]? =some el->els[l+i]? =some el/\l+i<k:=by
   grind
  refine .iK (λi j=>vals (l+i) j) ?_ (by rw [hlen];omega) (λel hel=>hsz el (List.mem_of_mem_take (List.mem_of_mem_drop hel))) (λi el j x h1 h2=>?_) (λi el j x h1 h2=>hone (l+i) el j x (hget i el h1).1 h2) (λi el j x h1 h2=>h (l+i) el j x (hget i el h1).1 h2)
  ·grind
  ·obtain ⟨h3,h4⟩:=hget i el h1;obtain ⟨blk,base,e,hf,hcell⟩:=ha (l+i) el j x h3 h2;grind [qW]
theorem xE (hT:dA P T) {t:TypeId} {r:lz} (h:cP T t=some r) (w:World):(sizeOf t).run P w= .ok r.aO w:=by
 grind [lz.pG,HJ]
theorem Px (s:ByteArray) (l h:Nat):(s.extract l h).data.toList=(s.data.toList.take h).drop l:=by
 grind [ByteArray.data_extract,Array.toList_extract,List.drop_take]
theorem Hw {F:Nat->Nat->Prop} {isNil:Bool} {sz sz':Nat} {ad:Option Addr} {n c:Nat} (h:cb w F (.ag isNil sz [] .av) (.slice ad n c)):cb w F (.ag isNil sz' [] .av) (.slice ad n c):=by
 cases h with
 |iK vals hnil hc hsz ha hone h=>exact .iK vals hnil hc (by simp) (λi el j x h=>by simp at h) (λi el j x h=>by simp at h) (λi el j x h=>by simp at h)
theorem YK (hT:dA P T) (h:bh b σ D g w) {t e:TypeId} {n0 b0:Nat} {z0:List ae} (hr:cP T t=some ⟨.dK e,n0,b0,z0⟩) {r:lz} (he:cP T e=some r) {x:Operand} {lo hi mx:Option Operand} {l k m:Option Int}
  (hl:iq σ lo=some l) (hh:iq σ hi=some k) (hm:iq σ mx=some m) {isNil:Bool} {els:List (List ae)} {tk tk':ql} {f:Nat}
  (hx:aF w g (.ag isNil r.aO els tk) (a.eval x)) (hop:∀ y,(lo=some y\/hi=some y\/mx=some y)->aF w g (aM σ y) (a.eval y)) (hmh:∀ m',m=some m'->k=some m')
  (h1:∀ n,l=some n->0<=n/\n.toNat<=cS k els.length) (h2:∀ n,k=some n->0<=n/\n.toNat<=els.length)
  (htk:∀ ad c,els.length<=c->uF w g tk els.length r.aO ad c->uF w g tk' (cS k els.length - cS l 0) r.aO (if cS m c=cS l 0 then ad else ad.map (·.add (cS l 0*r.aO))) (cS m c - cS l 0))
  {dst ty pos after guard}:
  gk P b σ [] f D g a w ⟨dst, .slice t x lo hi mx,ty,pos,after,guard⟩ (.ag isNil r.aO ((els.take (cS k els.length)).drop (cS l 0)) tk'):=by
 obtain ⟨ad,c,e1,e2,e3⟩:=hx.jj;have hc:els.length<=c:=by cases e2;assumption
 have hb:=Cy (P:=P) (isS:=true) hc hl hh hm hop (λm' e=>⟨m',hmh m' e,Int.le_refl _,by grind⟩) h1 h2;have hrow:=(hT t _ hr).1;simp only at hrow;have ht:=htk ad c hc e3;have hsub:=e2.Yd (l:=cS l 0) (k:=cS k els.length) (m:=cS m c) (by
  cases l with
  |none=>exact Nat.zero_le _
  |some n=>exact (h1 n rfl).2) (by
  cases k with
  |none=>exact Nat.le_refl _
  |some n=>exact (h2 n rfl).2) (by
  cases m with
  |none=>cases k with
   |none=>exact hc
   |some n=>grind [cS]
  |some n=>have:=hmh n rfl;subst this;exact Nat.le_refl _)
 refine gk.fq h ?_ (.jc hsub ht);simp only [execOp,Instr.sliceAt,Sem.run_bind,run_underlying hrow,Result.andThen_ok,Instr.slice,e1,hb,xE hT he,Sem.run_pure]
end
section
variable {P:Program} {T:cN} {b:ek P} {σ:az} {D:Nat->Prop} {g:cf} {a:Act} {w:World}
theorem uF.Pv {w:World} {g:cf} {tk:ql} {n sz:Nat} {ad:Option Addr} {c:Nat} (h:uF w g tk n sz ad c):uF w g tk (n - 0) sz (if c=0 then ad else ad.map (·.add (0*sz))) (c - 0):=by
 have e:(if c=0 then ad else ad.map (·.add (0*sz)))=ad:=by
  split
  ·rfl
  ·cases ad with
   |none=>rfl
   |some ad=>simp [Addr.add]
 rw [e];exact h
theorem HL (hT:dA P T) (h:bh b σ D g w) {t:TypeId} {n0 b0:Nat} {z0:List ae} (hr:cP T t=some ⟨.fF,n0,b0,z0⟩) {x:Operand} {lo hi:Option Operand} {l k:Option Int}
  (hl:iq σ lo=some l) (hh:iq σ hi=some k) {s:List UInt8} {f:Nat} (hx:aF w g (.ai s) (a.eval x)) (hop:∀ y,(lo=some y\/hi=some y)->aF w g (aM σ y) (a.eval y))
  (h1:∀ n,l=some n->0<=n/\n.toNat<=cS k s.length) (h2:∀ n,k=some n->0<=n/\n.toNat<=s.length) {dst ty pos after guard}:
  gk P b σ [] f D g a w ⟨dst, .slice t x lo hi none,ty,pos,after,guard⟩ (.ai ((s.take (cS k s.length)).drop (cS l 0))):=by
 obtain ⟨ba,e1,e2⟩:=hx.qV;have hlen:ba.size=s.length:=by rw [<-e2];rfl
 have hb:=Cy (P:=P) (w:=w) (g:=g) (a:=a) (isS:=false) (Nat.le_refl s.length) hl hh (m:=none) (mx:=none) rfl (λy hy=>hop y (by simpa using hy)) (by simp) h1 h2;have hrow:=(hT t _ hr).1;simp only at hrow;refine gk.fq h (val:= .string (ba.extract (cS l 0) (cS k s.length))) ?_ (.bC (.gX (by rw [Px,e2])));simp only [Option.map_none] at hb;simp only [execOp,Instr.sliceAt,Sem.run_bind,run_underlying hrow,Result.andThen_ok,Instr.slice,e1,Option.map_none,Option.isSome_none,hlen,hb,Sem.run_pure,Bool.false_eq_true,if_false]
theorem YL (hT:dA P T) (h:bh b σ D g w) {t e:TypeId} {n0 b0:Nat} {z0:List ae} (hr:cP T t=some ⟨.dK e,n0,b0,z0⟩) {r:lz} (he:cP T e=some r) {x:Operand} {lo hi mx:Option Operand} {l k m:Option Int}
  (hl:iq σ lo=some l) (hh:iq σ hi=some k) (hm:iq σ mx=some m) {id off len:Nat} {full full':Bool} {f:Nat}
  (hx:aF w g (.aL id off r.aO len full) (a.eval x)) (hop:∀ y,(lo=some y\/hi=some y\/mx=some y)->aF w g (aM σ y) (a.eval y)) (hmh:∀ m',m=some m'->∃ h',k=some h'/\h'<=m'/\m'.toNat<=len)
  (h1:∀ n,l=some n->0<=n/\n.toNat<=cS k len) (h2:∀ n,k=some n->0<=n/\n.toNat<=len) (hfull:full'=true->full=true/\l=none/\m=none)
  {dst ty pos after guard}:
  gk P b σ [] f D g a w ⟨dst, .slice t x lo hi mx,ty,pos,after,guard⟩ (.aL id (off+cS l 0*r.aO) r.aO (cS k len - cS l 0) full'):=by
 obtain ⟨c,cap,ad,q1,q2,q3,q4,q5,q6⟩:=hx.mK;have hb:=Cy (P:=P) (isS:=true) q5 hl hh hm hop (λm' e=>let ⟨h',e1,e2,e3⟩:=hmh m' e;⟨h',e1,e2,Nat.le_trans e3 q5⟩) h1 h2;have hrow:=(hT t _ hr).1;simp only at hrow;have hlk:cS l 0<=cS k len:=by
  cases l with
  |none=>exact Nat.zero_le _
  |some n=>exact (h1 n rfl).2
 have hkl:cS k len<=len:=by
  cases k with
  |none=>exact Nat.le_refl _
  |some n=>exact (h2 n rfl).2
 have hkm:cS k len<=cS m cap:=by
  cases m with
  |none=>exact Nat.le_trans hkl q5
  |some n=>obtain ⟨h',rfl,h3,_⟩:=hmh n rfl;show h'.toNat<=n.toNat;omega
 refine gk.fq h (val:= .slice (if cS m cap=cS l 0 then ad else ad.map (·.add (cS l 0*r.aO))) (cS k len - cS l 0) (cS m cap - cS l 0)) ?_ (.kH q1 (λhp=>?_) ?_ om (λhf=>?_))
 ·simp only [execOp,Instr.sliceAt,Sem.run_bind,run_underlying hrow,Result.andThen_ok,Instr.slice,q2,hb,xE hT he,Sem.run_pure]
 ·grind [qW]
 ·grind
 grind [cS,Addr.add]
theorem YI (hT:dA P T) (h:bh b σ D g w) {t e n:Nat} {n0 b0:Nat} {z0:List ae} (hr:cP T t=some ⟨.e7 n e,n0,b0,z0⟩) {r:lz} (he:cP T e=some r) {x:Operand} {lo hi:Option Operand} {l k:Option Int}
  (hl:iq σ lo=some l) (hh:iq σ hi=some k) {id off:Nat} {f:Nat}
  (hx:aF w g (.ar id off) (a.eval x)) (hop:∀ y,(lo=some y\/hi=some y)->aF w g (aM σ y) (a.eval y))
  (h1:∀ m,l=some m->0<=m/\m.toNat<=cS k n) (h2:∀ m,k=some m->0<=m/\m.toNat<=n) {dst ty pos after guard}:
  gk P b σ [] f D g a w ⟨dst, .slice t x lo hi none,ty,pos,after,guard⟩ (.aL id (off+cS l 0*r.aO) r.aO (cS k n - cS l 0) false):=by
 obtain ⟨c,q1,q2⟩:=hx.qU;have hb:=Cy (P:=P) (w:=w) (g:=g) (a:=a) (isS:=false) (Nat.le_refl n) hl hh (m:=none) (mx:=none) rfl (λy hy=>hop y (by simpa using hy)) (by simp) h1 h2;have hrow:=(hT t _ hr).1;simp only at hrow;have hlk:cS l 0<=cS k n:=by
  cases l with
  |none=>exact Nat.zero_le _
  |some m=>exact (h1 m rfl).2
 have hkl:cS k n<=n:=by
  cases k with
  |none=>exact Nat.le_refl _
  |some m=>exact (h2 m rfl).2
 simp only [Option.map_none] at hb;refine gk.fq h (val:= .slice (some (if n=cS l 0 then ⟨c,off,none⟩ else (⟨c,off,none⟩:Addr).add (cS l 0*r.aO))) (cS k n - cS l 0) (n - cS l 0)) ?_ (.kH q1 (λhp=>?_) rfl om (λhf=>by cases hf))
 ·have hbn:cS none n=n:=rfl;simp only [execOp,Instr.sliceAt,Sem.run_bind,run_underlying hrow,Result.andThen_ok,Instr.sureAddr,q2,Option.map_none,hb,hbn,xE hT he,Sem.run_pure]
 grind [qW]
theorem YJ (hT:dA P T) (h:bh b σ D g w) {f:Nat} {t:TypeId} {x:Operand} {lo hi mx:Option Operand} {us:List (aS×bs)} {v:ae} {dst ty pos after guard}
  (hg:(qZ σ T t (aM σ x) (iq σ lo) (iq σ hi) (iq σ mx)).fV v us) (hx:aF w g (aM σ x) (a.eval x)) (hop:∀ y,(lo=some y\/hi=some y\/mx=some y)->aF w g (aM σ y) (a.eval y)):
  gk P b σ us f D g a w ⟨dst, .slice t x lo hi mx,ty,pos,after,guard⟩ v:=by
 have hno:∀ {m:Option Int},m=none->iq σ mx=some m->mx=none:=λe1 e2=>by
  subst e1;cases mx with
  |none=>rfl
  |some y=>grind [iq]
 generalize hX:aM σ x=X at hg hx;cases hl:iq σ lo with
 |none=>rw [hl] at hg;unfold qZ at hg;cases X<;>exact hg.elim
 |some l=>
 cases hk:iq σ hi with
 |none=>rw [hl,hk] at hg;unfold qZ at hg;cases X<;>exact hg.elim
 |some k=>
 cases hm:iq σ mx with
 |none=>rw [hl,hk,hm] at hg;unfold qZ at hg;cases X<;>(try exact hg.elim)<;>(cases k<;>exact hg.elim)
 |some m=>
 rw [hl,hk,hm] at hg;cases X with
 |ai s=>
  cases m with
  |some m=>exact hg.elim
  |none=>
   have e:=hno rfl hm;subst e;simp only [qZ,cY] at hg;cases hr:cP T t with
   |none=>simp only [hr] at hg;exact hg.elim
   |some r=>
    obtain ⟨ti,n0,b0,z0⟩:=r;simp only [hr] at hg;cases ti with
    |fF=>
     simp only at hg;have hop':∀ y,(lo=some y\/hi=some y)->aF w g (aM σ y) (a.eval y):=λy hy=>hop y (by simp_all)
     cases l with
     |none=>cases k with
      |none=>
       obtain ⟨e1,e2⟩:=hg;subst e1 e2;have:=HL (f:=f) hT h hr hl hk hx hop' (by simp) (by simp) (dst:=dst) (ty:=ty) (pos:=pos) (after:=after) (guard:=guard);grind [cS]
      |some k=>
       obtain ⟨⟨h1,h2⟩,e1,e2⟩:=hg;subst e1 e2;have:=HL (f:=f) hT h hr hl hk hx hop' (by simp) (λn hn=>by simp_all) (dst:=dst) (ty:=ty) (pos:=pos) (after:=after) (guard:=guard);trivial
     |some l=>cases k with
      |none=>
       obtain ⟨⟨h1,h2⟩,e1,e2⟩:=hg;subst e1 e2;have:=HL (f:=f) hT h hr hl hk hx hop' (λn hn=>by cases hn;exact ⟨h1,h2⟩) (by simp) (dst:=dst) (ty:=ty) (pos:=pos) (after:=after) (guard:=guard);grind [cS]
      |some k=>
       obtain ⟨⟨h1,h2,h3⟩,e1,e2⟩:=hg;subst e1 e2;exact HL (f:=f) hT h hr hl hk hx hop' (λn hn=>by grind [cS]) (λn hn=>by cases hn;omega) (dst:=dst) (ty:=ty) (pos:=pos) (after:=after) (guard:=guard)
    |_=>exact hg.elim
 |ag isNil sz els tk=>
  simp only [qZ,cY] at hg;cases hr:cP T t with
  |none=>simp only [hr] at hg;exact hg.elim
  |some r=>
   obtain ⟨ti,n0,b0,z0⟩:=r;simp only [hr] at hg;cases ti with
   |dK e=>
    simp only at hg;cases he:cP T e with
    |none=>simp only [he] at hg;exact hg.elim
    |some r=>
     simp only [he] at hg;have key:∀ (els:List (List ae)) (tk:ql),aF w g (.ag isNil r.aO els tk) (a.eval x)->(KS isNil r.aO tk l k m els).fV v us->gk P b σ us f D g a w ⟨dst, .slice t x lo hi mx,ty,pos,after,guard⟩ v:=by
      intro els tk hx hg;have hs:= @YK P T b σ D g a w hT h t e n0 b0 z0 hr r he x lo hi mx l k m hl hk hm isNil els tk;cases l with
      |none=>cases k with
       |none=>cases m with
        |none=>
         obtain ⟨e1,e2⟩:=hg;subst e1 e2;have:=hs (tk':=tk) (f:=f) hx hop (by simp) (by simp) (by simp) (λad c hc ht=>by grind [cS,ht.Pv]) (dst:=dst) (ty:=ty) (pos:=pos) (after:=after) (guard:=guard);grind [cS]
        |some m=>exact hg.elim
       |some k=>cases m with
        |none=>
         obtain ⟨⟨h1,h2⟩,e1,e2⟩:=hg;subst e1 e2;have:=hs (tk':=P1 tk) (f:=f) hx hop (by simp) (by simp) (λn hn=>by simp_all) (λad c hc ht=>by
          simp only [cS];cases tk with
          |av=>trivial
          |bR=>trivial
          |cO id=>trivial
          |dB id=>
           obtain ⟨bk,N,t1,t2,t3⟩:=ht;have:uF w g (.dB id) (k.toNat - 0) r.aO (if c=0 then ad else ad.map (·.add (0*r.aO))) (c - 0):=by
            refine uF.Pv ⟨bk,N,t1,om,λe=>?_⟩;grind
           exact this) (dst:=dst) (ty:=ty) (pos:=pos) (after:=after) (guard:=guard)
         trivial
        |some m=>
         obtain ⟨⟨h1,h2,h3⟩,e1,e2⟩:=hg;subst e1 e2 h3;have:=hs (tk':= .bR) (f:=f) hx hop (by simp) (by simp) (λn hn=>by simp_all) (λad c hc ht=>rfl) (dst:=dst) (ty:=ty) (pos:=pos) (after:=after) (guard:=guard);trivial
      |some l=>cases k with
       |none=>cases m with
        |none=>
         obtain ⟨⟨h1,h2⟩,e1,e2⟩:=hg;subst e1 e2;have:=hs (tk':=AH tk) (f:=f) hx hop (by simp) (λn hn=>by cases hn;exact ⟨h1,h2⟩) (by simp) (λad c hc ht=>by
          cases tk with
          |av=>trivial
          |dB id=>trivial
          |cO id=>trivial
          |bR=>
           have e:c=els.length:=ht;show cS none c - cS (some l) 0=cS none els.length - cS (some l) 0;rw [e]) (dst:=dst) (ty:=ty) (pos:=pos) (after:=after) (guard:=guard)
         grind [cS]
        |some m=>exact hg.elim
       |some k=>cases m with
        |none=>
         obtain ⟨⟨h1,h2,h3⟩,e1,e2⟩:=hg;subst e1 e2;exact hs (tk':= .av) (f:=f) hx hop (by simp) (λn hn=>by grind [cS]) (λn hn=>by cases hn;omega) (λad c hc ht=>trivial)
        |some m=>
         obtain ⟨⟨h1,h2,h3,h4⟩,e1,e2⟩:=hg;subst e1 e2 h4;exact hs (tk':= .bR) (f:=f) hx hop (by simp) (λn hn=>by grind [cS]) (λn hn=>by cases hn;omega) (λad c hc ht=>rfl)
     cases hb:Nat.beq sz r.aO with
     |true=>
      simp only [hb] at hg;have e:sz=r.aO:=Nat.eq_of_beq_eq_true hb;grind
     |false=>
      simp only [hb] at hg;obtain ⟨e,hg⟩:=hg;subst e;obtain ⟨ad,c,e1,e2,e3⟩:=hx.jj;refine key [] (AH tk) ?_ hg;rw [e1];refine .jc (Hw e2) ?_;cases tk with
      |av=>trivial
      |bR=>exact e3
      |dB id=>trivial
      |cO id=>trivial
   |_=>exact hg.elim
 |aL id off sz len full=>
  cases hr:cP T t with
  |none=>simp only [qZ,cY,hr] at hg;cases m<;>(try exact hg.elim)<;>(cases k<;>exact hg.elim)
  |some r=>
   obtain ⟨ti,n0,b0,z0⟩:=r;cases ti with
   |dK e=>
    cases he:cP T e with
    |none=>simp only [qZ,cY,hr,he] at hg;cases m<;>(try exact hg.elim)<;>(cases k<;>exact hg.elim)
    |some r=>
     cases hb:Nat.beq sz r.aO with
     |false=>cases m<;>cases k<;>simp only [qZ,cY,hr,he,hb] at hg<;>exact hg.elim
     |true=>
      have e0:sz=r.aO:=Nat.eq_of_beq_eq_true hb;subst e0;have hs:=λfull'=> @YL P T b σ D g a w hT h t e n0 b0 z0 hr r he x lo hi mx l k m hl hk hm id off len full full' f hx hop
      cases m with
      |none=>
       simp only [qZ,cY,hr,he,hb] at hg;cases l with
       |none=>cases k with
        |none=>
         obtain ⟨e1,e2⟩:=hg;subst e1 e2;have:=hs full (by simp) (by simp) (by simp) (λhf=>⟨hf,rfl,rfl⟩) (dst:=dst) (ty:=ty) (pos:=pos) (after:=after) (guard:=guard);grind [cS]
        |some k=>
         obtain ⟨⟨h1,h2⟩,e1,e2⟩:=hg;subst e1 e2;have:=hs full (by simp) (by simp) (λn hn=>by simp_all) (λhf=>⟨hf,rfl,rfl⟩) (dst:=dst) (ty:=ty) (pos:=pos) (after:=after) (guard:=guard);grind [cS]
       |some l=>cases k with
        |none=>
         obtain ⟨⟨h1,h2⟩,e1,e2⟩:=hg;subst e1 e2;exact hs false (by simp) (λn hn=>by cases hn;exact ⟨h1,h2⟩) (by simp) (by simp)
        |some k=>
         obtain ⟨⟨h1,h2,h3⟩,e1,e2⟩:=hg;subst e1 e2;exact hs false (by simp) (λn hn=>by grind [cS]) (λn hn=>by cases hn;omega) (by simp)
      |some m=>
       cases k with
       |none=>exact hg.elim
       |some k=>
        simp only [qZ,cY,hr,he,hb] at hg;cases l with
        |none=>
         obtain ⟨⟨h1,h2,h3,h4⟩,e1,e2⟩:=hg;subst e1 e2;have:=hs false (λm' hm'=>by simp_all) (by simp) (λn hn=>by simp_all) (by simp) (dst:=dst) (ty:=ty) (pos:=pos) (after:=after) (guard:=guard);grind [cS]
        |some l=>
         obtain ⟨⟨h1,h2,h3,h4,h5⟩,e1,e2⟩:=hg;subst e1 e2;exact hs false (λm' hm'=>by simp_all) (λn hn=>by grind [cS]) (λn hn=>by cases hn;omega) (by simp)
   |_=>simp only [qZ,cY,hr] at hg;cases m<;>(try exact hg.elim)<;>(cases k<;>exact hg.elim)
 |ar id off=>
  cases m with
  |some m=>exact hg.elim
  |none=>
   have e:=hno rfl hm;subst e;simp only [qZ,cY] at hg;cases hr:cP T t with
   |none=>simp only [hr] at hg;exact hg.elim
   |some r=>
    obtain ⟨ti,n0,b0,z0⟩:=r;simp only [hr] at hg;cases ti with
    |e7 n e=>
     simp only at hg;cases he:cP T e with
     |none=>simp only [he] at hg;exact hg.elim
     |some r=>
      simp only [he] at hg;have hop':∀ y,(lo=some y\/hi=some y)->aF w g (aM σ y) (a.eval y):=λy hy=>hop y (by simp_all)
      have hs:= @YI P T b σ D g a w hT h t e n n0 b0 z0 hr r he x lo hi l k hl hk id off f hx hop';cases l with
      |none=>cases k with
       |none=>
        obtain ⟨e1,e2⟩:=hg;subst e1 e2;have:=hs (by simp) (by simp) (dst:=dst) (ty:=ty) (pos:=pos) (after:=after) (guard:=guard);grind [cS]
       |some k=>
        obtain ⟨⟨h1,h2⟩,e1,e2⟩:=hg;subst e1 e2;have:=hs (by simp) (λn hn=>by simp_all) (dst:=dst) (ty:=ty) (pos:=pos) (after:=after) (guard:=guard);grind [cS]
      |some l=>cases k with
       |none=>
        obtain ⟨⟨h1,h2⟩,e1,e2⟩:=hg;subst e1 e2;exact hs (λn hn=>by cases hn;exact ⟨h1,h2⟩) (by simp)
       |some k=>
        obtain ⟨⟨h1,h2,h3⟩,e1,e2⟩:=hg;subst e1 e2;exact hs (λn hn=>by grind [cS]) (λn hn=>by cases hn;omega)
    |_=>exact hg.elim
 |_=>exact hg.elim
end
section
variable {P:Program} {T:cN} {b:ek P} {σ:az} {D:Nat->Prop} {g:cf} {a:Act} {w:World}
theorem YQ {x y:ByteArray} {a b:List UInt8} (hx:x.data.toList=a) (hy:y.data.toList=b):(x.toList==y.toList)=decide (a=b):=by
 grind [Lib.toList_data]
theorem YM {op:BinOp} {k:IntKind} {x y:Int} {v:ae} {us:List (aS×bs)} {t:TypeId} (hs:Hy op=false) (hg:(CD op k x y).fV v us):us=[]/\∃ val,(binOp op t (.int k x) (.int k y)).run P w= .ok val w/\aF w g v val:=by
 cases op<;>simp only [CD] at hg<;>(try (cases hs;done))<;>(try exact hg.elim)
 case quo=>
  cases hy:y==0 with
  |true=>simp only [hy] at hg;exact hg.elim
  |false=>
   simp only [hy] at hg;obtain ⟨e1,e2⟩:=hg;subst e1;have hne:y≠0:=by simpa using hy
   exact ⟨e2,_,by simp [binOp,Op.intDiv,hne], .bC (.fK _ _)⟩
 case rem=>
  cases hy:y==0 with
  |true=>simp only [hy] at hg;exact hg.elim
  |false=>
   simp only [hy] at hg;obtain ⟨e1,e2⟩:=hg;subst e1;have hne:y≠0:=by simpa using hy
   exact ⟨e2,_,by simp [binOp,Op.intDiv,hne], .bC (.fK _ _)⟩
 all_goals
  obtain ⟨e1,e2⟩:=hg;subst e1;refine ⟨e2,?_⟩
  first
   |exact ⟨_,by simp only [binOp,ne_eq,not_true_eq_false,if_false,Op.intArith];rfl, .bC (.fK _ _)⟩
   |exact ⟨_,by simp only [binOp,ne_eq,not_true_eq_false,if_false];rfl, .bC (.fK _ _)⟩
   |exact ⟨_,by simp only [binOp,ne_eq,not_true_eq_false,if_false,Op.intCmp];rfl, .bC (.nh _)⟩
theorem YN {op:BinOp} {k j:IntKind} {x y:Int} {v:ae} {us:List (aS×bs)} {t:TypeId} (hs:Hy op=true) (hg:(CD op k x y).fV v us):us=[]/\∃ val,(binOp op t (.int k x) (.int j y)).run P w= .ok val w/\aF w g v val:=by
 cases op<;>simp only [CD] at hg<;>(try (cases hs;done))
 all_goals
  obtain ⟨h0,e1,e2⟩:=hg;subst e1;refine ⟨e2,_,?_, .bC (.fK _ _)⟩;have hn:¬y<0:=om;simp only [binOp,Op.shift,if_neg hn];rfl
theorem YO {op:BinOp} {x y:ByteArray} {p q:List UInt8} (hx:x.data.toList=p) (hy:y.data.toList=q) {v:ae} {us:List (aS×bs)} {t:TypeId} (hg:(EZ op (.ai p) (.ai q)).fV v us):
  us=[]/\∃ val,(binOp op t (.string x) (.string y)).run P w= .ok val w/\aF w g v val:=by
 have heq:=YQ hx hy;have hlx:x.size=p.length:=by rw [<-hx];rfl
 have hly:y.size=q.length:=by rw [<-hy];rfl
 have hbl:Op.bytesLess x.toList y.toList=Op.bytesLess p q:=by grind [Lib.toList_data]
 cases op<;>simp only [EZ] at hg<;>(try exact hg.elim)
 case add=>
  obtain ⟨h0,e1,e2⟩:=hg;subst e1;refine ⟨e2, .string (x++y),?_, .bC (.gX ?_)⟩
  ·have hn:¬(((x.size+y.size:Nat):Int)>IntKind.i64.max):=by
    rw [hlx,hly];have:IntKind.i64.max=9223372036854775807:=rfl;rw [this];omega
   simp only [binOp,Op.stringOp,if_neg hn];rfl
  simp_all
 all_goals
  obtain ⟨e1,e2⟩:=hg;subst e1;refine ⟨e2,_,?_, .bC (.nh _)⟩;simp only [binOp,Op.stringOp,heq,hbl];rfl
theorem YG {op:BinOp} {t:TypeId} {x y:Operand} {k j:IntKind} {p q:Int}:(eqGuard op t x y (.int k p) (.int j q)).run P w= .ok () w:=by
 unfold eqGuard;cases op<;>simp
theorem YH {op:BinOp} {t:TypeId} {x y:Operand} {p q:ByteArray}:(eqGuard op t x y (.string p) (.string q)).run P w= .ok () w:=by
 unfold eqGuard;cases op<;>simp
theorem xD (h:bh b σ D g w) {f:Nat} {o:Oper} {v:ae} {us:List (aS×bs)} (hop:∀ x∈o.op.operands,aF w g (aM σ x) (a.eval x)) (hg:(jW.mL ae λv=> .dJ (qk P σ o v) (.bP v [])).fV v us):gk P b σ us f D g a w o v:=by
 obtain ⟨v',h1,e1,e2⟩:=hg;subst e1 e2;obtain ⟨val,h2,h3⟩:=h1 g a w hop;exact gk.fq h h2 h3
theorem tc {t:TypeId} {u v:Value} {r:Bool} (h:∀ d:Nat,(Op.equalIn (d+1) t u v).run P w= .ok r w):(Op.equal t u v).run P w= .ok r w:=by
 grind [Op.equal,Op.maxDepth]
def YC:Value->Value->Bool
 | .nilIface, .nilIface=>false
 | .agg _,_=>false
 | .int _ _,_=>false
 | .float _ _,_=>false
 | .complex _ _ _,_=>false
 | .string _,_=>false
 |_,_=>true
theorem YA (hT:dA P T) {t:TypeId} {x y:ae} {u v:Value} {r:Bool} (hx:aF w g x u) (hy:aF w g y v) (h:KO T t x y=some r):(Op.equal t u v).run P w= .ok r w/\
  (∀ (op:BinOp) (xo yo:Operand),(eqGuard op t xo yo u v).run P w= .ok () w)/\(binOp .eql t u v).run P w= .ok (.bool r) w/\(binOp .neq t u v).run P w= .ok (.bool (!r)) w:=by
 have fin:∀ {u v:Value} {r:Bool},(Op.equal t u v).run P w= .ok r w->YC u v=true->(Op.equal t u v).run P w= .ok r w/\
   (∀ (op:BinOp) (xo yo:Operand),(eqGuard op t xo yo u v).run P w= .ok () w)/\(binOp .eql t u v).run P w= .ok (.bool r) w/\(binOp .neq t u v).run P w= .ok (.bool (!r)) w:=by
  intro u v r h1 h2;refine ⟨h1,λop xo yo=>?_,?_,?_⟩
  ·unfold eqGuard;cases u<;>(try (cases h2;done))<;>cases v<;>(try (cases h2;done))<;>cases op<;>simp
  ·cases u<;>(try (cases h2;done))<;>simp [binOp,h1]
  ·cases u<;>(try (cases h2;done))<;>simp [binOp,h1]
 unfold KO at h;cases hr:cY T t with
 |none=>simp [hr] at h
 |some row=>
  have hrow:=(hT t _ hr).1;obtain ⟨ti,n0,b0,z0⟩:=row;simp only [hr] at h;cases ti with
  |dK e=>
   simp only at h hrow;have cell:∀ {n:Bool} {sz:Nat} {els:List (List ae)} {tk:ql} {z:Value},aF w g (.ag n sz els tk) z->∃ ad c,z= .slice ad els.length c/\n=ad.isNone:=by
    intro n sz els tk z hz;obtain ⟨ad,c,rfl,hp,_⟩:=hz.jj;cases hp with|iK vals hnil _ _ _ _ _=>simp_all
   cases x with
   |ag n1 s1 e1 t1=>
    obtain ⟨a1,c1,rfl,q1⟩:=cell hx;cases y with
    |ag n2 s2 e2 t2=>
     obtain ⟨a2,c2,rfl,q2⟩:=cell hy;cases a1 with
     |none=>
      simp only [Option.isNone_none] at q1;subst q1;have e:r=a2.isNone:=by grind
      subst e;exact fin (tc λd=>by rw [Op.equalIn];simp [run_underlying hrow]) rfl
     |some a1=>
      simp only [Option.isNone_some] at q1;subst q1;cases n2 with
      |false=>simp at h
      |true=>
       simp at h;subst h;have e:a2=none:=Option.isNone_iff_eq_none.1 q2.symm;subst e;exact fin (tc λd=>by rw [Op.equalIn];simp [run_underlying hrow]) rfl
    |_=>trivial
   |aL k off sz len full=>
    cases y with
    |ag n2 s2 e2 t2=>
     obtain ⟨a2,c2,rfl,q2⟩:=cell hy;obtain ⟨c,cap,ad,_,rfl,_,q4,_⟩:=hx.mK;cases n2 with
     |false=>simp at h
     |true=>
      simp at h;subst h;obtain ⟨ad,rfl⟩:=Option.isSome_iff_exists.1 q4;have:a2=none:=Option.isNone_iff_eq_none.1 q2.symm;subst this;exact fin (tc λd=>by rw [Op.equalIn];simp [run_underlying hrow]) rfl
    |_=>simp at h
   |_=>cases y<;>simp at h
  |fB=>
   simp only at h hrow;obtain ⟨ms,hrow⟩:=hrow;cases x with
   |cm tx vx=>
    cases y with
    |cq=>
     simp at h;subst h;obtain ⟨z,rfl,_⟩:=hx.Ay;obtain rfl:=hy.Cp;exact fin (tc λd=>by rw [Op.equalIn];simp [run_underlying hrow]) rfl
    |_=>simp at h
   |cq=>
    cases y with
    |cm tx vx=>
     simp at h;subst h;obtain ⟨z,rfl,_⟩:=hy.Ay;obtain rfl:=hx.Cp;exact fin (tc λd=>by rw [Op.equalIn];simp [run_underlying hrow]) rfl
    |_=>simp at h
   |_=>simp at h
  |ij=>
   simp only at h hrow;cases h1:nV x with
   |none=>simp [h1] at h
   |some p=>
    cases h2:nV y with
    |none=>simp [h1,h2] at h
    |some q=>
     simp only [h1,h2,Option.some.injEq] at h;subst h;obtain rfl:=Cs hx h1;obtain rfl:=Cs hy h2;exact fin (tc λd=>run_equalIn_bool' w d t p q hrow) rfl
  |e8 e=>
   simp only at h hrow;cases y with
   |bU=>
    obtain rfl:=hy.Ho;cases x with
    |bU=>simp at h;subst h;obtain rfl:=hx.Ho;exact fin (tc λd=>by rw [Op.equalIn];simp [run_underlying hrow]) rfl
    |ar k off=>simp at h;subst h;obtain ⟨c,_,rfl⟩:=hx.qU;exact fin (tc λd=>by rw [Op.equalIn];simp [run_underlying hrow]) rfl
    |cB cs off=>simp at h;subst h;obtain ⟨c,d,_,rfl,_⟩:=hx.Co;exact fin (tc λd=>by rw [Op.equalIn];simp [run_underlying hrow]) rfl
    |_=>simp at h
   |_=>cases x<;>simp at h
  |il=>
   simp only at h hrow;obtain ⟨q1,q2,q3,hrow⟩:=hrow;cases y with
   |cA=>
    obtain rfl:=hy.KC;cases x with
    |cA=>simp at h;subst h;obtain rfl:=hx.KC;exact fin (tc λd=>by rw [Op.equalIn];simp [run_underlying hrow]) rfl
    |aP f fs cs=>simp at h;subst h;obtain ⟨vs,us,rfl,_⟩:=hx.y7;exact fin (tc λd=>by rw [Op.equalIn];simp [run_underlying hrow]) rfl
    |_=>simp at h
   |_=>cases x<;>simp at h
  |_=>simp at h
theorem Yl (hT:dA P T) (h:bh b σ D g w) {f:Nat} {op:BinOp} {t ty':TypeId} {x y:Operand} {us:List (aS×bs)} {v:ae} {dst ty pos after guard}
  (hg:(df P T σ f ⟨dst, .binOp op t x y ty',ty,pos,after,guard⟩).fV v us) (hop:∀ z∈(Op.binOp op t x y ty').operands,aF w g (aM σ z) (a.eval z)):gk P b σ us f D g a w ⟨dst, .binOp op t x y ty',ty,pos,after,guard⟩ v:=by
 have hx:=hop x (by simp [Op.operands]);have hy:=hop y (by simp [Op.operands]);simp only [df] at hg;have fin:∀ {xv yv:Value},a.eval x=xv->a.eval y=yv->(eqGuard op t x y xv yv).run P w= .ok () w->(us=[]/\∃ val,(binOp op t xv yv).run P w= .ok val w/\aF w g v val)->gk P b σ us f D g a w ⟨dst, .binOp op t x y ty',ty,pos,after,guard⟩ v:=by
  intro xv yv e1 e2 h1 h2;obtain ⟨e3,val,h3,h4⟩:=h2;subst e3;refine gk.fq h ?_ h4;simp only [execOp,e1,e2,Sem.run_bind,h1,Result.andThen_ok,h3,Sem.run_pure]
 have nils:(match op,Ht T t (HI (AE x) (AE y)) (aM σ x) (aM σ y) with
   | .eql,some b=>jW.bP (.aE b) []
   | .neq,some b=>jW.bP (.aE (!b)) []
   |_,_=>jW.mL ae λv=> .dJ (qk P σ ⟨dst, .binOp op t x y ty',ty,pos,after,guard⟩ v) (.bP v [])).fV v us->gk P b σ us f D g a w ⟨dst, .binOp op t x y ty',ty,pos,after,guard⟩ v:=by
  intro hg;cases hb:Ht T t (HI (AE x) (AE y)) (aM σ x) (aM σ y) with
  |none=>
   simp only [hb] at hg;cases op<;>exact xD h hop hg
  |some r=>
   simp only [hb] at hg;have two:(∀ xv yv,a.eval x=xv->a.eval y=yv->(eqGuard op t x y xv yv).run P w= .ok () w/\(binOp .eql t xv yv).run P w= .ok (.bool r) w/\(binOp .neq t xv yv).run P w= .ok (.bool (!r)) w)->gk P b σ us f D g a w ⟨dst, .binOp op t x y ty',ty,pos,after,guard⟩ v:=by
    intro hh;obtain ⟨h1,h2,h3⟩:=hh _ _ rfl rfl;cases op<;>first
     |exact xD h hop hg
     |(obtain ⟨e1,e2⟩:=hg;subst e1 e2;exact fin rfl rfl h1 ⟨rfl,_,h2, .bC (.nh _)⟩)
     |(obtain ⟨e1,e2⟩:=hg;subst e1 e2;exact fin rfl rfl h1 ⟨rfl,_,h3, .bC (.nh _)⟩)
   unfold Ht at hb;split at hb
   ·rename_i hc hX hY;rw [hX] at hx;rw [hY] at hy;cases hr:cY T t with
    |none=>simp [hr] at hb
    |some row=>
     have hrow:=(hT t _ hr).1;obtain ⟨ti,n0,b0,z0⟩:=row;simp only [hr] at hb hrow;cases ti<;>simp only [Option.some.injEq,reduceCtorEq] at hb
     subst hb;obtain ⟨ms,hrow⟩:=hrow;refine two λxv yv e1 e2=>?_
     rw [hx.Cp] at e1;rw [hy.Cp] at e2;subst e1 e2;have he:(Op.equal t .nilIface .nilIface).run P w= .ok true w:=tc λd=>by rw [Op.equalIn];simp [run_underlying hrow]
     refine ⟨?_,by simp [binOp,he],by simp [binOp,he]⟩;have hcc:(match x with| .const _=>true|_=>false)=true\/(match y with| .const _=>true|_=>false)=true:=by
      cases x<;>first|exact .inl rfl|(cases y<;>first|exact .inr rfl|(simp [AE,HI] at hc))
     unfold eqGuard;rcases hcc with hcc|hcc
     ·cases x<;>first|(cases op<;>simp;done)|cases hcc
     ·cases y<;>first|(cases op<;>simp;done)|cases hcc
   ·refine two λxv yv e1 e2=>?_
    subst e1 e2;obtain ⟨_,q2,q3,q4⟩:=YA hT hx hy hb;exact ⟨q2 _ _ _,q3,q4⟩
 cases hX:aM σ x with
 |aa k p=>
  cases hY:aM σ y with
  |aa j q=>
   simp only [hX,hY,EZ] at hg;rw [hX] at hx;rw [hY] at hy;refine fin hx.lR hy.lR YG ?_;cases hs:Hy op with
   |true=>simp only [hs] at hg;exact YN hs hg
   |false=>
    simp only [hs] at hg;cases hk:r7 k j with
    |false=>simp only [hk] at hg;exact hg.elim
    |true=>
     simp only [hk] at hg;have e:=Hz hk;subst e;exact YM hs hg
  |_=>exact nils (by simp only [hX,hY] at hg ⊢;exact hg)
 |ai p=>
  cases hY:aM σ y with
  |ai q=>
   simp only [hX,hY] at hg;rw [hX] at hx;rw [hY] at hy;obtain ⟨bx,ex,hbx⟩:=hx.qV;obtain ⟨by',ey,hby⟩:=hy.qV;exact fin ex ey YH (YO hbx hby hg)
  |_=>exact nils (by simp only [hX,hY] at hg ⊢;exact hg)
 |aK cs=>
  cases hY:aM σ y with
  |aK ds=>
   simp only [hX,hY] at hg;cases hc:ta cs ds with
   |none=>simp only [hc] at hg;cases op<;>exact xD h hop hg
   |some r=>
    simp only [hc] at hg;rw [hX] at hx;rw [hY] at hy;obtain ⟨xs,ex,lx,rx⟩:=hx.Cn;obtain ⟨ys,ey,ly,ry⟩:=hy.Cn;have both:EU P t (vX cs)=true->(eqGuard op t x y (.agg xs.toArray) (.agg ys.toArray)).run P w= .ok () w/\(binOp .eql t (.agg xs.toArray) (.agg ys.toArray)).run P w= .ok (.bool r) w/\
      (binOp .neq t (.agg xs.toArray) (.agg ys.toArray)).run P w= .ok (.bool (!r)) w:=λhk=>by
     obtain ⟨h1,h2⟩:=Yh lx ly rx ry hc hk;exact ⟨run_eqGuard_agg w op t x y _ _ h1,by rw [run_eql_struct,h2];rfl,by rw [run_neq_struct,h2];rfl⟩
    cases op<;>first
     |exact xD h hop hg
     |(obtain ⟨hk,e1,e2⟩:=hg;subst e1 e2;obtain ⟨h1,h2,h3⟩:=both hk;exact fin ex ey h1 ⟨rfl,_,h2, .bC (.nh _)⟩)
     |(obtain ⟨hk,e1,e2⟩:=hg;subst e1 e2;obtain ⟨h1,h2,h3⟩:=both hk;exact fin ex ey h1 ⟨rfl,_,h3, .bC (.nh _)⟩)
  |_=>exact nils (by simp only [hX,hY] at hg ⊢;exact hg)
 |_=>exact nils (by simp only [hX] at hg ⊢;exact hg)
theorem Ys (hT:dA P T) (h:bh b σ D g w) {f:Nat} {s:TypeId} {x:Operand} {i:Nat} {us:List (aS×bs)} {v:ae} {dst ty pos after guard}
  (hg:(df P T σ f ⟨dst, .fieldAddr s x i,ty,pos,after,guard⟩).fV v us) (hx:aF w g (aM σ x) (a.eval x)):gk P b σ us f D g a w ⟨dst, .fieldAddr s x i,ty,pos,after,guard⟩ v:=by
 simp only [df,cY] at hg;cases hr:cP T s with
 |none=>simp only [hr] at hg;exact hg.elim
 |some r=>
  have hrow:=(hT s _ hr).1;obtain ⟨ti,n0,b0,z0⟩:=r;simp only [hr] at hg hrow;cases ti with
  |bO fs=>
   simp only at hg hrow;obtain ⟨fields,places,hu,hfs,hpl⟩:=hrow;cases hn:lS fs i with
   |none=>simp only [hn] at hg;exact hg.elim
   |some q=>
    obtain ⟨off,ft⟩:=q;simp only [hn] at hg;cases hft:cP T ft with
    |none=>simp only [hft] at hg;exact hg.elim
    |some r=>
     simp only [hft] at hg;cases hz:r.aO with
     |zero=>simp only [hz] at hg;exact hg.elim
     |succ m=>
      simp only [hz] at hg;rw [td,<-hfs,List.getElem?_map] at hn;cases hfi:fields.toList[i]? with
      |none=>simp [hfi] at hn
      |some fd=>
       simp only [hfi,Option.map_some,Option.some.injEq,Prod.mk.injEq] at hn;obtain ⟨rfl,rfl⟩:=hn;have hfi':fields[i]? =some fd:=by simpa using hfi
       have hsz:=xE hT hft w;have run:∀ (k o:Nat),(Instr.fieldAt s (.pointer (some ⟨k,o,none⟩)) i).run P w= .ok (.pointer (some ⟨k,o+fd.offset,none⟩)) w:=by
        intro k o;simp only [Instr.fieldAt,Sem.run_bind,run_underlying hu,Result.andThen_ok,hfi',Instr.sureAddr,fieldPlace,hsz,hz,Sem.run_pure];grind [Sem.run_pure,Result.andThen_ok,qW]
       cases hX:aM σ x with
       |ar id o=>
        simp only [hX] at hg;obtain ⟨e1,e2⟩:=hg;subst e1 e2;rw [hX] at hx;obtain ⟨c,q1,q2⟩:=hx.qU;refine gk.fq h (val:= .pointer (some ⟨c,o+fd.offset,none⟩)) ?_ (.ni q1);grind [execOp,Sem.run_bind,Result.andThen_ok,Sem.run_pure]
       |cB cs o=>
        simp only [hX] at hg;obtain ⟨e1,e2⟩:=hg;subst e1 e2;rw [hX] at hx;obtain ⟨blk,base,vals,q2,q3,q4⟩:=hx.Co;refine gk.fq h (val:= .pointer (some ⟨blk,base+(o+fd.offset),none⟩)) ?_ (.qT vals q3 q4);grind [execOp,Sem.run_bind,Result.andThen_ok,Sem.run_pure]
       |_=>simp only [hX] at hg;exact hg.elim
  |_=>exact hg.elim
theorem Yt (hT:dA P T) (h:bh b σ D g w) {f:Nat} {s:TypeId} {x:Operand} {i:Nat} {us:List (aS×bs)} {v:ae} {dst ty pos after guard}
  (hg:(df P T σ f ⟨dst, .field s x i,ty,pos,after,guard⟩).fV v us) (hx:aF w g (aM σ x) (a.eval x)):gk P b σ us f D g a w ⟨dst, .field s x i,ty,pos,after,guard⟩ v:=by
 simp only [df,cY] at hg;cases hr:cP T s with
 |none=>simp only [hr] at hg;exact hg.elim
 |some r=>
  have hrow:=(hT s _ hr).1;obtain ⟨ti,n0,b0,z0⟩:=r;simp only [hr] at hg hrow;cases ti with
  |bO fs=>
   simp only at hg hrow;obtain ⟨fields,places,hu,hfs,hpl⟩:=hrow;cases hn:lS fs i with
   |none=>simp only [hn] at hg;exact hg.elim
   |some q=>
    obtain ⟨off,ft⟩:=q;simp only [hn] at hg;cases hft:uJ T ft with
    |none=>simp only [hft] at hg;exact hg.elim
    |some r=>
     obtain ⟨size,agg⟩:=r;simp only [hft] at hg;rw [td,<-hfs,List.getElem?_map] at hn;cases hfi:fields.toList[i]? with
     |none=>simp [hfi] at hn
     |some fd=>
      simp only [hfi,Option.map_some,Option.some.injEq,Prod.mk.injEq] at hn;obtain ⟨rfl,rfl⟩:=hn;have hfi':fields[i]? =some fd:=by simpa using hfi
      obtain ⟨ha,hs⟩:=KT hT hft w;cases hX:aM σ x with
      |aK cs=>
       simp only [hX] at hg;cases hp:nm agg size fd.offset cs with
       |none=>simp only [hp] at hg;exact hg.elim
       |some y=>
        simp only [hp] at hg;obtain ⟨e1,e2⟩:=hg;subst e1 e2;rw [hX] at hx;obtain ⟨vs,q1,q2,q3⟩:=hx.Cn;cases agg with
        |false=>
         simp only [nm,td] at hp;have hlt:fd.offset<vs.length:=by grind
         refine gk.fq h (val:=vs[fd.offset]) ?_ (q3 _ _ _ hp (List.getElem?_eq_getElem hlt));simp only [execOp,Instr.field,q1,Sem.run_bind,run_underlying hu,Result.andThen_ok,hfi',part,asAgg,Sem.run_pure,ha,Bool.false_eq_true,if_false];simp [hlt]
        |true=>
         simp only [nm,Hv] at hp;cases ht:qm (cs.drop fd.offset) size with
         |none=>simp [ht] at hp
         |some r=>
          simp only [ht,Option.some.injEq] at hp;subst hp;obtain ⟨t1,t2⟩:=E0 _ _ _ ht;refine gk.fq h (val:= .agg ((vs.drop fd.offset).take size).toArray) ?_ (.nT (by simp_all) (λj z u hz hu=>?_))
          ·simp only [execOp,Instr.field,q1,Sem.run_bind,run_underlying hu,Result.andThen_ok,hfi',part,asAgg,Sem.run_pure,ha,if_true,hs];simp_all
          grind
      |_=>simp only [hX] at hg;exact hg.elim
  |_=>exact hg.elim
end
section
variable {P:Program} {T:cN} {b:ek P} {σ:az} {D:Nat->Prop} {g:cf} {a:Act} {w:World}
theorem PG {x:ae} {n:Int} (h:AD x=some n):∃ k,x= .aa k n:=by
 cases x with
 |aa k m=>grind [AD]
 |_=>simp [AD] at h
theorem Yu (hT:dA P T) (h:bh b σ D g w) {f:Nat} {t:TypeId} {x i:Operand} {us:List (aS×bs)} {v:ae} {dst ty pos after guard}
  (hg:(df P T σ f ⟨dst, .indexAddr t x i,ty,pos,after,guard⟩).fV v us) (hx:aF w g (aM σ x) (a.eval x)) (hi:aF w g (aM σ i) (a.eval i)):gk P b σ us f D g a w ⟨dst, .indexAddr t x i,ty,pos,after,guard⟩ v:=by
 simp only [df,cY] at hg;cases hI:AD (aM σ i) with
 |none=>simp only [hI] at hg;exact hg.elim
 |some n=>
  simp only [hI] at hg;obtain ⟨k,hk⟩:=PG hI;rw [hk] at hi;have ei:=hi.lR;cases hr:cP T t with
  |none=>simp only [hr] at hg;exact hg.elim
  |some r=>
   have hrow:=(hT t _ hr).1;obtain ⟨ti,n0,b0,z0⟩:=r;simp only [hr] at hg hrow;cases ti with
   |dK e=>
    simp only at hg hrow;cases he:cP T e with
    |none=>simp only [he] at hg;exact hg.elim
    |some r=>
     simp only [he] at hg;have hsz:=xE hT he w;have run:∀ (ad:Addr) (len cap:Nat),0<=n->n<len->(Instr.indexAt t (.slice (some ad) len cap) (.int k n)).run P w= .ok (.pointer (some (ad.add (n.toNat*r.aO)))) w:=by
      intro ad len cap h0 h1;simp only [Instr.indexAt,asIntOf,Sem.run_bind,Sem.run_pure,Result.andThen_ok,run_underlying hrow];simp_all
     cases hX:aM σ x with
     |ag isNil sz els tk=>
      simp only [hX] at hg;cases hb:Nat.beq sz r.aO with
      |false=>simp only [hb] at hg;exact hg.elim
      |true=>
       cases hrz:r.aO with
       |zero=>have hb':=hb;rw [hrz] at hb';simp only [hrz,hb'] at hg;exact hg.elim
       |succ r'=>
       have hb':=hb;rw [hrz] at hb';simp only [hrz,hb'] at hg;have e0:sz=r.aO:=Nat.eq_of_beq_eq_true hb;subst e0;obtain ⟨el,⟨h0,hel⟩,e1,e2⟩:=hg;subst e1 e2;rw [hX] at hx;obtain ⟨ad,c,q1,q2,_⟩:=hx.jj;cases q2 with
       |iK vals hnil hc hsz' ha hone hr'=>
        have hlt:n.toNat<els.length:=(List.getElem?_eq_some_iff.1 hel).1;have hell:el.length=r.aO:=hsz' el (List.mem_of_getElem? hel);have had:∃ blk base,ad=some ⟨blk,base,none⟩:=by
         cases el with
         |nil=>simp at hell;omega
         |cons y el=>obtain ⟨blk,base,e,_⟩:=ha n.toNat (y::el) 0 y hel rfl;simp_all
        obtain ⟨blk,base,rfl⟩:=had;refine gk.fq h (val:= .pointer (some ⟨blk,base+n.toNat*r.aO,none⟩)) ?_ (.qT (base:=base+n.toNat*r.aO) (vals n.toNat) (λj x hx=>?_) (λj x hx=>hr' _ el j x hel hx))
        ·have:=run ⟨blk,base,none⟩ els.length c h0 om;grind [qW,execOp,Sem.run_bind,Result.andThen_ok,Sem.run_pure]
        ·obtain ⟨blk',base',e,hf,hcell⟩:=ha n.toNat el j x hel hx;simp_all
     |aL id off sz len full=>
      simp only [hX] at hg;cases hb:Nat.beq sz r.aO with
      |false=>simp only [hb] at hg;exact hg.elim
      |true=>
       simp only [hb] at hg;have e0:sz=r.aO:=Nat.eq_of_beq_eq_true hb;subst e0;obtain ⟨⟨h0,h1⟩,e1,e2⟩:=hg;subst e1 e2;rw [hX] at hx;obtain ⟨c,cap,ad,q1,q2,q3,q4,q5,q6⟩:=hx.mK;have e:=q3 om;subst e;refine gk.fq h (val:= .pointer (some ⟨c,off+n.toNat*r.aO,none⟩)) ?_ (.ni q1);grind [execOp,Sem.run_bind,Result.andThen_ok,Sem.run_pure,qW]
     |_=>simp only [hX] at hg;exact hg.elim
   |e7 m e=>
    simp only at hg hrow;cases he:cP T e with
    |none=>simp only [he] at hg;exact hg.elim
    |some r=>
     simp only [he] at hg;have hsz:=xE hT he w;have run:∀ (ad:Addr),0<=n->n<m->(Instr.indexAt t (.pointer (some ad)) (.int k n)).run P w= .ok (.pointer (some (ad.add (n.toNat*r.aO)))) w:=by
      intro ad h0 h1;simp only [Instr.indexAt,asIntOf,Sem.run_bind,Sem.run_pure,Result.andThen_ok,run_underlying hrow,Instr.sureAddr];simp_all
     cases hX:aM σ x with
     |ar id off=>
      simp only [hX] at hg;obtain ⟨⟨h0,h1⟩,e1,e2⟩:=hg;subst e1 e2;rw [hX] at hx;obtain ⟨c,q1,q2⟩:=hx.qU;refine gk.fq h (val:= .pointer (some ⟨c,off+n.toNat*r.aO,none⟩)) ?_ (.ni q1);grind [execOp,Sem.run_bind,Result.andThen_ok,Sem.run_pure,qW]
     |cB cs off=>
      simp only [hX] at hg;obtain ⟨⟨h0,h1⟩,e1,e2⟩:=hg;subst e1 e2;rw [hX] at hx;obtain ⟨blk,base,vals,q2,q3,q4⟩:=hx.Co;refine gk.fq h (val:= .pointer (some ⟨blk,base+(off+n.toNat*r.aO),none⟩)) ?_ (.qT vals q3 q4);grind [execOp,Sem.run_bind,Result.andThen_ok,Sem.run_pure,qW]
     |_=>simp only [hX] at hg;exact hg.elim
   |_=>exact hg.elim
theorem Yv (hT:dA P T) (h:bh b σ D g w) {f:Nat} {t:TypeId} {x i:Operand} {us:List (aS×bs)} {v:ae} {dst ty pos after guard}
  (hg:(df P T σ f ⟨dst, .index t x i,ty,pos,after,guard⟩).fV v us) (hop:∀ z∈(Op.index t x i).operands,aF w g (aM σ z) (a.eval z)):gk P b σ us f D g a w ⟨dst, .index t x i,ty,pos,after,guard⟩ v:=by
 have hx:=hop x (by simp [Op.operands]);have hi:=hop i (by simp [Op.operands]);simp only [df,cY] at hg;cases hI:AD (aM σ i) with
 |none=>simp only [hI] at hg;exact hg.elim
 |some n=>
  simp only [hI] at hg;obtain ⟨k,hk⟩:=PG hI;rw [hk] at hi;have ei:=hi.lR;cases hX:aM σ x with
  |ai s=>
   simp only [hX] at hg;rw [hX] at hx;obtain ⟨ba,q1,q2⟩:=hx.qV;cases hr:cP T t with
   |none=>simp only [hr] at hg;exact hg.elim
   |some r=>
    have hrow:=(hT t _ hr).1;obtain ⟨ti,n0,b0,z0⟩:=r;simp only [hr] at hg hrow;cases ti with
    |fF=>
     simp only at hg hrow;obtain ⟨c,⟨h0,hc⟩,e1,e2⟩:=hg;subst e1 e2;refine gk.fq h (val:= .int .u8 (c.toNat:Int)) ?_ (.bC (.fK _ _));have hlt:n.toNat<ba.size:=by have:=(List.getElem?_eq_some_iff.1 hc).1;rw [<-q2] at this;exact this
     have hget:ba[n.toNat]? =some c:=by
      rw [<-q2] at hc;rw [getElem?_pos ba n.toNat hlt];have h2:n.toNat<ba.data.toList.length:=hlt;rw [List.getElem?_eq_getElem h2] at hc;trivial
     simp only [execOp,Instr.index,q1,ei,Sem.run_bind,asIntOf,Sem.run_pure,Result.andThen_ok,run_underlying hrow,if_pos h0,hget]
    |_=>exact hg.elim
  |_=>grind [xD]
theorem Yr (h:bh b σ D g w) {f:Nat} {x:Operand} {i:Nat} {us:List (aS×bs)} {v:ae} {dst ty pos after guard}
  (hg:(df P T σ f ⟨dst, .extract x i,ty,pos,after,guard⟩).fV v us) (hx:aF w g (aM σ x) (a.eval x)):gk P b σ us f D g a w ⟨dst, .extract x i,ty,pos,after,guard⟩ v:=by
 simp only [df] at hg;cases hX:aM σ x with
 |aw vs=>
  simp only [hX] at hg;cases hn:lS vs i with
  |none=>simp only [hn] at hg;exact hg.elim
  |some y=>
   simp only [hn] at hg;obtain ⟨e1,e2⟩:=hg;subst e1 e2;rw [hX] at hx;obtain ⟨us,q1,q2,q3⟩:=hx.Hp;rw [td] at hn;have hlt:i<us.length:=by grind
   refine gk.fq h (val:=us[i]) ?_ (q3 i _ _ hn (List.getElem?_eq_getElem hlt));simp [execOp,q1,Instr.extract,hlt]
 |_=>simp only [hX] at hg;exact hg.elim
theorem Yz (h:bh b σ D g w) {f:Nat} {x:Operand} {us:List (aS×bs)} {v:ae} {dst ty pos after guard}
  (hg:(df P T σ f ⟨dst, .nilCheck x,ty,pos,after,guard⟩).fV v us) (hx:aF w g (aM σ x) (a.eval x)):gk P b σ us f D g a w ⟨dst, .nilCheck x,ty,pos,after,guard⟩ v:=by
 simp only [df] at hg;cases hX:aM σ x with
 |ar id off=>
  simp only [hX] at hg;obtain ⟨e1,e2⟩:=hg;subst e1 e2;rw [hX] at hx;obtain ⟨c,q1,q2⟩:=hx.qU;exact gk.fq h (val:=a.eval x) (by simp [execOp,q2]) hx
 |cB cs off=>
  simp only [hX] at hg;obtain ⟨e1,e2⟩:=hg;subst e1 e2;rw [hX] at hx;obtain ⟨blk,base,vals,q2,_⟩:=hx.Co;exact gk.fq h (val:=a.eval x) (by simp [execOp,q2]) hx
 |aP fn fs cs=>
  simp only [hX] at hg;obtain ⟨e1,e2⟩:=hg;subst e1 e2;rw [hX] at hx;obtain ⟨vs,us,q2,_⟩:=hx.y7;exact gk.fq h (val:=a.eval x) (by simp [execOp,q2]) hx
 |_=>simp only [hX] at hg;exact hg.elim
end
section
variable {P:Program} {T:cN} {b:ek P} {σ:az} {D:Nat->Prop} {g:cf} {a:Act} {w:World}
theorem YB (h:bh b σ D g w) {f:Nat} {t:TypeId} {x:Operand} {us:List (aS×bs)} {v:ae} {dst ty pos after guard}
  (hg:(df P T σ f ⟨dst, .unOp .not t x,ty,pos,after,guard⟩).fV v us) (hx:aF w g (aM σ x) (a.eval x)):gk P b σ us f D g a w ⟨dst, .unOp .not t x,ty,pos,after,guard⟩ v:=by
 simp only [df] at hg;cases hX:aM σ x with
 |bN=>
  simp only [hX,EW] at hg;obtain ⟨e1,e2⟩:=hg;subst e1 e2;rw [hX] at hx;exact gk.fq h (val:= .bool false) (by simp [execOp,Op.unary,hx.xw]) (.bC .qj)
 |bo=>
  simp only [hX,EW] at hg;obtain ⟨e1,e2⟩:=hg;subst e1 e2;rw [hX] at hx;exact gk.fq h (val:= .bool true) (by simp [execOp,Op.unary,hx.xr]) (.bC .rS)
 |aE q=>
  simp only [hX,EW] at hg;obtain ⟨e1,e2⟩:=hg;subst e1 e2;rw [hX] at hx;exact gk.fq h (val:= .bool (!q)) (by simp [execOp,Op.unary,hx.s9]) (.bC (.nh _))
 |_=>simp only [hX,EW] at hg;exact hg.elim
theorem Yy (h:bh b σ D g w) {f:Nat} {t:TypeId} {x:Operand} {us:List (aS×bs)} {v:ae} {dst ty pos after guard}
  (hg:(df P T σ f ⟨dst, .unOp .neg t x,ty,pos,after,guard⟩).fV v us) (hx:aF w g (aM σ x) (a.eval x)):gk P b σ us f D g a w ⟨dst, .unOp .neg t x,ty,pos,after,guard⟩ v:=by
 simp only [df] at hg;cases hX:aM σ x with
 |aa k n=>
  simp only [hX] at hg;obtain ⟨e1,e2⟩:=hg;subst e1 e2;rw [hX] at hx;exact gk.fq h (val:= .int k (k.wrap (0 - n))) (by simp [execOp,Op.unary,hx.lR,Op.intArith]) (.bC (.fK _ _))
 |_=>simp only [hX] at hg;exact hg.elim
theorem Py {s:List UInt8} {i:Nat} {x:ae} (h:(cW s)[i]? =some x):∃ c,s[i]? =some c/\x= .aa .u8 c.toNat:=by
 grind [cW]
theorem nj (s:List UInt8):(cW s).length=s.length:=by simp [cW]
theorem YF {src dst e:TypeId} (hs:P.underlying src=some (.slice e)) (he:P.underlying e=some (.int .u8)) (hd:P.underlying dst=some .string) (ad:Option Addr) (c:Nat):
  (convert src dst (.slice ad 0 c)).run P w= .ok (.string ByteArray.empty) w:=by
 cases ad with
 |none=>grind [run_convert_bytes_nil]
 |some ad=>
  rw [run_convert_bytes_string w src dst e _ 0 c hs he hd];trivial
theorem PW {src dst e:TypeId} (hs:P.underlying src=some (.slice e)) (he:P.underlying e=some (.int .u8)) (hd:P.underlying dst=some .string) {ad:Option Addr} {k off:Nat} {len cap:Nat} (had:0<len->ad=some ⟨k,off,none⟩)
  {s:List UInt8} (hl:s.length=len) (hc:∀ (i:Nat) (c:UInt8),s[i]? =some c->w.cell? ⟨k,off+i,none⟩=some (.int .u8 (c.toNat:Int))):
  ∃ ba:ByteArray,(convert src dst (.slice ad len cap)).run P w= .ok (.string ba) w/\ba.data.toList=s:=by
 rcases Nat.eq_zero_or_pos len with h0|h0
 ·subst h0;have:s=[]:=List.eq_nil_of_length_eq_zero hl;subst this;exact ⟨_,YF hs he hd ad cap,rfl⟩
 ·rw [had h0];refine ⟨_,run_convert_bytes_arg w src e hs he k off len cap (s.map λc=>(c.toNat:Int)) (by simpa using hl) (λi hi=>?_) dst hd,?_⟩
  ·simp_all
  ·rw [strOfNums_data,List.map_map]
   conv=>rhs;rw [<-List.map_id s]
   apply List.map_congr_left;simp_all
def zc (s:ByteArray) (cap:Nat):List Value:=s.data.toList.map (λb:UInt8=>Value.int .u8 (b.toNat:Int))++List.replicate (cap - s.size) (.int .u8 0)
theorem Yp (s:ByteArray) (cap:Nat):bytesRow s cap=(zc s cap).toArray:=by
 grind [bytesRow,zc]
theorem Yq (hT:dA P T) (h:bh b σ D g w) {f:Nat} (hf:g.aZ f=none) {src dst':TypeId} {x:Operand} {us:List (aS×bs)} {v:ae} {dst ty pos after guard}
  (hg:(HQ σ T f src dst' (aM σ x)).fV v us) (hx:aF w g (aM σ x) (a.eval x)):gk P b σ us f D g a w ⟨dst, .convert src dst' x,ty,pos,after,guard⟩ v:=by
 simp only [HQ,cY] at hg;cases hr:cP T dst' with
 |none=>simp only [hr] at hg;exact hg.elim
 |some r=>
  have hrow:=(hT dst' _ hr).1;obtain ⟨ti,n0,b0,z0⟩:=r;simp only [hr] at hg hrow;cases ti with
  |eP k=>
   simp only at hg hrow;cases hX:aM σ x with
   |aa j n=>
    simp only [hX] at hg;cases hs:cP T src with
    |none=>simp only [hs] at hg;exact hg.elim
    |some r'=>
     have hsrc:=(hT src _ hs).1;obtain ⟨ti',n1,b1,z1⟩:=r';simp only [hs] at hg hsrc;cases ti' with
     |eP k'=>
      simp only at hg hsrc;obtain ⟨e1,e2⟩:=hg;subst e1 e2;rw [hX] at hx;refine gk.fq h (val:= .int k (k.wrap n)) ?_ (.bC (.fK _ _));simp [execOp,convert,run_underlying hsrc,run_underlying hrow,hx.lR,Conv.intToInt]
     |_=>exact hg.elim
   |_=>simp only [hX] at hg;exact hg.elim
  |fF=>
   simp only at hg hrow;cases hX:aM σ x with
   |ai s=>
    simp only [hX] at hg;cases hs:cP T src with
    |none=>simp only [hs] at hg;exact hg.elim
    |some r'=>
     have hsrc:=(hT src _ hs).1;obtain ⟨ti',n1,b1,z1⟩:=r';simp only [hs] at hg hsrc;cases ti' with
     |fF=>
      simp only at hg hsrc;obtain ⟨e1,e2⟩:=hg;subst e1 e2;rw [hX] at hx;obtain ⟨ba,q1,q2⟩:=hx.qV;refine gk.fq h (val:= .string ba) ?_ (.bC (.gX q2));simp [execOp,convert,run_underlying hsrc,run_underlying hrow,q1]
     |_=>exact hg.elim
   |ag isNil sz els tk=>
    simp only [hX] at hg;cases hs:cP T src with
    |none=>simp only [hs] at hg;exact hg.elim
    |some r'=>
     have hsrc:=(hT src _ hs).1;obtain ⟨ti',n1,b1,z1⟩:=r';simp only [hs] at hg hsrc;cases ti' with
     |dK e=>
      simp only at hg hsrc;cases he:cP T e with
      |none=>simp only [he] at hg;exact hg.elim
      |some r2=>
       have hel:=(hT e _ he).1;obtain ⟨ti2,n2,b2,z2⟩:=r2;simp only [he] at hg hel;cases ti2 with
       |eP k2=>
        cases k2 with
        |u8=>
         simp only at hg hel;obtain ⟨s,⟨hsz,hels⟩,e1,e2⟩:=hg;subst e1 e2;rw [hX] at hx;obtain ⟨ad,c,q1,q2,_⟩:=hx.jj;have hlen:s.length=els.length:=by rw [hels];simp
         have hcell:∃ k off,(0<els.length->ad=some ⟨k,off,none⟩)/\∀ (i:Nat) (c:UInt8),s[i]? =some c->w.cell? ⟨k,off+i,none⟩=some (.int .u8 (c.toNat:Int)):=by
          cases q2 with
          |iK vals hnil hc hsz' ha hone hr'=>
           rcases Nat.eq_zero_or_pos els.length with h0|h0
           ·refine ⟨0,0,λh=>om,λi c hi=>?_⟩;grind
           ·have hsz1:sz=1:=by
             grind
            subst hsz1;have get:∀ (i:Nat) (c:UInt8),s[i]? =some c->els[i]? =some [.aa .u8 (c.toNat:Int)]:=λi c hi=>by grind
            obtain ⟨c0,hc0⟩:∃ c,s[0]? =some c:=⟨s[0]'om,List.getElem?_eq_getElem om⟩;obtain ⟨k,off,ead,_⟩:=ha 0 _ 0 _ (get 0 c0 hc0) rfl;refine ⟨k,off,λ_=>ead,λi c hi=>?_⟩;obtain ⟨k',off',ead',_,hcell⟩:=ha i _ 0 _ (get i c hi) rfl;rw [ead] at ead';cases ead';have hp:=hr' i _ 0 _ (get i c hi) rfl;have hv:vals i 0= .int .u8 (c.toNat:Int):=aF.lR (g:=g) (.bC hp);grind
         obtain ⟨k,off,had,hcc⟩:=hcell;obtain ⟨ba,hrun,hba⟩:=PW (P:=P) (cap:=c) hsrc hel hrow had hlen hcc;refine gk.fq h (val:= .string ba) ?_ (.bC (.gX hba));grind [execOp,Sem.run_bind,Result.andThen_ok,Sem.run_pure]
        |_=>exact hg.elim
       |_=>exact hg.elim
     |_=>exact hg.elim
   |aL id off sz len full=>
    simp only [hX] at hg;cases hb1:Nat.beq sz 1 with
    |false=>simp only [hb1] at hg;exact hg.elim
    |true=>
    simp only [hb1] at hg;have hsz:sz=1:=Nat.eq_of_beq_eq_true hb1;subst hsz;cases hs:cP T src with
    |none=>simp only [hs] at hg;exact hg.elim
    |some r'=>
     have hsrc:=(hT src _ hs).1;obtain ⟨ti',n1,b1,z1⟩:=r';simp only [hs] at hg hsrc;cases ti' with
     |dK e=>
      simp only at hg hsrc;cases he:cP T e with
      |none=>simp only [he] at hg;exact hg.elim
      |some r2=>
       have hel:=(hT e _ he).1;obtain ⟨ti2,n2,b2,z2⟩:=r2;simp only [he] at hg hel;cases ti2 with
       |eP k2=>
        cases k2 with
        |u8=>
         simp only at hg hel;rw [hX] at hx;obtain ⟨c,cap,ad,q1,q2,q3,q4,q5,q6⟩:=hx.mK;have fin:∀ (cells:List ae) (s:List UInt8),off+len<=cells.length->(cells.drop off).take len=cW s->(∃ vs:Nat->Value,∀ j x,cells[j]? =some x->w.cell? ⟨c,j,none⟩=some (vs j)/\aF w g x (vs j))->v= .ai s->us=[]->
           gk P b σ us f D g a w ⟨dst, .convert src dst' x,ty,pos,after,guard⟩ v:=by
          intro cells s h1 h2 h3 e1 e2;subst e1 e2;obtain ⟨vs,hvs⟩:=h3;have hlen:s.length=len:=by
           grind [nj]
          obtain ⟨ba,hrun,hba⟩:=PW (P:=P) (cap:=cap) hsrc hel hrow q3 hlen (λi ch hi=>by
           have hi':(cW s)[i]? =some (.aa .u8 ch.toNat):=by grind [cW]
           rw [<-h2,List.getElem?_take] at hi';split at hi'
           ·rw [List.getElem?_drop] at hi';obtain ⟨k1,k2⟩:=hvs _ _ hi';rw [k1,k2.lR]
           ·cases hi')
          refine gk.fq h (val:= .string ba) ?_ (.bC (.gX hba));grind [execOp,Sem.run_bind,Result.andThen_ok,Sem.run_pure]
         cases hbk:σ (.af id) with
         |aR bt cells=>
          simp only [hbk] at hg;obtain ⟨s,⟨h1,h2⟩,e1,e2⟩:=hg;obtain ⟨vs,hvs⟩:=h.EH hbk q1;exact fin cells s h1 h2 ⟨vs,λj x hx=>⟨(hvs j x hx).1, .bC (hvs j x hx).2⟩⟩ e1 e2
         |au bt cells=>
          simp only [hbk] at hg;obtain ⟨s,⟨h1,h2⟩,e1,e2⟩:=hg;exact fin cells s h1 h2 (h.EF hbk q1) e1 e2
         |_=>simp only [hbk] at hg;exact hg.elim
        |_=>exact hg.elim
       |_=>exact hg.elim
     |_=>exact hg.elim
   |_=>simp only [hX] at hg;exact hg.elim
  |dK e=>
   simp only at hg hrow;cases hX:aM σ x with
   |ai s=>
    simp only [hX] at hg;cases he:cP T e with
    |none=>simp only [he] at hg;exact hg.elim
    |some r2=>
     have hel:=(hT e _ he).1;obtain ⟨ti2,n2,b2,z2⟩:=r2;simp only [he] at hg hel;cases ti2 with
     |eP k2=>
      cases k2 with
      |u8=>
       simp only at hg hel;cases hs:cP T src with
       |none=>simp only [hs] at hg;exact hg.elim
       |some r'=>
        have hsrc:=(hT src _ hs).1;obtain ⟨ti',n1,b1,z1⟩:=r';simp only [hs] at hg hsrc;cases ti' with
        |fF=>
         simp only at hg hsrc;obtain ⟨e1,e2⟩:=hg;subst e1 e2;rw [hX] at hx;obtain ⟨ba,q1,q2⟩:=hx.qV;have hrun:=run_bytes_of_string (P:=P) w src dst' e ba hsrc hrow hel;have hcap:=grownCap_ge w ba.size 0 e;generalize grownCap w ba.size 0 e=cap at hrun hcap;rw [Yp] at hrun;have hsize:ba.size=s.length:=by rw [<-q2];rfl
         have hal:(zc ba cap).length=cap:=by
          grind [zc]
         obtain ⟨h0,e0⟩:=h.pE (Below.refl _ w).drew;obtain ⟨k1,k2⟩:=h0.Hk hf (t:=e) (cells:=cW s) (arr:=(zc ba cap))
          (z:=(cap,cap+1)) (by grind [nj]) (λo ho=>by omega) (λi y u hy hu=>by
           obtain ⟨c,hc,rfl⟩:=Py hy;unfold zc at hu;rw [List.getElem?_append_left (by grind),List.getElem?_map,q2,hc] at hu;simp at hu;subst hu;exact .fK _ _)
         refine ⟨_, .slice (some ⟨w.heap.size,0,none⟩) s.length cap,_,_,?_, .inl rfl, .kH (cf.mJ _ _ _) (λ_=>rfl) rfl om (λ_=>⟨rfl,rfl,e,?_⟩),k1,e0.gD k2⟩
         ·grind [execOp,Sem.run_bind,Result.andThen_ok,Sem.run_pure]
         ·have:(w.drew.alloc (.cells (zc ba cap).toArray e (cap,cap+1))).heap[w.heap.size]? =some (.cells (zc ba cap).toArray e (cap,cap+1)):=heap_alloc_new w.drew _;grind [World.shape?]
        |_=>exact hg.elim
      |_=>exact hg.elim
     |_=>exact hg.elim
   |_=>simp only [hX] at hg;exact hg.elim
  |_=>exact hg.elim
end
section
variable {P:Program} {T:cN} {b:ek P} {σ:az} {D:Nat->Prop} {g:cf} {a:Act} {w:World}
structure xp (P:Program) (w:World) (F:Nat->Nat->Prop) (sz:Nat) (tx:TypeId) (xv:Value) (news:List (List ae)) (nv:List Value):Prop where
 ng:Src P sz tx xv news.length nv w
 Cj:∀ (i:Nat) (x:ae) (v:Value),news.flatten[i]? =some x->nv[i]? =some v->cb w F x v
 vU:∀ el∈news,el.length=sz
theorem Cu {α:Type} (sz:Nat) (els:List (List α)) (hs:∀ el∈els,el.length=sz) (i:Nat) (x:α) (h:els.flatten[i]? =some x):∃ el,els[i / sz]? =some el/\el[i % sz]? =some x/\i / sz*sz+i % sz=i:=by
 have hi:i<els.length*sz:=by grind [lA]
 have hz:0<sz:=by
  grind
 have hq:i / sz<els.length:=by rw [Nat.div_lt_iff_lt_mul hz];exact hi
 have hm:i % sz<els[i / sz].length:=by rw [hs _ (List.getElem_mem hq)];exact Nat.mod_lt _ hz
 have he:i / sz*sz+i % sz=i:=by grind [Nat.div_add_mod]
 have h2:=EV sz els (i / sz) (i % sz) els[i / sz] els[i / sz][i % sz] hs (List.getElem?_eq_getElem hq) (List.getElem?_eq_getElem hm);simp_all
theorem cb.KA {F:Nat->Nat->Prop} {isNil:Bool} {sz:Nat} {els:List (List ae)} {ad:Option Addr} {n c:Nat} (h:cb w F (.ag isNil sz els .av) (.slice ad n c)):
  ∃ vs:List Value,vs.length=n*sz/\els.length=n/\n<=c/\(∀ el∈els,el.length=sz)/\(∀ (i:Nat) (x:ae) (v:Value),els.flatten[i]? =some x->vs[i]? =some v->cb w F x v)/\(∀ u∈vs,u.oneCell'=true)/\
   (0<n*sz->∃ blk base,ad=some ⟨blk,base,none⟩/\∀ i v,vs[i]? =some v->F blk (base+i)/\w.cell? ⟨blk,base+i,none⟩=some v):=by
 cases h with
 |iK vals hnil hc hsz ha hone h=>
  have hfl:=lA sz els hsz;have hat:∀ (i:Nat) (v:Value),((List.range (els.length*sz)).map λi=>vals (i / sz) (i % sz))[i]? =some v->∃ el x,els[i / sz]? =some el/\el[i % sz]? =some x/\v=vals (i / sz) (i % sz)/\i / sz*sz+i % sz=i:=by
   intro i v hv;rw [List.getElem?_map] at hv
   by_cases hi:i<els.length*sz
   ·rw [List.getElem?_range hi] at hv;simp at hv;obtain ⟨el,h1,h2,h3⟩:=Cu sz els hsz i els.flatten[i] (List.getElem?_eq_getElem om);simp_all
   simp_all
  refine ⟨(List.range (els.length*sz)).map λi=>vals (i / sz) (i % sz),by simp,rfl,hc,hsz,λi x v hx hv=>?_,λu hu=>?_,λh0=>?_⟩
  ·obtain ⟨el,y,h1,h2,rfl,h3⟩:=hat i v hv;obtain ⟨el',k1,k2,_⟩:=Cu sz els hsz i x hx;simp_all
  ·obtain ⟨i,hi,rfl⟩:=List.getElem_of_mem hu;obtain ⟨el,y,h1,h2,e,h3⟩:=hat i _ (List.getElem?_eq_getElem hi);simp_all
  ·obtain ⟨el0,g1,g2,_⟩:=Cu sz els hsz 0 els.flatten[0] (List.getElem?_eq_getElem om);obtain ⟨blk,base,e,_⟩:=ha _ el0 _ _ g1 g2;refine ⟨blk,base,e,λi v hv=>?_⟩;obtain ⟨el,y,h1,h2,rfl,h3⟩:=hat i v hv;obtain ⟨blk',base',e',hf,hcell⟩:=ha _ el _ _ h1 h2;grind
theorem YD (hT:dA P T) (h:bh b σ D g w) {tx:TypeId} {sz:Nat} {x:ae} {xv:Value} (hx:aF w g x xv) {k:List (List ae)->jW} {v:ae} {us:List (aS×bs)} (hg:(Cw σ T tx sz x k).fV v us):
  ∃ news nv,xp P w g.bJ sz tx xv news nv/\(k news).fV v us:=by
 unfold Cw at hg;simp only [cY] at hg;cases x with
 |ag isNil sz' els tk=>
  simp only at hg;cases hr:cP T tx with
  |none=>simp only [hr] at hg;exact hg.elim
  |some r=>
   have hrow:=(hT tx _ hr).1;obtain ⟨ti,n0,b0,z0⟩:=r;simp only [hr] at hg hrow;cases ti with
   |dK e=>
    simp only at hg hrow;obtain ⟨ad,c,q1,q2,_⟩:=hx.jj;have go:∀ els:List (List ae),cb w g.bJ (.ag isNil sz els .av) (.slice ad els.length c)->xv= .slice ad els.length c->∃ nv,xp P w g.bJ sz tx xv els nv:=by
     intro els q2 q1;subst q1;obtain ⟨vs,c1,c2,c3,c4,c5,c6,c7⟩:=q2.KA;refine ⟨vs,?_,c5,c4⟩;cases ad with
     |none=>
      have h0:els.length*sz=0:=by
       simp_all
      have hv:vs=[]:=List.eq_nil_of_length_eq_zero (by rw [c1,h0]);subst hv;exact ⟨.inl ⟨e,hrow⟩,λ_=>rfl,by trivial,by trivial,by simpa using h0.symm,by simp⟩
     |some ad=>
      refine Src.ofSlice w hrow ad _ c vs c1 (λj u hu=>?_) c6;have:j<vs.length:=(List.getElem?_eq_some_iff.1 hu).1;grind [qW]
    cases hb:Nat.beq sz' sz with
    |true=>
     grind [Nat.eq_of_beq_eq_true]
    |false=>
     simp only [hb] at hg;obtain ⟨e0,hg⟩:=hg;grind [Hw]
   |_=>exact hg.elim
 |ai s=>
  simp only at hg;cases hr:cP T tx with
  |none=>simp only [hr] at hg;exact hg.elim
  |some r=>
   have hrow:=(hT tx _ hr).1;obtain ⟨ti,n0,b0,z0⟩:=r;simp only [hr] at hg hrow;cases ti with
   |fF=>
    cases hb:Nat.beq sz 1 with
    |false=>simp only [hb] at hg;exact hg.elim
    |true=>
     simp only [hb] at hg hrow;have e0:=Nat.eq_of_beq_eq_true hb;subst e0;obtain ⟨ba,q1,q2⟩:=hx.qV;subst q1;refine ⟨_,byteCells ba,⟨?_,λi x v hx hv=>?_,λel hel=>?_⟩,hg⟩
     ·have:=Src.ofString (P:=P) w hrow ba;rw [List.length_map,show s.length=ba.size by rw [<-q2];rfl];exact this
     ·obtain ⟨el,h1,h2,h3⟩:=Cu 1 _ (λel hel=>by grind) i x hx;rw [Nat.div_one,List.getElem?_map] at h1;cases hs:s[i]? with
      |none=>simp [hs] at h1
      |some c=>
       simp [hs] at h1;subst h1;rw [Nat.mod_one] at h2;simp at h2;subst h2;unfold byteCells at hv;rw [q2,List.getElem?_map,hs] at hv;simp at hv;subst hv;exact .fK _ _
     grind
   |_=>exact hg.elim
 |aL id off sz' len full=>
  simp only at hg;cases hr:cP T tx with
  |none=>simp only [hr] at hg;exact hg.elim
  |some r=>
   have hrow:=(hT tx _ hr).1;obtain ⟨ti,n0,b0,z0⟩:=r;simp only [hr] at hg hrow;cases ti with
   |dK e=>
    simp only at hg hrow;cases hb:Nat.beq sz' sz with
    |false=>simp only [hb] at hg;exact hg.elim
    |true=>
     simp only [hb] at hg;have e0:=Nat.eq_of_beq_eq_true hb;subst e0;obtain ⟨c,cap,ad,q1,q2,q3,q4,q5,q6⟩:=hx.mK;subst q2;have go:∀ (cells:List ae) (els:List (List ae)),(∃ vs:Nat->Value,∀ j x,cells[j]? =some x->w.cell? ⟨c,j,none⟩=some (vs j))->els.length=len->(∀ el∈els,el.length=sz')->off+len*sz'<=cells.length->
       (∀ (i:Nat) (x:ae),els.flatten[i]? =some x->∀ v,w.cell? ⟨c,off+i,none⟩=some v->v.oneCell'=true/\cb w g.bJ x v)->∃ nv,xp P w g.bJ sz' tx (.slice ad len cap) els nv:=by
      intro cells els hvs h1 h2 h3 h4;obtain ⟨vs,hvs⟩:=hvs;have hfl:=lA sz' els h2;have hcell:∀ i,i<len*sz'->w.cell? ⟨c,off+i,none⟩=some (vs (off+i)):=λi hi=>hvs (off+i) cells[off+i] (List.getElem?_eq_getElem om)
      have hnv:∀ (i:Nat) (v:Value),((List.range (len*sz')).map λi=>vs (off+i))[i]? =some v->v=vs (off+i)/\i<len*sz':=by
       grind
      refine ⟨(List.range (len*sz')).map λi=>vs (off+i),?_,λi x v hx hv=>?_,h2⟩
      ·rw [h1];obtain ⟨ad',had⟩:=Option.isSome_iff_exists.1 q4;subst had;refine Src.ofSlice w hrow ad' len cap _ (by simp) (λj u hu=>?_) (λu hu=>?_)
       ·grind [qW]
       ·obtain ⟨i,hi,rfl⟩:=List.getElem_of_mem hu;obtain ⟨e,hi'⟩:=hnv i _ (List.getElem?_eq_getElem hi);rw [e];have hi2:i<els.flatten.length:=by simp_all
        exact (h4 i els.flatten[i] (List.getElem?_eq_getElem hi2) _ (hcell i hi')).1
      grind
     cases hbk:σ (.af id) with
     |aR bt cells=>
      simp only [hbk] at hg;obtain ⟨els,⟨h1,h2,h3,h4,h5⟩,hg⟩:=hg;obtain ⟨vs,hvs⟩:=h.EH hbk q1;obtain ⟨nv,hn⟩:=go cells els ⟨vs,λj x hx=>(hvs j x hx).1⟩ h1 h2 h3 (λi x hx v hv=>by
       have hx':=hx;rw [<-h4,List.getElem?_take] at hx';split at hx'
       ·rw [List.getElem?_drop] at hx';obtain ⟨g1,g2⟩:=hvs _ x hx';rw [g1] at hv;cases hv;exact ⟨te (.bC g2) (zb h5 i x hx),g2⟩
       ·cases hx')
      grind
     |au bt cells=>
      simp only [hbk] at hg;obtain ⟨els,⟨h1,h2,h3,h4,h5⟩,hg⟩:=hg;obtain ⟨vs,hvs⟩:=h.EF hbk q1;obtain ⟨nv,hn⟩:=go cells els ⟨vs,λj x hx=>(hvs j x hx).1⟩ h1 h2 h3 (λi x hx v hv=>by
       grind [rY,tf,te,KR,tg])
      grind
     |_=>simp only [hbk] at hg;exact hg.elim
   |_=>exact hg.elim
 |_=>exact hg.elim
end
section
variable {P:Program} {T:cN} {b:ek P} {σ:az} {D:Nat->Prop} {g:cf} {a:Act} {w:World}
theorem bh.Av (h:bh b σ D g w) {id c sz N cap:Nat} {t:TypeId} {z:Nat×Nat} {arr:List Value} {els:List (List ae)} (hN:els.length=N) (ho:∀ bk M,g.cu id=some (bk,M)->M<N) (hfr:(∃ N0,g.cu id=some (some c,N0))\/∀ o,¬g.bJ c o) (hc1:b.rP c) (hc2:c<w.heap.size)
  (hcF:∀ o,g.bJ c o->o<N*sz) (hown:∀ id,(σ (.af id)).dw=true->g.aZ id≠some c) (hrow:∀ id' t sz N N',id'≠id->σ (.aJ id')= .aN t sz N->g.cu id'≠some (some c,N'))
  (hh:w.heap[c]? =some (.cells arr.toArray t z)) (hz:∀ o,o<arr.length->¬(z.1<=o/\o<z.2)) (hcap:arr.length=cap*sz) (hNc:N<=cap) (hsz:∀ el∈els,el.length=sz)
  (hone:∀ (i:Nat) (x:ae) (v:Value),els.flatten[i]? =some x->arr[i]? =some v->v.oneCell'=true) (hrep:∀ (i:Nat) (x:ae) (v:Value),els.flatten[i]? =some x->arr[i]? =some v->cb w g.bJ x v):
  bh b (aU σ (.aJ id) (.aN t sz N)) (λi=>D i\/i=id) (g.qh id c N sz) w/\dp g w (g.qh id c N sz) w/\aF w (g.qh id c N sz) (.ag false sz els (.cO id)) (.slice (some ⟨c,0,none⟩) N cap):=by
 have hE:dp g w (g.qh id c N sz) w:=dp.Pp ho hfr;refine ⟨h.Yb ho hfr hc1 hc2 hcF hown hrow ⟨arr,z,hh,hz⟩,hE,?_⟩;subst hN;refine .jc (PV hh (λo ho=> .inr ⟨rfl,ho⟩) hNc hsz (by rw [hcap];exact Nat.mul_le_mul_right _ hNc) hone (λi x v hx hv=>(hrep i x v hx hv).eO hE.ee)) ?_;refine ⟨some c,els.length,cf.Ce _ _ _ _ _,Nat.le_refl _,λ_=> .inr ⟨c,t,rfl,rfl,?_⟩⟩;grind [World.shape?]
theorem aF.Cq {isNil:Bool} {sz:Nat} {els:List (List ae)} {id:Nat} {v:Value} (h:aF w g (.ag isNil sz els (.cO id)) v):aF w g (.ag isNil sz els (.dB id)) v:=by
 obtain ⟨ad,c,rfl,h2,h3⟩:=h.jj;exact .jc h2 h3.Yf
theorem EY (c off:Nat) (vs:List Value) {arr:List Value} {t:TypeId} {z:Nat×Nat} (h:w.heap[c]? =some (.cells arr.toArray t z)) (hl:off+vs.length<=arr.length) (hz:∀ o,o<arr.length->¬(z.1<=o/\o<z.2)) (hu:∀ u∈vs,u.oneCell'=true):
  kj c w (w.setCells c off vs)/\(w.setCells c off vs).heap[c]? =some (.cells (arr.take off++vs++arr.drop (off+vs.length)).toArray t z)/\
   (∀ j,j<vs.length->(w.cell? ⟨c,off+j,none⟩).isSome=true)/\(∀ j,j<vs.length->w.frozen? ⟨c,off+j,none⟩=false):=by
 have h1:∀ j,j<vs.length->(w.cell? ⟨c,off+j,none⟩).isSome=true:=λj hj=>by rw [nk h,List.getElem?_eq_getElem om];rfl
 have h2:∀ j,j<vs.length->w.frozen? ⟨c,off+j,none⟩=false:=λj hj=>KN h (hz _ om)
 obtain ⟨w',r1,r2,r3⟩:=AG (P:=default) c vs off 0 arr w h om hz hu;grind [run_storeCells_cells]
theorem H0 (z:Array Value) (n sz:Nat) (hz:z.size=sz):(Builtin.zeroCells z n).toList.length=n*sz:=by
 grind [size_zeroCells]
theorem YE {t tx ty e:TypeId} {i:TypeInfo} (ht:P.underlying t=some (.slice e)) (hi:P.info? e=some i) (base:Option Addr) (sLen sCap:Nat) (hcap:sLen<=sCap) (x:Value) (hs:Src P i.size tx x 0 [] w):
  (Builtin.append_ #[t,tx] ty #[.slice base sLen sCap,x]).run P w= .ok (.slice base sLen sCap) w:=by
 have hc:=hs.cells;rcases hs.kind with ⟨e',hk⟩|hk<;>cases base<;>simp [Builtin.append_,run_underlying ht,run_underlying hk,sizeOf,typeInfo,hi,hs.len,hcap,hc,storeCells]
def cf.lP (g:cf) (id N:Nat):cf:={g with cu:=λi=>if i=id then some (none,N) else g.cu i}
theorem bh.Cf (h:bh b σ D g w) {id N sz:Nat} {t:TypeId} (hid:g.cu id=none):bh b (aU σ (.aJ id) (.aN t sz N)) (λi=>D i\/i=id) (g.lP id N) w/\dp g w (g.lP id N) w:=by
 have e0:∀ id',(aU σ (.aJ id) (.aN t sz N)) (.af id')=σ (.af id'):=λid'=>cL (by intro e;cases e)
 have e1:(aU σ (.aJ id) (.aN t sz N)) (.aJ id)= .aN t sz N:=gY _ _ _;have e2:∀ id',id'≠id->(aU σ (.aJ id) (.aN t sz N)) (.aJ id')=σ (.aJ id'):=λid' hne=>cL (by simp_all)
 have g1:(g.lP id N).cu id=some (none,N):=by simp [cf.lP]
 have g2:∀ i,i≠id->(g.lP id N).cu i=g.cu i:=λi hi=>by simp [cf.lP,hi]
 have hE:dp g w (g.lP id N) w:=⟨⟨λk o hk=>⟨hk,rfl⟩,λi c hc=>⟨hc,rfl⟩,λi bk M hi=>by
  grind,λi k M hi=>by
  grind⟩,Nat.le_refl _,Nat.le_refl _,λ_ _ h=>h⟩
 refine ⟨bh.lQ h.dU h.fU h.kY h.kh (λi c hc=> .inl (h.lu i c hc)) (λi x hx=>?_) h.eU (λi k N' hk=>?_) (λi hl=>h.dq i (by trivial)) (λi k hl hk=>?_) (λi j k hi hj=>h.iT i j k (by trivial) (by trivial)) (λi Y k hs hk=>h.lv i Y k (by trivial) hk) (λi t' sz' N' hs=>?_),hE⟩
 ·by_cases hi:i=id
  ·exact .inr hi
  ·rw [g2 i hi] at hx;exact .inl (h.ki i x hx)
 ·by_cases hi:i=id
  ·simp_all
  ·rw [g2 i hi] at hk;exact h.gV i k N' hk
 ·rw [e0] at hl ⊢;exact (h.kF hk).Aq hE rfl
 ·by_cases hi:i=id
  ·simp_all
  ·rw [e2 i hi] at hs;obtain ⟨bk,h1,h2⟩:=h.fA i t' sz' N' hs;refine ⟨bk,by simp_all,λk hk=>?_⟩;obtain ⟨b1,b2,b3,b4,b5,b6⟩:=h2 k hk;refine ⟨b1,b2,b3,λj hl=>b4 j (by trivial),λj t'' sz'' M M' hj hr=>?_,b6⟩;grind
theorem Hs (hT:dA P T) (h:bh b σ D g w) {t tx ty e:TypeId} {n0 b0:Nat} {z0:List ae} (hr:cP T t=some ⟨.dK e,n0,b0,z0⟩) {r:lz} (he:cP T e=some r) {id:Nat} {els news:List (List ae)} {nv:List Value} {xv:Value} {ad:Option Addr} {c:Nat}
  (ho:∀ bk M,g.cu id=some (bk,M)->M<els.length+news.length) (hn:xp P w g.bJ r.aO tx xv news nv) (hfit:pD (els.length+news.length) r.xx) (hgt:c<els.length+news.length)
  {olds:List Value} (hol:olds.length=els.length*r.aO) (hoc:∀ w',w'.heap=w.heap->(Builtin.firstCells r.aO els.length (.slice ad els.length c)).run P w'= .ok olds.toArray w') (hes:∀ el∈els,el.length=r.aO)
  (hor:∀ (i:Nat) (x:ae) (v:Value),els.flatten[i]? =some x->olds[i]? =some v->cb w g.bJ x v) (hoo:∀ u∈olds,u.oneCell'=true):
  ∃ val w' g',(Builtin.append_ #[t,tx] ty #[.slice ad els.length c,xv]).run P w= .ok val w'/\aF w' g' (.ag false r.aO (els++news) (.cO id)) val/\bh b (aU σ (.aJ id) (.aN e r.aO (els.length+news.length))) (λi=>D i\/i=id) g' w'/\dp g w g' w':=by
 obtain ⟨i,zv,q1,q2,q3,q3',q4,q5,q6,_⟩:=lz.pG hT he;have hrow:=(hT t _ hr).1;simp only at hrow;obtain ⟨hf1,hf2⟩:=hfit;have hsrc:=hn.ng;rw [<-q3] at hsrc;have hrun:=run_append_grow_src (P:=P) w t tx ty e i zv hrow q1 q2 ad els.length c olds (by rw [q3];exact hoc w.drew rfl) xv news.length nv hsrc hgt om (growslice_fits hgt (by rw [q3'];omega));have hge:=grownCap_ge w (els.length+news.length) c e;generalize grownCap w (els.length+news.length) c e=cap at hrun hge;have hnl:nv.length=news.length*r.aO:=by rw [hsrc.newsLen,q3]
 have hzl:=H0 zv.cells (cap - (els.length+news.length)) r.aO q4;have harr:((olds++nv).toArray++Builtin.zeroCells zv.cells (cap - (els.length+news.length)))=(olds++nv++(Builtin.zeroCells zv.cells (cap - (els.length+news.length))).toList).toArray:=by
  simp_all
 rw [harr] at hrun;have hall:(olds++nv++(Builtin.zeroCells zv.cells (cap - (els.length+news.length))).toList).length=cap*r.aO:=by
  rw [List.length_append,List.length_append,hol,hnl,hzl,<-Nat.add_mul,<-Nat.add_mul];congr 1;omega
 have hb:Below w.heap.size w (w.drew.alloc (.cells (olds++nv++(Builtin.zeroCells zv.cells (cap - (els.length+news.length))).toList).toArray e)):=((Below.refl _ w).drew).alloc (Nat.le_refl _) _;obtain ⟨h1,e1⟩:=h.pE hb;have hfl:(els++news).flatten=els.flatten++news.flatten:=by simp
 have hle:=lA r.aO els hes;have hln:=lA r.aO news hn.vU;have hget:∀ (j:Nat) (x:ae) (v:Value),(els++news).flatten[j]? =some x->(olds++nv++(Builtin.zeroCells zv.cells (cap - (els.length+news.length))).toList)[j]? =some v->
   (els.flatten[j]? =some x/\olds[j]? =some v)\/(news.flatten[j - olds.length]? =some x/\nv[j - olds.length]? =some v):=by
  grind
 obtain ⟨k1,k2,k3⟩:=h1.Av (id:=id) (c:=w.heap.size) (sz:=r.aO) (N:=els.length+news.length) (cap:=cap) (t:=e) (z:=(0,0)) (els:=els++news) (by simp) ho (.inr λo hF=>absurd (h.fU _ _ hF) (Nat.lt_irrefl _)) (.inl h.dU.kX) (by simp_all)
  (λo hF=>absurd (h.fU _ _ hF) (Nat.lt_irrefl _)) (λid' hl hc=>absurd (h.eU _ _ hc) (Nat.lt_irrefl _)) (λid' t sz N N' _ _ hc=>absurd (h.gV _ _ _ hc) (Nat.lt_irrefl _)) (heap_alloc_new w.drew _) (λo _=>by simp only;omega) hall hge
  (λel hel=>by rcases List.mem_append.1 hel with h'|h';exact hes el h';exact hn.vU el h')
  (λj x v hx hv=>by
   rcases hget j x v hx hv with ⟨_,h'⟩|⟨_,h'⟩
   ·grind
   ·exact hsrc.one v (List.mem_of_getElem? h'))
  (λj x v hx hv=>by
   rcases hget j x v hx hv with ⟨h',h''⟩|⟨h',h''⟩
   ·exact (hor j x v h' h'').eO e1.ee
   ·exact (hn.Cj _ x v h' h'').eO e1.ee)
 exact ⟨_,_,_,hrun,k3,k1,e1.gD k2⟩
end
section
variable {P:Program} {T:cN} {b:ek P} {σ:az} {D:Nat->Prop} {g:cf} {a:Act} {w:World}
theorem Ct (P:Program) {sz n c:Nat} {ad:Option Addr} {vs:List Value} (hl:vs.length=n*sz) (hc:0<n*sz->∃ blk base,ad=some ⟨blk,base,none⟩/\∀ i v,vs[i]? =some v->w.cell? ⟨blk,base+i,none⟩=some v) (w':World) (hw:w'.heap=w.heap):
  (Builtin.firstCells sz n (.slice ad n c)).run P w'= .ok vs.toArray w':=by
 have hcell:∀ p,w'.cell? p=w.cell? p:=λp=>by grind [World.cell?]
 cases ad with
 |none=>
  have h0:n*sz=0:=by
   simp_all
  have hv:vs=[]:=List.eq_nil_of_length_eq_zero (by rw [hl,h0]);subst hv;trivial
 |some ad=>
  refine run_firstCells_some (P:=P) w' sz n ad n c vs hl (λj v hj=>?_);have:j<vs.length:=(List.getElem?_eq_some_iff.1 hj).1;grind [qW]
theorem xp.Yc {F:Nat->Nat->Prop} {sz:Nat} {tx:TypeId} {xv:Value} {nv:List Value} (h:xp P w F sz tx xv [] nv):nv=[]:=by
 have:=h.ng.newsLen;simpa using this
theorem Yj (hT:dA P T) (h:bh b σ D g w) {f:Nat} (hf1:g.aZ f=none) {t tx ty e:TypeId} {n0 b0:Nat} {z0:List ae} (hr:cP T t=some ⟨.dK e,n0,b0,z0⟩) {r:lz} (he:cP T e=some r) {news:List (List ae)}
  {nv:List Value} {xv:Value} {ad:Option Addr} (hn:xp P w g.bJ r.aO tx xv news nv) (hpos:0<news.length) (hfit:pD news.length r.xx):
  ∃ val w' g',(Builtin.append_ #[t,tx] ty #[.slice ad 0 0,xv]).run P w= .ok val w'/\aF w' g' (.aL f 0 r.aO news.length true) val/\bh b (aU σ (.af f) (.aR e news.flatten)) (λi=>D i\/i=f) g' w'/\dp g w g' w':=by
 obtain ⟨i,zv,q1,q2,q3,q3',q4,q5,q6,_⟩:=lz.pG hT he;have hrow:=(hT t _ hr).1;simp only at hrow;obtain ⟨hf2,hf3⟩:=hfit;have hsrc:=hn.ng;rw [<-q3] at hsrc;have hrun:=run_append_grow_src (P:=P) w t tx ty e i zv hrow q1 q2 ad 0 0 [] (Ct P (w:=w) (ad:=ad) (n:=0) (c:=0) (sz:=i.size) (vs:=[]) (by simp) (λh0=>absurd h0 (by simp)) w.drew rfl) xv news.length nv hsrc om om (growslice_fits om (by simp_all));rw [Nat.zero_add] at hrun;have hge:=grownCap_ge w news.length 0 e;generalize grownCap w news.length 0 e=cap at hrun hge;have hnl:nv.length=news.length*r.aO:=by rw [hsrc.newsLen,q3]
 have hzl:=H0 zv.cells (cap - news.length) r.aO q4;have harr:(([]++nv).toArray++Builtin.zeroCells zv.cells (cap - news.length))=(nv++(Builtin.zeroCells zv.cells (cap - news.length)).toList).toArray:=by
  simp_all
 rw [harr] at hrun;have hall:(nv++(Builtin.zeroCells zv.cells (cap - news.length)).toList).length=cap*r.aO:=by
  rw [List.length_append,hnl,hzl,<-Nat.add_mul];congr 1;omega
 obtain ⟨h0,e0⟩:=h.pE (w':=w.drew) ((Below.refl _ w).drew);have hln:=lA r.aO news hn.vU;obtain ⟨h1,e1⟩:=h0.Hk (f:=f) hf1 (t:=e) (cells:=news.flatten) (arr:=nv++(Builtin.zeroCells zv.cells (cap - news.length)).toList) (z:=(0,0)) (by grind) (λo _ ho=>by omega) (λj x v hx hv=>by
  have hj:j<news.flatten.length:=(List.getElem?_eq_some_iff.1 hx).1;rw [List.getElem?_append_left om] at hv;exact (hn.Cj j x v hx hv).eO e0.ee)
 refine ⟨_,_,_,hrun,?_,h1,e0.gD e1⟩;refine .kH (cf.mJ _ _ _) (λ_=>rfl) rfl om (λ_=>⟨rfl,rfl,e,?_⟩);unfold World.shape?;have hw:(w.drew.alloc (.cells (nv++(Builtin.zeroCells zv.cells (cap - news.length)).toList).toArray e)).heap[w.drew.heap.size]? =some (.cells (nv++(Builtin.zeroCells zv.cells (cap - news.length)).toList).toArray e):=heap_alloc_new w.drew _;simp_all
theorem Pw (hT:dA P T) (h:bh b σ D g w) {f:Nat} (_hf1:g.aZ f=none) (hf2:g.cu f=none) {t tx ty e:TypeId} {n0 b0:Nat} {z0:List ae} (hr:cP T t=some ⟨.dK e,n0,b0,z0⟩) {r:lz} (he:cP T e=some r) {isNil:Bool} {els news:List (List ae)} {tk:ql}
  {nv:List Value} {xv sv:Value} (hs:aF w g (.ag isNil r.aO els tk) sv) (hn:xp P w g.bJ r.aO tx xv news nv) {v:ae} {us:List (aS×bs)} (hg:(AB σ f e r.aO r.xx isNil tk news els).fV v us):
  ∃ val w' g',(Builtin.append_ #[t,tx] ty #[sv,xv]).run P w= .ok val w'/\aF w' g' v val/\bh b (eG σ us) (λi=>D i\/i=f) g' w'/\dp g w g' w':=by
 obtain ⟨i,zv,q1,q2,q3,q3',q4,q5,q6,_⟩:=lz.pG hT he;have hrow:=(hT t _ hr).1;simp only at hrow;obtain ⟨ad,c,rfl,hp,ht⟩:=hs.jj;obtain ⟨olds,o1,o2,o3,o4,o5,o6,o7⟩:=hp.KA;have hoc:∀ w',w'.heap=w.heap->(Builtin.firstCells r.aO els.length (.slice ad els.length c)).run P w'= .ok olds.toArray w':=λw' hw=>Ct P o1 (λh0=>by
  grind) w' hw
 have zero:news=[]->(Builtin.append_ #[t,tx] ty #[.slice ad els.length c,xv]).run P w= .ok (.slice ad els.length c) w:=λe0=>by
  subst e0;have hs:=hn.ng;rw [hn.Yc,<-q3] at hs;exact YE hrow q1 ad els.length c o3 xv hs
 have notnil:news≠[]->(isNil && news.isEmpty)=false:=λh0=>by simp_all
 unfold AB at hg;cases tk with
 |av=>exact hg.elim
 |bR=>
  simp only at hg;have hc:c=els.length:=ht;split at hg
  ·obtain ⟨h1,e1,e2⟩:=hg;subst e1 e2;exact ⟨_,w,g,zero h1, .jc hp hc,h.iU (λ_ hi=> .inl hi),dp.qg g w⟩
  ·obtain ⟨⟨h1,h2,h3⟩,e1,e2⟩:=hg;subst e1 e2 h1;subst hc;exact Yj hT h _hf1 hr he hn h2 h3
  obtain ⟨hfit,e1,e2⟩:=hg;subst e1 e2
  by_cases h0:news=[]
  ·subst h0;obtain ⟨k1,k2⟩:=h.Cf (id:=f) (N:=els.length+0) (sz:=r.aO) (t:=e) hf2;refine ⟨_,w,_,zero rfl,?_,k1,k2⟩;simp only [List.isEmpty_nil,Bool.and_true,List.append_nil];refine .jc (hp.eO k2.ee) ⟨none,els.length+0,by simp [cf.lP],by simp,λ_=> .inl hc⟩
  ·have hpos:0<news.length:=List.length_pos_iff.2 h0;obtain ⟨val,w',g',k1,k2,k3,k4⟩:=Hs (ty:=ty) hT h hr he (id:=f) (els:=els) (λbk M hM=>by simp_all) hn hfit om o1 hoc o4 o5 o6;refine ⟨val,w',g',k1,?_,k3,k4⟩;grind [k2.Cq]
 |dB id=>
  simp only at hg;cases hrw:σ (.aJ id) with
  |aN e' sz'' N=>
   simp only [hrw] at hg;cases hb1:Nat.beq sz'' r.aO with
   |false=>simp only [hb1] at hg;exact hg.elim
   |true=>
    cases hb2:Nat.beq e' e with
    |false=>simp only [hb1,hb2] at hg;exact hg.elim
    |true=>
     simp only [hb1,hb2] at hg;have ea:=Nat.eq_of_beq_eq_true hb1;have eb:=Nat.eq_of_beq_eq_true hb2;subst ea eb;obtain ⟨⟨hN,hfit⟩,e1,e2⟩:=hg;subst e1 e2 hN;obtain ⟨bk,hbk,hrowc⟩:=h.fA id e' r.aO els.length hrw
     by_cases h0:news=[]
     ·subst h0;refine ⟨_,w,g,zero rfl,?_,(h.sZ (λid'=>?_) (λid'=>?_)).iU (λ_ hi=> .inl hi),dp.qg g w⟩
      ·simp_all
      ·trivial
      ·simp only [eG];grind [gY,cL]
     ·have hpos:0<news.length:=List.length_pos_iff.2 h0
      by_cases hroom:els.length+news.length<=c
      ·obtain ⟨bk',N',t1,t2,t3⟩:=ht;rw [hbk] at t1;cases t1;rcases t3 rfl with t4|⟨bl,tt,rfl,rfl,hshape⟩
       ·omega
       ·obtain ⟨a1,a2,a3,a4,a5,arr,z,a6,a7⟩:=hrowc bl rfl;have hal:arr.length=c*r.aO:=by
         grind [World.shape?]
        have hnl:nv.length=news.length*r.aO:=hn.ng.newsLen;have hsrc:=hn.ng;rw [<-q3] at hsrc;have hle:els.length*r.aO+nv.length<=arr.length:=by rw [hnl,hal,<-Nat.add_mul];exact Nat.mul_le_mul_right _ hroom
        obtain ⟨s1,s2,s3,s4⟩:=EY bl (els.length*r.aO) nv a6 hle a7 hn.ng.one;have hrun:=run_append_room_src (P:=P) w t tx ty e' i hrow q1 bl 0 els.length c xv news.length nv hsrc hroom (by grind) (by grind);rw [Nat.zero_add,q3] at hrun;obtain ⟨h1,e1⟩:=h.Pq hrw hbk s1 (λo ho=>by
         rw [nk s2,nk a6,List.append_assoc,List.getElem?_append_left (by simp;omega),List.getElem?_take,if_pos ho]) ⟨_,z,s2,λo ho=>a7 o (by simp at ho;omega)⟩
        have hfl:(els++news).flatten=els.flatten++news.flatten:=by simp
        have hlen:=lA r.aO els o4;have hln:=lA r.aO news hn.vU;have hold:∀ (j:Nat) (x:ae) (v:Value),els.flatten[j]? =some x->arr[j]? =some v->olds[j]? =some v:=by
         intro j x v hx hv;have hj:j<els.length*r.aO:=by grind
         have hj':j<olds.length:=om;grind [nk]
        have hget:∀ (j:Nat) (x:ae) (v:Value),(els++news).flatten[j]? =some x->(arr.take (els.length*r.aO)++nv++arr.drop (els.length*r.aO+nv.length))[j]? =some v->
          (els.flatten[j]? =some x/\olds[j]? =some v)\/(news.flatten[j - els.length*r.aO]? =some x/\nv[j - els.length*r.aO]? =some v):=by
         intro j x v hx hv;have hj:j<(els++news).flatten.length:=(List.getElem?_eq_some_iff.1 hx).1;rw [hfl,List.length_append,hlen,hln] at hj;rw [hfl] at hx;have mn:min (els.length*r.aO) arr.length=els.length*r.aO:=om;grind
        obtain ⟨k1,k2,k3⟩:=h1.Av (id:=id) (c:=bl) (sz:=r.aO) (N:=els.length+news.length) (cap:=c) (t:=e') (z:=z) (els:=els++news) (by simp) (λbk M hM=>by grind) (.inl ⟨_,hbk⟩) a1 (by grind)
         (λo ho=>by grind) a4 (λid' t' sz' N' N'' hne hs' hc'=>hne (a5 id' t' sz' N' N'' hs' hc')) s2 (λo ho=>a7 o (by simp at ho;omega)) (by simp;omega) hroom
         (λel hel=>by rcases List.mem_append.1 hel with h'|h';exact o4 el h';exact hn.vU el h')
         (λj x v hx hv=>by
          rcases hget j x v hx hv with ⟨_,h'⟩|⟨_,h'⟩
          ·grind
          ·exact hn.ng.one v (List.mem_of_getElem? h'))
         (λj x v hx hv=>by
          rcases hget j x v hx hv with ⟨h',h''⟩|⟨h',h''⟩
          ·exact (o5 j x v h' h'').eO e1.ee
          ·exact (hn.Cj _ x v h' h'').eO e1.ee)
        refine ⟨_,_,_,hrun,?_,k1.iU (λi hi=>?_),e1.gD k2⟩
        ·grind [k3.Cq]
        ·rcases hi with hi|rfl
         ·exact .inl hi
         ·exact .inl (h.ki _ _ hbk)
      ·obtain ⟨val,w',g',k1,k2,k3,k4⟩:=Hs (ty:=ty) hT h hr he (id:=id) (els:=els) (λbk' M hM=>by simp_all) hn hfit om o1 hoc o4 o5 o6;refine ⟨val,w',g',k1,?_,k3.iU (λi hi=>?_),k4⟩
       ·grind [k2.Cq]
       ·rcases hi with hi|rfl
        ·exact .inl hi
        ·exact .inl (h.ki _ _ hbk)
  |_=>simp only [hrw] at hg;exact hg.elim
 |cO id=>
  simp only at hg;cases hrw:σ (.aJ id) with
  |aN e' sz'' N=>
   simp only [hrw] at hg;cases hb1:Nat.beq sz'' r.aO with
   |false=>simp only [hb1] at hg;exact hg.elim
   |true=>
    cases hb2:Nat.beq e' e with
    |false=>simp only [hb1,hb2] at hg;exact hg.elim
    |true=>
     simp only [hb1,hb2] at hg;have ea:=Nat.eq_of_beq_eq_true hb1;have eb:=Nat.eq_of_beq_eq_true hb2;subst ea eb;obtain ⟨⟨hN,hfit⟩,e1,e2⟩:=hg;subst e1 e2 hN;obtain ⟨bk,hbk,hrowc⟩:=h.fA id e' r.aO els.length hrw
     by_cases h0:news=[]
     ·subst h0;refine ⟨_,w,g,zero rfl,?_,(h.sZ (λid'=>?_) (λid'=>?_)).iU (λ_ hi=> .inl hi),dp.qg g w⟩
      ·simp_all
      ·trivial
      ·simp only [eG];grind [gY,cL]
     ·have hpos:0<news.length:=List.length_pos_iff.2 h0
      by_cases hroom:els.length+news.length<=c
      ·obtain ⟨bk',N',t1,t2,t3⟩:=ht;rw [hbk] at t1;cases t1;rcases t3 rfl with ⟨t4,_⟩|⟨bl,tt,rfl,rfl,hshape⟩
       ·omega
       ·obtain ⟨a1,a2,a3,a4,a5,arr,z,a6,a7⟩:=hrowc bl rfl;have hal:arr.length=c*r.aO:=by
         grind [World.shape?]
        have hnl:nv.length=news.length*r.aO:=hn.ng.newsLen;have hsrc:=hn.ng;rw [<-q3] at hsrc;have hle:els.length*r.aO+nv.length<=arr.length:=by rw [hnl,hal,<-Nat.add_mul];exact Nat.mul_le_mul_right _ hroom
        obtain ⟨s1,s2,s3,s4⟩:=EY bl (els.length*r.aO) nv a6 hle a7 hn.ng.one;have hrun:=run_append_room_src (P:=P) w t tx ty e' i hrow q1 bl 0 els.length c xv news.length nv hsrc hroom (by grind) (by grind);rw [Nat.zero_add,q3] at hrun;obtain ⟨h1,e1⟩:=h.Pq hrw hbk s1 (λo ho=>by
         rw [nk s2,nk a6,List.append_assoc,List.getElem?_append_left (by simp;omega),List.getElem?_take,if_pos ho]) ⟨_,z,s2,λo ho=>a7 o (by simp at ho;omega)⟩
        have hfl:(els++news).flatten=els.flatten++news.flatten:=by simp
        have hlen:=lA r.aO els o4;have hln:=lA r.aO news hn.vU;have hold:∀ (j:Nat) (x:ae) (v:Value),els.flatten[j]? =some x->arr[j]? =some v->olds[j]? =some v:=by
         intro j x v hx hv;have hj:j<els.length*r.aO:=by grind
         have hj':j<olds.length:=om;grind [nk]
        have hget:∀ (j:Nat) (x:ae) (v:Value),(els++news).flatten[j]? =some x->(arr.take (els.length*r.aO)++nv++arr.drop (els.length*r.aO+nv.length))[j]? =some v->
          (els.flatten[j]? =some x/\olds[j]? =some v)\/(news.flatten[j - els.length*r.aO]? =some x/\nv[j - els.length*r.aO]? =some v):=by
         intro j x v hx hv;have hj:j<(els++news).flatten.length:=(List.getElem?_eq_some_iff.1 hx).1;rw [hfl,List.length_append,hlen,hln] at hj;rw [hfl] at hx;have mn:min (els.length*r.aO) arr.length=els.length*r.aO:=om;grind
        obtain ⟨k1,k2,k3⟩:=h1.Av (id:=id) (c:=bl) (sz:=r.aO) (N:=els.length+news.length) (cap:=c) (t:=e') (z:=z) (els:=els++news) (by simp) (λbk M hM=>by grind) (.inl ⟨_,hbk⟩) a1 (by grind)
         (λo ho=>by grind) a4 (λid' t' sz' N' N'' hne hs' hc'=>hne (a5 id' t' sz' N' N'' hs' hc')) s2 (λo ho=>a7 o (by simp at ho;omega)) (by simp;omega) hroom
         (λel hel=>by rcases List.mem_append.1 hel with h'|h';exact o4 el h';exact hn.vU el h')
         (λj x v hx hv=>by
          rcases hget j x v hx hv with ⟨_,h'⟩|⟨_,h'⟩
          ·grind
          ·exact hn.ng.one v (List.mem_of_getElem? h'))
         (λj x v hx hv=>by
          rcases hget j x v hx hv with ⟨h',h''⟩|⟨h',h''⟩
          ·exact (o5 j x v h' h'').eO e1.ee
          ·exact (hn.Cj _ x v h' h'').eO e1.ee)
        refine ⟨_,_,_,hrun,?_,k1.iU (λi hi=>?_),e1.gD k2⟩
        ·grind
        ·rcases hi with hi|rfl
         ·exact .inl hi
         ·exact .inl (h.ki _ _ hbk)
      ·obtain ⟨val,w',g',k1,k2,k3,k4⟩:=Hs (ty:=ty) hT h hr he (id:=id) (els:=els) (λbk' M hM=>by simp_all) hn hfit om o1 hoc o4 o5 o6;refine ⟨val,w',g',k1,?_,k3.iU (λi hi=>?_),k4⟩
       ·grind
       ·rcases hi with hi|rfl
        ·exact .inl hi
        ·exact .inl (h.ki _ _ hbk)
  |_=>simp only [hrw] at hg;exact hg.elim
end
end Go.Am
