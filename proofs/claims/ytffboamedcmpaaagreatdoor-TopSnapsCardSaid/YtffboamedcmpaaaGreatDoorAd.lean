import Derived.WalkKit
import Derived.WalkSpells
import Derived.WalkLawsBesides
import Derived.Laws.IdiomStrings
import Derived.Lib.Strings
import Derived.Laws.IdiomCopy
import Derived.Deep.AppendSrc
import Derived.Below
import Derived.Orders
import Derived.Laws.StructEq
import Derived.Test.YtffboamedcmpaaaGreatDoorAa
set_option linter.all false
set_option maxHeartbeats 4000000
set_option maxRecDepth 100000
namespace Go.Am
open Go.RowKit
inductive yC where
 |dm
 |fW
 |je (id:Nat)
 |hJ (id:Nat)
inductive b9 where
 |ax (k:IntKind) (n:Int)
 |eD (b:Bool)
 |fU
 |fD
 |cp (s:List UInt8)
 |eN (cs:List b9)
 |dn (vs:List b9)
 |c8 (b off:Nat)
 |gJ (cs:List b9) (off:Nat)
 |fY
 |a8 (isNil:Bool) (sz:Nat) (els:List (List b9)) (tk:yC)
 |eP (b off sz len:Nat) (full:Bool)
 |eW (f:FuncId) (first captured:List b9)
 |gL
 |gm (t:TypeId) (v:b9)
 |gy
 |gH (b:Nat)
 |gG (b:Nat)
 |gi (b:Nat)
 |ga
inductive fQ where
 |ct (t:Nat)
 |ay (b:Nat)
 |eT (b:Nat)
inductive Lb where
 |jq (clock:Nat) (es:List (Nat×b9×b9))
 |sZ (m since:Nat) (seen:List Nat) (last:Nat)
inductive gC where
 |fB
 |bg (x:b9)
 |dc (t:TypeId) (cells:List b9)
 |eY (t:TypeId) (cells:List b9)
 |eU (t:TypeId) (sz n:Nat)
 |mP (s:List UInt8) (pos:Nat)
 |iD (X:Lb)
 |kh (X:Lb)
 |kn (st:LoopState) (pend:Option Code) (nt:Nat) (tm:List (Nat×b9)) (ps:List Nat) (assign body:Code)
structure gX where
 fP:Nat->Nat->Prop
 fk:Nat->Option Nat
 gF:Nat->Option (Option Nat×Nat)
def adJ (w:World) (F:Nat->Nat->Prop) (sz:Nat) (els:List (List b9)) (ad:Option Addr) (vals:Nat->Nat->Value):Prop:=
 ∀ (i:Nat) (e:List b9) (j:Nat) (x:b9),els[i]? =some e->e[j]? =some x->∃ l s,ad=some ⟨l,s,none⟩/\F l (s+i*sz+j)/\w.cell? ⟨l,s+i*sz+j,none⟩=some (vals i j)
inductive gb (w:World) (F:Nat->Nat->Prop):b9->Value->Prop
 |kS (k n):gb w F (.ax k n) (.int k n)
 |rq (b):gb w F (.eD b) (.bool b)
 |wB:gb w F .fU (.bool true)
 |uR:gb w F .fD (.bool false)
 |lW {s:List UInt8} {b:ByteArray} (h:b.data.toList=s):gb w F (.cp s) (.string b)
 |A9 {cs:List b9} {vs:List Value} (hl:vs.length=cs.length) (h:∀ (i:Nat) (x:b9) (v:Value),cs[i]? =some x->vs[i]? =some v->gb w F x v):gb w F (.eN cs) (.agg vs.toArray)
 |wC {cs:List b9} {vs:List Value} (hl:vs.length=cs.length) (h:∀ (i:Nat) (x:b9) (v:Value),cs[i]? =some x->vs[i]? =some v->gb w F x v):gb w F (.dn cs) (.tuple vs.toArray)
 |IF:gb w F .fY (.pointer none)
 |mG {isNil:Bool} {sz:Nat} {els:List (List b9)} {ad:Option Addr} {c:Nat} (vals:Nat->Nat->Value)
   (hnil:isNil=ad.isNone) (hc:els.length<=c) (hsz:∀ el∈els,el.length=sz) (ha:adJ w F sz els ad vals)
   (hone:∀ (i:Nat) (el:List b9) (j:Nat) (x:b9),els[i]? =some el->el[j]? =some x->(vals i j).oneCell'=true)
   (h:∀ (i:Nat) (el:List b9) (j:Nat) (x:b9),els[i]? =some el->el[j]? =some x->gb w F x (vals i j)):gb w F (.a8 isNil sz els .dm) (.slice ad els.length c)
 |DV (f):gb w F (.eW f [] []) (.func (.func f) #[] #[])
 |ID:gb w F .gL .nilFunc
 |FK {t:TypeId} {x:b9} {v:Value} (h:gb w F x v):gb w F (.gm t x) (.iface t v)
 |IE:gb w F .gy .nilIface
def yD (w:World) (g:gX) (tk:yC) (n sz:Nat) (ad:Option Addr) (c:Nat):Prop:=
 match tk with
 | .dm=>True
 | .fW=>c=n
 | .je id=>∃ k N,g.gF id=some (k,N)/\n<=N/\(n=N->c=n\/∃ b t,k=some b/\ad=some ⟨b,0,none⟩/\w.shape? b=some (t,c*sz))
 | .hJ id=>∃ k N,g.gF id=some (k,N)/\n<=N/\(n=N->(c=0/\n=0)\/∃ b t,k=some b/\ad=some ⟨b,0,none⟩/\w.shape? b=some (t,c*sz))
inductive eH (w:World) (g:gX):b9->Value->Prop
 |fJ {x v} (h:gb w g.fP x v):eH w g x v
 |sd {cs:List b9} {vs:List Value} (hl:vs.length=cs.length) (h:∀ (i:Nat) (x:b9) (v:Value),cs[i]? =some x->vs[i]? =some v->eH w g x v):eH w g (.eN cs) (.agg vs.toArray)
 |nR {cs:List b9} {vs:List Value} (hl:vs.length=cs.length) (h:∀ (i:Nat) (x:b9) (v:Value),cs[i]? =some x->vs[i]? =some v->eH w g x v):eH w g (.dn cs) (.tuple vs.toArray)
 |rr {b off c:Nat} (h:g.fk b=some c):eH w g (.c8 b off) (.pointer (some ⟨c,off,none⟩))
 |vu {cs:List b9} {off blk base:Nat} (vals:Nat->Value) (ha:∀ (j:Nat) (x:b9),cs[j]? =some x->g.fP blk (base+j)/\w.cell? ⟨blk,base+j,none⟩=some (vals j))
   (h:∀ (j:Nat) (x:b9),cs[j]? =some x->gb w g.fP x (vals j)):eH w g (.gJ cs off) (.pointer (some ⟨blk,base+off,none⟩))
 |m7 {isNil:Bool} {sz:Nat} {els:List (List b9)} {tk:yC} {ad:Option Addr} {n c:Nat} (h:gb w g.fP (.a8 isNil sz els .dm) (.slice ad n c)) (ht:yD w g tk n sz ad c):eH w g (.a8 isNil sz els tk) (.slice ad n c)
 |oV {b off sz len cap c:Nat} {full:Bool} {ad:Option Addr} (h:g.fk b=some c) (ha:0<len->ad=some ⟨c,off,none⟩) (hs:ad.isSome) (hl:len<=cap)
   (hf:full=true->off=0/\ad=some ⟨c,0,none⟩/\∃ t,w.shape? c=some (t,cap*sz)):eH w g (.eP b off sz len full) (.slice ad len cap)
 |wD {f:FuncId} {fs cs:List b9} {vs us:List Value} (hl:vs.length=fs.length) (hm:us.length=cs.length) (h:∀ (i:Nat) (x:b9) (v:Value),fs[i]? =some x->vs[i]? =some v->eH w g x v)
   (hh:∀ (i:Nat) (x:b9) (v:Value),cs[i]? =some x->us[i]? =some v->eH w g x v):eH w g (.eW f fs cs) (.func (.func f) vs.toArray us.toArray)
 |wE {t:TypeId} {x:b9} {v:Value} (h:eH w g x v):eH w g (.gm t x) (.iface t v)
 |vt {b c:Nat} (h:g.fk b=some c):eH w g (.gH b) (.pointer (some ⟨c,0,none⟩))
 |wF {b c:Nat} (h:g.fk b=some c):eH w g (.gG b) (.func (.yield c) #[] #[])
 |uc {b c:Nat} (h:g.fk b=some c):eH w g (.gi b) (.map (some c))
 |nY {v}:eH w g .ga v
theorem gb.ka {w w' F F'} (A:∀ b o,F b o->F' b o/\w'.cell? ⟨b,o,none⟩=w.cell? ⟨b,o,none⟩) {x v} (h:gb w F x v):gb w' F' x v:=by
 induction h with
 |kS k n=>exact .kS k n
 |rq b=>exact .rq b
 |wB=>exact .wB
 |uR=>exact .uR
 |lW h=>exact .lW h
 |A9 hl _ c=>exact .A9 hl c
 |wC hl _ c=>exact .wC hl c
 |IF=>exact .IF
 |mG vals l z s y d _ c=>
  refine .mG vals l z s (λi r j x t u=>?_) d c;obtain ⟨q,p,e,B,m⟩:=y i r j x t u;grind
 |DV f=>exact .DV f
 |ID=>exact .ID
 |FK _ c=>exact .FK c
 |IE=>exact .IE
structure zP (g:gX) (w:World) (g':gX) (w':World):Prop where
 jC:∀ b o,g.fP b o->g'.fP b o/\w'.cell? ⟨b,o,none⟩=w.cell? ⟨b,o,none⟩
 oT:∀ id c,g.fk id=some c->g'.fk id=some c/\w'.shape? c=w.shape? c
 zR:∀ id bk N,g.gF id=some (bk,N)->∃ bk' N',g'.gF id=some (bk',N')/\N<=N'/\(N'=N->bk'=bk/\∀ b,bk=some b->w'.shape? b=w.shape? b)
 zQ:∀ id c N,g'.gF id=some (some c,N)->(∃ N0,g.gF id=some (some c,N0))\/∀ o,¬g.fP c o:=by exact λ_ _ N h=> .inl ⟨N,h⟩
structure iN (g:gX) (w:World) (g':gX) (w':World):Prop extends zP g w g' w' where
 wA:w.heap.size<=w'.heap.size
 yz:w.drawn<=w'.drawn
 wy:∀ (d:Nat) (ds:Option (List Deferred)),w.heap[d]? =some (Obj.deferred ds)->w'.heap[d]? =some (Obj.deferred ds)
theorem iN.uO (g w):iN g w g w:=⟨⟨λ_ _ h=>⟨h,rfl⟩,λ_ _ h=>⟨h,rfl⟩,λ_ k N h=>⟨k,N,h,aq _,λ_=>⟨rfl,λ_ _=>rfl⟩⟩,λ_ _ N h=> .inl ⟨N,h⟩⟩,aq _,aq _,λ_ _ h=>h⟩
theorem iN.lF {g g' f w w' j} (h:iN g w g' w') (k:iN g' w' f j):iN g w f j:=by
 refine ⟨⟨λb o z=>?_,λi c m=>⟨(k.oT _ _ (h.oT _ _ m).1).1,((k.oT _ _ (h.oT _ _ m).1).2).trans (h.oT _ _ m).2⟩,λi u N r=>?_,λi c N r=>?_⟩,av h.wA k.wA,av h.yz k.yz,λd s y=>k.wy d s (h.wy d s y)⟩
 .obtain ⟨e,B⟩:=h.jC b o z;obtain ⟨x,E⟩:=k.jC b o e;simp_all
 .obtain ⟨l,p,e,x,F⟩:=h.zR i u N r;obtain ⟨n,q,H,I,J⟩:=k.zR i l p e;grind
 .rcases k.zQ i c N r with ⟨t,e⟩|e
  .exact h.zQ i c t e
  .exact .inr λo A=>e o (h.jC c o A).1
theorem yD.adP {g g' w w'} (h:zP g w g' w') {tk n sz ad c} (t:yD w g tk n sz ad c):yD w' g' tk n sz ad c:=by
 cases tk with
 |dm=>trivial
 |fW=>exact t
 |je id=>
  obtain ⟨f,N,i,j,o⟩:=t;obtain ⟨k,d,l,m,p⟩:=h.zR id f N i;refine ⟨k,d,l,av j m,λe=>?_⟩;grind
 |hJ id=>
  obtain ⟨f,N,i,j,o⟩:=t;obtain ⟨k,d,l,m,p⟩:=h.zR id f N i;refine ⟨k,d,l,av j m,λe=>?_⟩;grind
theorem yD.adQ {g w} {id n sz ad c} (h:yD w g (.hJ id) n sz ad c):yD w g (.je id) n sz ad c:=by
 obtain ⟨k,N,d,f,i⟩:=h;exact ⟨k,N,d,f,λe=>(i e).imp (λ⟨a,b⟩=>a.trans b.symm) (λh=>h)⟩
theorem eH.Ld {g g' w w'} (E:zP g w g' w') {x v} (h:eH w g x v):eH w' g' x v:=by
 induction h with
 |fJ h=>exact .fJ (h.ka E.jC)
 |sd hl _ i=>exact .sd hl i
 |nR hl _ i=>exact .nR hl i
 |rr h=>exact .rr (E.oT _ _ h).1
 |vu vals c h=>
  exact .vu vals (λj x d=>⟨(E.jC _ _ (c j x d).1).1,((E.jC _ _ (c j x d).1).2).trans (c j x d).2⟩) (λj x d=>(h j x d).ka E.jC)
 |m7 h q=>exact .m7 (h.ka E.jC) (q.adP E)
 |oV h c s hl o=>
  exact .oV (E.oT _ _ h).1 c s hl λe=>let ⟨l,m,t,n⟩:=o e;⟨l,m,t,((E.oT _ _ h).2).trans n⟩
 |wD hl p _ _ f k=>exact .wD hl p f k
 |wE _ i=>exact .wE i
 |vt h=>exact .vt (E.oT _ _ h).1
 |wF h=>exact .wF (E.oT _ _ h).1
 |uc h=>exact .uc (E.oT _ _ h).1
 |nY=>exact .nY
theorem eH.oU {g g' w w'} (E:iN g w g' w') {x v} (h:eH w g x v):eH w' g' x v:=h.Ld E.tozP
def FJ (w:World) (g:gX) (c:Nat):Lb->Prop
 | .jq clock es=>∃ r:List MapEntry,w.heap[c]? =some (.map r.toArray clock)/\r.length=es.length/\∀ (i:Nat) (e:MapEntry) (x:Nat×b9×b9),r[i]? =some e->es[i]? =some x->e.born=x.1/\gb w g.fP x.2.1 e.key/\gb w g.fP x.2.2 e.val
 | .sZ m s seen l=>∃ k,g.fk m=some k/\w.heap[c]? =some (.mapIter (some k) s seen.toArray l)
theorem FJ.TO {g g' w w' c X} (E:zP g w g' w') (o:w'.heap[c]? =w.heap[c]?) (h:FJ w g c X):FJ w' g' c X:=by
 cases X with
 |jq clock es=>
  obtain ⟨r,d,f,j⟩:=h;exact ⟨r,o.trans d,f,λi e x l n=>⟨(j i e x l n).1,(j i e x l n).2.1.ka E.jC,(j i e x l n).2.2.ka E.jC⟩⟩
 |sZ m s seen t=>
  obtain ⟨k,d,f⟩:=h;exact ⟨k,(E.oT _ _ d).1,o.trans f⟩
structure La (w:World) (g:gX) (c:Nat) (st:LoopState) (pend:Option Code) (nt:Nat) (tm:List (Nat×b9)) (ps:List Nat) (FF FG:Code) (r:Loop):Prop where
 uQ:w.heap[c]? =some (.loop r)
 IC:r.state=st
 IB:r.pending=pend
 FH:r.tmps.size=nt
 DU:r.params.toList=ps
 FF:r.assign=FF
 FG:r.body=FG
 yB:∀ x∈tm,x.1<nt/\eH w g x.2 (r.tmps.getD x.1 undef)
def gC.jb:gC->Bool
 | .dc ..| .eY ..| .mP ..| .iD ..| .kn ..=>true
 |_=>false
abbrev eK:=fQ->gC
def fQ.CC:fQ->fQ->Bool
 | .ct a, .ct b=>Nat.beq a b
 | .ay a, .ay b=>Nat.beq a b
 | .eT a, .eT b=>Nat.beq a b
 |_,_=>false
theorem fQ.IA {a b:fQ}:a.CC b=true↔a=b:=by
 cases a<;>cases b<;>simp [fQ.CC]
def fc (σ:eK) (l:fQ) (c:gC):eK:=λd=>match d.CC l with|true=>c|false=>σ d
theorem lX (σ:eK) (l:fQ) (c:gC):fc σ l c l=c:=by
 grind [fQ.IA,fc]
theorem g9 {σ:eK} {l d:fQ} {c:gC} (h:d≠l):fc σ l c d=σ d:=by
 grind [fQ.IA,fc]
def ad8:List (String×IntKind×List Int):=[("gunwale/sums.steps", .u32,[0,79764919])]
def sX (P:Program) (w:World):Prop:=∀ x∈ad8,∀ i,P.globalNamed x.1=some i->∀ (j:Nat) (z:Int),x.2.2[j]? =some z->w.cell? ⟨i,j,none⟩=some (.int x.2.1 z)
theorem TV {w w' B} (h:Below B w w') {k o} (c:k<B):w'.cell? ⟨k,o,none⟩=w.cell? ⟨k,o,none⟩:=h.cell (p:=⟨k,o,none⟩) c
theorem Ug {w w' B} (h:Below B w w') {k} (c:k<B):w'.shape? k=w.shape? k:=by
 unfold World.shape?;rw [h.block k c]
theorem ON {w:World} {k o:Nat} {v:Value} (h:w.cell? ⟨k,o,none⟩=some v):k<w.heap.size:=by
 rcases bu k w.heap.size with hl|hl
 .exact hl
 .have:w.heap[k]? =none:=by simp [hl]
  grind [World.cell?]
theorem sX.adK {P:Program} {w w':World} (h:sX P w) {B:Nat} (d:Below B w w') (c:w.heap.size<=B):sX P w':=λx f i e j z k=>by
 have:=h x f i e j z k;rw [TV d (aX (ON this) c)];exact this
structure sV (ex:Nat->Prop) (B:Nat) (w w':World):Prop where
 Ir:w'.os=w.os
 It:w'.tape=w.tape
 Is:w'.output=w.output
 pZ:w.heap.size<=w'.heap.size
 wv:∀ k,k<B->¬ex k->w'.heap[k]? =w.heap[k]?
 zN:∀ k,k<B->w'.shape? k=w.shape? k
theorem adV {B w w'} (h:Below B w w') {k} (c:k<B):w'.shape? k=w.shape? k:=by
 unfold World.shape?;rw [h.block k c]
theorem sV.Oz {e B w w'} (h:Below B w w'):sV e B w w':=⟨h.os,h.tape,h.output,h.size,λk c _=>h.block k c,λ_ c=>adV h c⟩
theorem sV.Oy {e B w w'} (h:sV e B w w') (c:∀ k,¬e k):Below B w w':=⟨h.Ir,h.It,h.Is,h.pZ,λk d=>h.wv k d (c k)⟩
theorem sV.K4 (e B w):sV e B w w:= .Oz (Below.refl B w)
theorem sV.Cy {e B w w' d} (h:sV e B w w') (k:sV e B w' d):sV e B w d:=
 ⟨k.Ir.trans h.Ir,k.It.trans h.It,k.Is.trans h.Is,av h.pZ k.pZ,λi c n=>(k.wv i c n).trans (h.wv i c n),λi c=>(k.zN i c).trans (h.zN i c)⟩
structure jL (P:Program) where
 pH:World
 Cx:Nat->Nat->Prop
 sU:Nat->Prop
 K3:∀ w,sV sU pH.heap.size pH w->sX P w
 Ox:∀ k o,Cx k o->k<pH.heap.size
 TG:∀ k o,Cx k o->¬sU k
def jL.A5 {P:Program} (w:World) (F:Nat->Nat->Prop) (d:sX P w) (c:∀ k o,F k o->k<w.heap.size):jL P:=⟨w,F,λ_=>False,λ_ h=>d.adK (h.Oy λ_ h=>h) (aq _),c,λ_ _ _ h=>h⟩
def jL.wu {P:Program} (b:jL P) (c:Nat):Prop:=b.pH.heap.size<=c\/b.sU c
structure se where
 DY:gX
 yE:World
 Li:Nat
 OG:∀ id c,DY.fk id=some c->id<Li
 IG:∀ id x,DY.gF id=some x->id<Li
structure fl {P:Program} (b:jL P) (σ:eK) (D:Nat->Prop) (g:gX) (w:World):Prop where
 jF:sV b.sU b.pH.heap.size b.pH w
 lv:∀ k o,g.fP k o->k<w.heap.size
 pq:∀ k o,b.Cx k o->g.fP k o
 oE:∀ k o,g.fP k o->k<b.pH.heap.size->¬b.sU k->b.Cx k o
 pI:∀ id c,g.fk id=some c->D id
 oF:∀ id x,g.gF id=some x->D id
 ko:∀ id c,g.fk id=some c->c<w.heap.size
 mc:∀ id c N,g.gF id=some (some c,N)->c<w.heap.size
 iR:∀ id,(σ (.ay id)).jb=true->∃ c,g.fk id=some c/\b.wu c/\c<w.heap.size/\(∀ o,¬g.fP c o)
 sc:∀ id t cells c,σ (.ay id)= .dc t cells->g.fk id=some c->∃ arr:List Value,w.heap[c]? =some (.cells arr.toArray t (0,0))/\arr.length=cells.length/\
  ∀ (i:Nat) (x:b9) (v:Value),cells[i]? =some x->arr[i]? =some v->eH w g x v
 sY:∀ id t cells c,σ (.ay id)= .eY t cells->g.fk id=some c->∃ (arr:List Value) (z:Nat×Nat),w.heap[c]? =some (.cells arr.toArray t z)/\cells.length<=arr.length/\(∀ o,o<arr.length->¬(z.1<=o/\o<z.2))/\
  ∀ (i:Nat) (x:b9) (v:Value),cells[i]? =some x->arr[i]? =some v->gb w g.fP x v
 Ix:∀ id s pos c,σ (.ay id)= .mP s pos->g.fk id=some c->∃ sb:ByteArray,w.heap[c]? =some (.stringIter sb pos)/\sb.data.toList=s
 xz:∀ id X c,σ (.ay id)= .iD X->g.fk id=some c->FJ w g c X
 pJ:∀ id X c,σ (.ay id)= .kh X->g.fk id=some c->c<b.pH.heap.size/\¬b.sU c/\FJ b.pH ⟨λk o=>b.Cx k o/\¬b.sU k,λ_=>none,λ_=>none⟩ c X
 CB:∀ id st pend nt tm ps assign body c,σ (.ay id)= .kn st pend nt tm ps assign body->g.fk id=some c->∃ r,La w g c st pend nt tm ps assign body r
 np:∀ id id' c,(σ (.ay id)).jb=true->(σ (.ay id')).jb=true->g.fk id=some c->g.fk id'=some c->id=id'
 ln:∀ id t sz N,σ (.eT id)= .eU t sz N->∃ bk,g.gF id=some (bk,N)/\∀ c,bk=some c->b.wu c/\c<w.heap.size/\(∀ o,g.fP c o->o<N*sz)/\
  (∀ id',(σ (.ay id')).jb=true->g.fk id'≠some c)/\(∀ id' t' sz' N' N'',σ (.eT id')= .eU t' sz' N'->g.gF id'=some (some c,N'')->id'=id)/\
  ∃ (arr:List Value) (z:Nat×Nat),w.heap[c]? =some (.cells arr.toArray t z)/\∀ o,o<arr.length->¬(z.1<=o/\o<z.2)
theorem fl.DS {P:Program} {b:jL P} {σ:eK} {D:Nat->Prop} {g:gX} {w:World} (h:fl b σ D g w):sX P w:=b.K3 w h.jF
section
variable {P:Program} {b:jL P} {σ:eK} {D D':Nat->Prop} {g:gX} {w w':World}
theorem La.TN {g g' c st p nt t e s body r} (E:zP g w g' w') (f:w'.heap[c]? =w.heap[c]?) (h:La w g c st p nt t e s body r):La w' g' c st p nt t e s body r:=
 ⟨f.trans h.uQ,h.IC,h.IB,h.FH,h.DU,h.FF,h.FG,λx d=>⟨(h.yB x d).1,(h.yB x d).2.Ld E⟩⟩
theorem fl.A7 (h:fl b σ D g w) (e:Below w.heap.size w w') (i:w.drawn<=w'.drawn) {F'} (n:∀ k o,g.fP k o->F' k o):iN g w {g with fP:=F'} w':=
 ⟨⟨λk o l=>⟨n k o l,TV e (h.lv k o l)⟩,λj c f=>⟨f,Ug e (h.ko j c f)⟩,
  λj m N r=>⟨m,N,r,aq _,λ_=>⟨rfl,λc f=>by subst f;exact Ug e (h.mc j c N r)⟩⟩,λ_ _ N h=> .inl ⟨N,h⟩⟩,e.size,i,
  λd s i=>(e.block d (bm.1 i).1).trans i⟩
theorem fl.CA (h:fl b σ D g w) (j:Below w.heap.size w w') (hd:w.drawn<=w'.drawn) {F'} (R:∀ k o,g.fP k o->F' k o)
  (u:∀ k o,F' k o->g.fP k o\/(w.heap.size<=k/\k<w'.heap.size)):fl b σ D {g with fP:=F'} w':=by
 have I:=h.A7 j hd R;have hW:=h.jF.pZ;refine ⟨h.jF.Cy (.Oz (j.mono hW)),λk o A=>?_,λk o A=>R k o (h.pq k o A),λk o A J B=>?_,h.pI,h.oF,λd c e=>aX (h.ko d c e) j.size,
  λd c N e=>aX (h.mc d c N e) j.size,λd hl=>?_,λd t l c n e=>?_,λd t l c n e=>?_,λd s L c n e=>?_,λd X c n e=>?_,h.pJ,λd st E nt tm ps p y c n e=>?_,h.np,λd t sz N n=>?_⟩
 .rcases u k o A with f|f
  .exact aX (h.lv k o f) j.size
  .exact f.2
 .rcases u k o A with f|f
  .exact h.oE k o f J B
  .omega
 .obtain ⟨c,f,q,H,Q⟩:=h.iR d hl;grind [j.size]
 .obtain ⟨m,f,q,H⟩:=h.sc d t l c n e;exact ⟨m,(j.block c (h.ko d c e)).trans f,q,λi x v B K=>(H i x v B K).oU I⟩
 .obtain ⟨m,z,f,q,H,Q⟩:=h.sY d t l c n e;exact ⟨m,z,(j.block c (h.ko d c e)).trans f,q,H,λi x v B K=>(Q i x v B K).ka I.jC⟩
 .obtain ⟨sb,f,q⟩:=h.Ix d s L c n e;exact ⟨sb,(j.block c (h.ko d c e)).trans f,q⟩
 .exact (h.xz d X c n e).TO I.tozP (j.block c (h.ko d c e))
 .obtain ⟨r,hr⟩:=h.CB d st E nt tm ps p y c n e;exact ⟨r,hr.TN I.tozP (j.block c (h.ko d c e))⟩
 .obtain ⟨bk,f,q⟩:=h.ln d t sz N n;refine ⟨bk,f,λc e=>?_⟩;obtain ⟨S,O,a3,U,W,m,z,Y,Z⟩:=q c e;refine ⟨S,aX O j.size,λo ho=>?_,U,W,m,z,(j.block c O).trans Y,Z⟩;grind
theorem fl.mQ (h:fl b σ D g w) (e:∀ i,D i->D' i):fl b σ D' g w:=
 ⟨h.jF,h.lv,h.pq,h.oE,λi c d=>e i (h.pI i c d),λi c d=>e i (h.oF i c d),h.ko,h.mc,h.iR,h.sc,h.sY,h.Ix,h.xz,h.pJ,h.CB,h.np,h.ln⟩
def qP (w:World) (g:gX) (c:Nat):gC->Prop
 | .dc t cells=>∃ d:List Value,w.heap[c]? =some (.cells d.toArray t (0,0))/\d.length=cells.length/\∀ (i:Nat) (x:b9) (v:Value),cells[i]? =some x->d[i]? =some v->eH w g x v
 | .eY t cells=>∃ (d:List Value) (z:Nat×Nat),w.heap[c]? =some (.cells d.toArray t z)/\cells.length<=d.length/\(∀ o,o<d.length->¬(z.1<=o/\o<z.2))/\
  ∀ (i:Nat) (x:b9) (v:Value),cells[i]? =some x->d[i]? =some v->gb w g.fP x v
 | .mP s pos=>∃ e:ByteArray,w.heap[c]? =some (.stringIter e pos)/\e.data.toList=s
 | .iD X=>FJ w g c X
 | .kn st pend nt tm ps assign body=>∃ r,La w g c st pend nt tm ps assign body r
 |_=>True
theorem qP.Iu {g g' c X} (E:zP g w g' w') (j:w'.heap[c]? =w.heap[c]?) (h:qP w g c X):qP w' g' c X:=by
 cases X with
 |dc t cells=>
  obtain ⟨d,e,f,k⟩:=h;exact ⟨d,j.trans e,f,λi x v m l=>(k i x v m l).Ld E⟩
 |eY t cells=>
  obtain ⟨d,z,e,f,k,n⟩:=h;exact ⟨d,z,j.trans e,f,k,λi x v m l=>(n i x v m l).ka E.jC⟩
 |mP s pos=>
  obtain ⟨p,e,f⟩:=h;exact ⟨p,j.trans e,f⟩
 |iD X=>exact FJ.TO E j h
 |kn st pend nt tm ps assign body=>
  obtain ⟨r,o⟩:=h;exact ⟨r,o.TN E j⟩
 |_=>trivial
theorem qP.DP {g g' c X} (E:iN g w g' w') (d:w'.heap[c]? =w.heap[c]?) (h:qP w g c X):qP w' g' c X:=h.Iu E.tozP d
theorem fl.po (h:fl b σ D g w) {id c} (d:g.fk id=some c):qP w g c (σ (.ay id)):=by
 cases e:σ (.ay id) with
 |dc t cells=>exact h.sc id t cells c e d
 |eY t cells=>exact h.sY id t cells c e d
 |mP s pos=>exact h.Ix id s pos c e d
 |iD X=>exact h.xz id X c e d
 |kn st pend nt tm ps assign body=>exact h.CB id st pend nt tm ps assign body c e d
 |_=>trivial
theorem fl.qs (e:sV b.sU b.pH.heap.size b.pH w) (y:∀ k o,g.fP k o->k<w.heap.size) (J:∀ k o,b.Cx k o->g.fP k o) (K:∀ k o,g.fP k o->k<b.pH.heap.size->¬b.sU k->b.Cx k o)
  (n:∀ id c,g.fk id=some c->D id) (r:∀ id x,g.gF id=some x->D id) (j:∀ id c,g.fk id=some c->c<w.heap.size) (m:∀ id c N,g.gF id=some (some c,N)->c<w.heap.size)
  (p:∀ id,(σ (.ay id)).jb=true->∃ c,g.fk id=some c/\b.wu c/\c<w.heap.size/\(∀ o,¬g.fP c o))
  (l:∀ id c,(σ (.ay id)).jb=true->g.fk id=some c->qP w g c (σ (.ay id)))
  (A:∀ id i c,(σ (.ay id)).jb=true->(σ (.ay i)).jb=true->g.fk id=some c->g.fk i=some c->id=i)
  (O:∀ id X c,σ (.ay id)= .kh X->g.fk id=some c->c<b.pH.heap.size/\¬b.sU c/\FJ b.pH ⟨λk o=>b.Cx k o/\¬b.sU k,λ_=>none,λ_=>none⟩ c X)
  (row:∀ id t sz N,σ (.eT id)= .eU t sz N->∃ E,g.gF id=some (E,N)/\∀ c,E=some c->b.wu c/\c<w.heap.size/\(∀ o,g.fP c o->o<N*sz)/\
  (∀ i,(σ (.ay i)).jb=true->g.fk i≠some c)/\(∀ i Q B I u,σ (.eT i)= .eU Q B I->g.gF i=some (some c,u)->i=id)/\
  ∃ (arr:List Value) (z:Nat×Nat),w.heap[c]? =some (.cells arr.toArray t z)/\∀ o,o<arr.length->¬(z.1<=o/\o<z.2)):fl b σ D g w:=
 ⟨e,y,J,K,n,r,j,m,p,λid t f c h d=>by have:=l id c (by rw [h];rfl) d;rw [h] at this;exact this,
  λid t f c h d=>by have:=l id c (by rw [h];rfl) d;rw [h] at this;exact this,λid s L c h d=>by have:=l id c (by rw [h];rfl) d;rw [h] at this;exact this,
  λid X c h d=>by have:=l id c (by rw [h];rfl) d;rw [h] at this;exact this,O,
  λid U H R W S q F c h d=>by have:=l id c (by rw [h];rfl) d;rw [h] at this;exact this,A,row⟩
def gX.sW (g:gX) (f c:Nat):gX:={g with fk:=λi=>if i=f then some c else g.fk i}
theorem gX.qR (g:gX) (f c:Nat):(g.sW f c).fk f=some c:=by simp [gX.sW]
theorem gX.yA (g:gX) {f c i:Nat} (h:i≠f):(g.sW f c).fk i=g.fk i:=by simp [gX.sW,h]
theorem iN.Iv {f c:Nat} (i:g.fk f=none):iN g w (g.sW f c) w:=
 ⟨⟨λ_ _ h=>⟨h,rfl⟩,λj d e=>⟨by grind [gX.yA],rfl⟩,λ_ k N h=>⟨k,N,h,aq _,λ_=>⟨rfl,λ_ _=>rfl⟩⟩,λ_ _ N h=> .inl ⟨N,h⟩⟩,aq _,aq _,λ_ _ h=>h⟩
theorem fl.K8 (h:fl b σ D g w) {f c:Nat} {X:gC} (hf:g.fk f=none) (A:X.jb=true) (B:b.wu c) (E:c<w.heap.size) (F:∀ o,¬g.fP c o)
  (O:∀ id,(σ (.ay id)).jb=true->g.fk id≠some c) (Q:∀ id t sz N y,σ (.eT id)= .eU t sz N->g.gF id≠some (some c,y)) (H:qP w g c X):
  fl b (fc σ (.ay f) X) (λi=>D i\/i=f) (g.sW f c) w:=by
 have L:iN g w (g.sW f c) w:=iN.Iv hf;have r:∀ id,id≠f->(fc σ (.ay f) X) (.ay id)=σ (.ay id):=λid hne=>g9 (by simp_all)
 have J:(fc σ (.ay f) X) (.ay f)=X:=lX _ _ _;have K:∀ id,(fc σ (.ay f) X) (.eT id)=σ (.eT id):=λid=>g9 (by intro e;cases e)
 refine fl.qs h.jF h.lv h.pq h.oE (λid l j=>?_) (λid x hx=> .inl (h.oF id x hx)) (λid l j=>?_) h.mc (λid p=>?_) (λid l p j=>?_) (λid k l p q j m=>?_) (λid R l s j=>by
  by_cases d:id=f
  .subst d;rw [J] at s;subst s;cases A
  .rw [r id d] at s;rw [gX.yA g d] at j;exact h.pJ id R l s j) (λid t sz N s=>?_)
 .by_cases d:id=f
  .exact .inr d
  .rw [gX.yA g d] at j;exact .inl (h.pI id l j)
 .by_cases d:id=f
  .grind [gX.qR]
  .rw [gX.yA g d] at j;exact h.ko id l j
 .by_cases d:id=f
  .subst d;exact ⟨c,gX.qR _ _ _,B,E,F⟩
  .rw [r id d] at p;rw [gX.yA g d];exact h.iR id p
 .by_cases d:id=f
  .subst d;rw [gX.qR] at j;cases j;rw [J];exact H.DP L rfl
  .rw [r id d] at p ⊢;rw [gX.yA g d] at j;exact (h.po j).DP L rfl
 .by_cases d:id=f
  .grind [gX.qR,gX.yA]
  .by_cases n:k=f
   .grind [gX.qR,gX.yA]
   .rw [r id d] at p;rw [r k n] at q;rw [gX.yA g d] at j;rw [gX.yA g n] at m;exact h.np id k l p q j m
 .rw [K] at s;obtain ⟨bk,h1,h2⟩:=h.ln id t sz N s;refine ⟨bk,h1,λl j=>?_⟩;obtain ⟨S,U,W,a4,Y,Z⟩:=h2 l j;refine ⟨S,U,W,λk q=>?_,λk t' I y z u=>?_,Z⟩
  .grind [gX.qR,gX.yA]
  .rw [K] at u;exact Y k t' I y z u
structure oH (c:Nat) (w w':World):Prop where
 OJ:w'.os=w.os
 OL:w'.tape=w.tape
 OK:w'.output=w.output
 qt:w'.heap.size=w.heap.size
 wG:∀ k,k≠c->w'.heap[k]? =w.heap[k]?
 II:w'.shape? c=w.shape? c
 adR:∀ (ds:Option (List Deferred)),w.heap[c]? =some (Obj.deferred ds)->w'.heap[c]? =some (Obj.deferred ds)
 IH:w'.drawn=w.drawn
theorem sV.OA {x c B} (h:oH c w w') (d:B<=c\/x c):sV x B w w':=by
 refine ⟨h.OJ,h.OL,h.OK,by grind [h.qt],λk f n=>h.wG k (λe=>?_),λk _=>?_⟩
 .grind
 .by_cases e:k=c
  .subst e;exact h.II
  .unfold World.shape?;rw [h.wG k e]
theorem oH.OH {c k o} (h:oH c w w') (d:k≠c):w'.cell? ⟨k,o,none⟩=w.cell? ⟨k,o,none⟩:=by
 unfold World.cell?;simp only [h.wG k d]
theorem oH.FR {c} (h:oH c w w') (k):w'.shape? k=w.shape? k:=by
 by_cases d:k=c
 .grind [h.II]
 .unfold World.shape?;rw [h.wG k d]
theorem oH.OI {c:Nat} (h:oH c w w') (d:Nat) (s) (e:w.heap[d]? =some (.deferred s)):w'.heap[d]? =some (.deferred s):=by
 by_cases k:d=c
 .subst k;exact h.adR s e
 .exact (h.wG d k).trans e
theorem iN.tZ {c:Nat} (d:oH c w w') (F:∀ o,¬g.fP c o):iN g w g w':=
 ⟨⟨λ_ o k=>⟨k,d.OH (λe=>F o (e▸k))⟩,λ_ c i=>⟨i,d.FR c⟩,λ_ f N h=>⟨f,N,h,aq _,λ_=>⟨rfl,λc _=>d.FR c⟩⟩,λ_ _ N h=> .inl ⟨N,h⟩⟩,cE d.qt.symm,cE d.IH.symm,d.OI⟩
theorem fl.ot (h:fl b σ D g w) {id c X} (H:(σ (.ay id)).jb=true) (s:g.fk id=some c) (r:oH c w w') (hcl:X.jb=true->qP w' g c X) (hro:∀ Y,X≠ .kh Y:=by intro Y e;cases e):
  fl b (fc σ (.ay id) X) D g w'/\iN g w g w':=by
 obtain ⟨x,hc',A,hc2,F⟩:=h.iR id H;have:x=c:=by simp_all
 subst this;have K:iN g w g w':=iN.tZ r F;have J:∀ d,d≠id->(fc σ (.ay id) X) (.ay d)=σ (.ay d):=λd q=>g9 (by simp_all)
 have e1:(fc σ (.ay id) X) (.ay id)=X:=lX _ _ _;have Z:∀ d,(fc σ (.ay id) X) (.eT d)=σ (.eT d):=λd=>g9 (by intro e;cases e)
 have p:∀ d,((fc σ (.ay id) X) (.ay d)).jb=true->(σ (.ay d)).jb=true:=λd h'=>by
  grind
 refine ⟨fl.qs (h.jF.Cy (.OA r A)) (λk o E=>by rw [r.qt];exact h.lv k o E) h.pq h.oE h.pI h.oF (λid c s=>by rw [r.qt];exact h.ko id c s) (λid c N s=>by rw [r.qt];exact h.mc id c N s)
  (λd n=>by rw [r.qt];exact h.iR d (p d n)) (λd l n f=>?_) (λi j k B hj=>h.np i j k (p i B) (p j hj)) (λd Y l u f=>by
   by_cases m:d=id
   .simp_all
   .rw [J d m] at u;exact h.pJ d Y l u f) (λd t sz N u=>?_),K⟩
 .by_cases m:d=id
  .simp_all
  .rw [J d m] at n ⊢;have q:l≠x:=λe=>m (h.np d id x n H (e▸f) s)
   exact (h.po f).DP K (r.wG l q)
 .rw [Z] at u;obtain ⟨W,h1,h2⟩:=h.ln d t sz N u;refine ⟨W,h1,λk E=>?_⟩;obtain ⟨O,Q,R,I,a5,y,z,S,U⟩:=h2 k E;have q:k≠x:=λe=>I id H (e▸s)
  exact ⟨O,by rw [r.qt];exact Q,R,λi B=>I i (p i B),λi t' sz' N' L hs'=>by grind,y,z,(r.wG k q).trans S,U⟩
theorem fl.TM (h:fl b σ D g w) {id c sz N:Nat} {t} (X:σ (.eT id)= .eU t sz N) (W:g.gF id=some (some c,N)) (d:oH c w w') (u:∀ o,o<N*sz->w'.cell? ⟨c,o,none⟩=w.cell? ⟨c,o,none⟩)
  (U:∃ (arr:List Value) (z:Nat×Nat),w'.heap[c]? =some (.cells arr.toArray t z)/\∀ o,o<arr.length->¬(z.1<=o/\o<z.2)):fl b σ D g w'/\iN g w g w':=by
 obtain ⟨m,A,S⟩:=h.ln id t sz N X;have:m=some c:=by rw [W] at A;cases A;rfl
 subst this;obtain ⟨F,Z,a3,H,a5,_⟩:=S c rfl;have E:iN g w g w':=⟨⟨λk o p=>⟨p,by
  by_cases j:k=c
  .grind
  .exact d.OH j⟩,λ_ c n=>⟨n,d.FR c⟩,λ_ m N h=>⟨m,N,h,aq _,λ_=>⟨rfl,λc _=>d.FR c⟩⟩,λ_ _ N h=> .inl ⟨N,h⟩⟩,cE d.qt.symm,cE d.IH.symm,d.OI⟩
 refine ⟨fl.qs (h.jF.Cy (.OA d F)) (λk o p=>by rw [d.qt];exact h.lv k o p) h.pq h.oE h.pI h.oF (λid c n=>by rw [d.qt];exact h.ko id c n) (λid c N n=>by rw [d.qt];exact h.mc id c N n)
  (λi l=>by rw [d.qt];exact h.iR i l) (λi q l f=>?_) h.np h.pJ (λi Y y B x=>?_),E⟩
 .exact (h.po f).DP E (d.wG q (λe=>H i l (e▸f)))
 .obtain ⟨m,r,s⟩:=h.ln i Y y B x;refine ⟨m,r,λk p=>?_⟩;obtain ⟨I,J,K,L,O,arr,z,Q,R⟩:=s k p;refine ⟨I,by rw [d.qt];exact J,K,L,O,?_⟩
  by_cases j:k=c
  .grind
  .exact ⟨arr,z,(d.wG k j).trans Q,R⟩
def gX.uP (g:gX) (id c N sz:Nat):gX:={g with fP:=λk o=>g.fP k o\/(k=c/\o<N*sz),gF:=λi=>if i=id then some (some c,N) else g.gF i}
theorem gX.FD (g:gX) (id c N sz:Nat):(g.uP id c N sz).gF id=some (some c,N):=by simp [gX.uP]
theorem gX.DR (g:gX) {id c N sz i:Nat} (h:i≠id):(g.uP id c N sz).gF i=g.gF i:=by simp [gX.uP,h]
theorem iN.TL {id c N sz:Nat} (n:∀ d M,g.gF id=some (d,M)->M<N) (r:(∃ e,g.gF id=some (some c,e))\/∀ o,¬g.fP c o):iN g w (g.uP id c N sz) w:=by
 refine ⟨⟨λk o m=>⟨.inl m,rfl⟩,λid c f=>⟨f,rfl⟩,λi d M j=>?_,λi k M j=>?_⟩,aq _,aq _,λ_ _ h=>h⟩
 by_cases l:i=id
 .grind [gX.FD]
 .grind [gX.DR]
 grind [gX.FD,gX.DR]
theorem fl.adM (h:fl b σ D g w) {id c N sz:Nat} {t:TypeId} (m:∀ H M,g.gF id=some (H,M)->M<N) (O:(∃ Z,g.gF id=some (some c,Z))\/∀ o,¬g.fP c o) (p:b.wu c) (y:c<w.heap.size) (K:∀ o,g.fP c o->o<N*sz)
  (A:∀ id,(σ (.ay id)).jb=true->g.fk id≠some c) (B:∀ d t sz N q,d≠id->σ (.eT d)= .eU t sz N->g.gF d≠some (some c,q))
  (L:∃ (arr:List Value) (z:Nat×Nat),w.heap[c]? =some (.cells arr.toArray t z)/\∀ o,o<arr.length->¬(z.1<=o/\o<z.2)):
  fl b (fc σ (.eT id) (.eU t sz N)) (λi=>D i\/i=id) (g.uP id c N sz) w:=by
 have hE:iN g w (g.uP id c N sz) w:=iN.TL m O;have u:∀ d,(fc σ (.eT id) (.eU t sz N)) (.ay d)=σ (.ay d):=λd=>g9 (by intro e;cases e)
 have e1:(fc σ (.eT id) (.eU t sz N)) (.eT id)= .eU t sz N:=lX _ _ _;have e2:∀ d,d≠id->(fc σ (.eT id) (.eU t sz N)) (.eT d)=σ (.eT d):=λd R=>g9 (by simp_all)
 refine fl.qs h.jF (λk o f=>?_) (λk o f=> .inl (h.pq k o f)) (λk o f Q F=>?_) (λi c hc=> .inl (h.pI i c hc)) (λi x F=>?_) h.ko (λi k q f=>?_) (λi n=>?_) (λi k n f=>?_) (λi j k U E=>?_) (λi Y k s f=>by rw [u] at s;exact h.pJ i Y k s f) (λi S r q s=>?_)
 .rcases f with f|⟨rfl,_⟩
  .exact h.lv k o f
  .exact y
 .rcases f with f|⟨rfl,_⟩
  .exact h.oE k o f Q F
  .rcases p with p|p
   .omega
   trivial
 .by_cases l:i=id
  .exact .inr l
  .rw [gX.DR g l] at F;exact .inl (h.oF i x F)
 .by_cases l:i=id
  .grind [gX.FD]
  .rw [gX.DR g l] at f;exact h.mc i k q f
 .rw [u] at n;obtain ⟨k,I,J,h3,h4⟩:=h.iR i n;refine ⟨k,I,J,h3,λo m=>?_⟩;rcases m with m|⟨rfl,_⟩
  .exact h4 o m
  simp_all
 .rw [u] at n ⊢;exact (h.po f).DP hE rfl
 .rw [u] at U E;exact h.np i j k U E
 .by_cases l:i=id
  .subst l;rw [e1] at s;cases s;refine ⟨some c,gX.FD _ _ _ _ _,λk f=>?_⟩;cases f;refine ⟨p,y,λo m=>?_,λi n=>?_,λj S r q X E hr=>?_,L⟩
   .rcases m with m|⟨_,m⟩
    .exact K o m
    .exact m
   .rw [u] at n;exact A i n
   grind [gX.DR]
  .rw [e2 i l] at s;obtain ⟨H,I,J⟩:=h.ln i S r q s;refine ⟨H,by grind [gX.DR],λk f=>?_⟩;obtain ⟨b1,b2,b3,b4,b5,b6⟩:=J k f;have R:k≠c:=λe=>B i S r q q l s (by rw [I,f,e])
   refine ⟨b1,b2,λo m=>?_,λj n=>?_,λj t'' W M M' E hr=>?_,b6⟩
   .rcases m with m|⟨e,_⟩
    .exact b3 o m
    omega
   .rw [u] at n;exact b4 j n
   grind [gX.FD,gX.DR]
theorem fl.xy (h:fl b σ D g w) (l):fl b (fc σ l .fB) D g w:=by
 have o:∀ d,((fc σ l .fB) (.ay d)).jb=true->(fc σ l .fB) (.ay d)=σ (.ay d):=λd f=>by
  by_cases e:(fQ.ay d)=l
  .subst e;rw [lX] at f;cases f
  .exact g9 e
 have r:∀ d t s N,(fc σ l .fB) (.eT d)= .eU t s N->σ (.eT d)= .eU t s N:=λd t s N f=>by
  grind [lX,g9]
 refine fl.qs h.jF h.lv h.pq h.oE h.pI h.oF h.ko h.mc (λd f=>h.iR d (by grind)) (λd c f m=>by rw [o d f];exact h.po m)
  (λi j k x y=>h.np i j k (by grind) (by grind)) (λd Y c n m=>h.pJ d Y c (by
   grind [lX,g9]) m) (λd t s N n=>?_)
 obtain ⟨p,q,u⟩:=h.ln d t s N (r _ _ _ _ n);grind
theorem fl.xx {σ'} (h:fl b σ D g w) (e:∀ id,σ' (.ay id)=σ (.ay id)) (f:∀ id,σ' (.eT id)=σ (.eT id)):fl b σ' D g w:=by
 refine fl.qs h.jF h.lv h.pq h.oE h.pI h.oF h.ko h.mc (λid l=>h.iR id (by simp_all)) (λid c l d=>by rw [e];exact h.po d)
  (λi j k p q=>h.np i j k (by simp_all) (by simp_all)) (λid Y c s d=>h.pJ id Y c (by simp_all) d) (λid t z N s=>?_)
 rw [f] at s;obtain ⟨o,m,n⟩:=h.ln id t z N s;grind
end
inductive FQ where
 |kb (k:IntKind)
 |me
 |kP
 |jn (e:TypeId)
 |kq (n:Nat) (e:TypeId)
 |g5 (fs:List (Nat×TypeId))
 |ku (e:TypeId)
 |kK
 |mf
 |lG
 |mg
structure xB where
 TQ:FQ
 eV:Nat
 Bd:Nat
 nZ:List b9
def p9 {α:Type}:List α->Nat->Option α
 |[],_=>none
 |x::_,0=>some x
 |_::l,n+1=>p9 l n
theorem xE {α:Type}:∀ (l:List α) (n:Nat),p9 l n=l[n]?
 |[],_=>by simp [p9]
 |_::_,0=>by simp [p9]
 |_::l,n+1=>by simp [p9,xE l n]
def uT {α:Type}:List α->Nat->Option (List α)
 |_,0=>some []
 |[],_+1=>none
 |x::l,n+1=>match uT l n with|some r=>some (x::r)|none=>none
def zT {α:Type}:List α->Nat->List α
 |l,0=>l
 |[],_+1=>[]
 |_::l,n+1=>zT l n
theorem Lm {α:Type}:∀ (l:List α) (n:Nat),zT l n=l.drop n
 |l,0=>by simp [zT]
 |[],_+1=>by simp [zT]
 |_::l,n+1=>by simp [zT,Lm l n]
theorem IQ {α:Type}:∀ (l:List α) (n:Nat) (r:List α),uT l n=some r->r=l.take n/\r.length=n
 |l,0,r,h=>by grind [uT]
 |[],_+1,r,h=>by simp [uT] at h
 |x::l,n+1,r,h=>by
  simp only [uT] at h;cases k:uT l n with
  |none=>simp [k] at h
  |some q=>
   simp [k] at h;obtain ⟨c,d⟩:=IQ l n q k;grind
def vA {α:Type}:List α->Nat->List α->Option (List α)
 |l,0,[]=>some l
 |_::l,0,y::s=>match vA l 0 s with|some r=>some (y::r)|none=>none
 |[],0,_::_=>none
 |x::l,n+1,s=>match vA l n s with|some r=>some (x::r)|none=>none
 |[],_+1,_=>none
theorem Lw {α:Type}:∀ (l:List α) (n:Nat) (s r:List α),vA l n s=some r->n+s.length<=l.length/\r=l.take n++s++l.drop (n+s.length)
 |l,0,[],r,h=>by grind [vA]
 |[],0,_::_,r,h=>by simp [vA] at h
 |[],_+1,_,r,h=>by simp [vA] at h
 |x::l,0,y::s,r,h=>by
  simp only [vA] at h;cases k:vA l 0 s with
  |none=>simp [k] at h
  |some q=>
   simp [k] at h;obtain ⟨c,d⟩:=Lw l 0 s q k;simp_all
 |x::l,n+1,s,r,h=>by
  simp only [vA] at h;cases k:vA l n s with
  |none=>simp [k] at h
  |some q=>
   simp [k] at h;obtain ⟨c,d⟩:=Lw l n s q k;grind
def Ll:Value->b9
 | .int k n=> .ax k n
 | .bool true=> .fU
 | .bool false=> .fD
 | .string s=> .cp s.data.toList
 | .pointer none=> .fY
 | .slice none 0 0=> .a8 true 1 [] .fW
 | .nilFunc=> .gL
 | .nilIface=> .gy
 |_=> .ga
theorem TZ (w g v):eH w g (Ll v) v:=by
 cases v with
 |bool b=>cases b<;>first|exact .fJ .uR|exact .fJ .wB
 |pointer a=>cases a<;>first|exact .fJ .IF|exact .nY
 |slice a n c=>
  cases a with
  |some a=>exact .nY
  |none=>
   cases n with
   |succ n=>exact .nY
   |zero=>
    cases c with
    |succ c=>exact .nY
    |zero=>
     refine .m7 (.mG (els:=[]) (λ_ _=>undef) rfl (aq _) (by simp) ?_ ?_ ?_) rfl
     .intro i e j x h;simp at h
     .simp_all
     simp_all
 |int k n=>exact .fJ (.kS k n)
 |string s=>exact .fJ (.lW rfl)
 |nilFunc=>exact .fJ .ID
 |nilIface=>exact .fJ .IE
 |_=>exact .nY
def xB.TP (P:Program) (t:TypeId) (r:xB):Prop:=
 (match r.TQ with
  | .kb k=>P.underlying t=some (.int k)
  | .me=>P.underlying t=some .bool
  | .kP=>P.underlying t=some .string
  | .jn e=>P.underlying t=some (.slice e)
  | .kq n e=>P.underlying t=some (.array n e)
  | .g5 d=>∃ l p,P.underlying t=some (.struct l)/\l.toList.map (λf=>(f.offset,f.type))=d/\l.toList.mapM (λf=>(P.info? f.type).map λi=>(f.offset,i.size))=some p
  | .ku e=>P.underlying t=some (.pointer e)
  | .kK=>∃ m,P.underlying t=some (.interface m)
  | .mf=>∃ a b c,P.underlying t=some (.func a b c)
  | .lG=>∃ a b,P.underlying t=some (.map a b)
  | .mg=>True)/\
 ∃ i z,P.info? t=some i/\i.size=r.eV/\i.bytes=r.Bd/\i.zero=some z/\z.cells.toList.map Ll=r.nZ/\z.cells.size=r.eV/\(z.cells=#[z]\/∃ s,z= .agg s)
abbrev iw:=List (Nat×xB)
def hU:iw->Nat->Option xB
 |[],_=>none
 |(k,r)::l,t=>match Nat.beq k t with|true=>some r|false=>hU l t
def jc (P:Program) (T:iw):Prop:=∀ t r,hU T t=some r->r.TP P t
def jx (σ:eK) (t:Nat):b9:=match σ (.ct t) with| .bg x=>x|_=> .ga
def eR (σ:eK):Operand->b9
 | .tmp t=>jx σ t
 | .const v=>Ll v
 | .global _=> .ga
 | .func f=> .eW f [] []
def Bh:b9->Bool
 | .eN _| .dn _| .ga=>false
 |_=>true
def kT:List b9->Bool
 |[]=>true
 |x::l=>match Bh x with|true=>kT l|false=>false
def Be:b9->Option (List b9)
 | .eN c=>match kT c with|true=>some c|false=>none
 | .ga=>none
 | .dn _=>none
 |v=>some [v]
def Bi:b9->Bool
 | .ax ..| .eD _| .fU| .fD| .cp _| .fY| .gL| .gy=>true
 | .a8 _ _ _ _=>true
 | .eW _ [] []=>true
 |_=>false
def pr:List b9->Bool
 |[]=>true
 |x::l=>match Bi x with|true=>pr l|false=>false
def Bg:b9->b9
 | .a8 a b c _=> .a8 a b c .dm
 | .fU=> .eD true
 | .fD=> .eD false
 |v=>v
def mB:List b9->List b9
 |[]=>[]
 |x::l=>Bg x::mB l
inductive oG:Type 1 where
 |fV (v:b9) (us:List (fQ×gC))
 |jm (p:Prop) (r:oG)
 |qT (α:Type) (f:α->oG)
 |fL
def oG.DX (K:b9->List (fQ×gC)->Prop) (r:oG):Prop:=
 oG.rec (motive:=λ_=>Prop) (λv u=>K v u) (λp _ i=>p/\i) (λc _ i=>∃ x:c,i x) False r
def oG.ld (v:b9) (us:List (fQ×gC)):oG->Prop
 | .fV c u=>v=c/\us=u
 | .jm p r=>p/\r.ld v us
 | .qT α f=>∃ x:α,(f x).ld v us
 | .fL=>False
theorem oG.Lh {K:b9->List (fQ×gC)->Prop}:∀ (r:oG),r.DX K->∃ v us,r.ld v us/\K v us
 | .fV v us,h=>⟨v,us,⟨rfl,rfl⟩,h⟩
 | .jm _ r,h=>let ⟨v,us,c,d⟩:=r.Lh h.2;⟨v,us,⟨h.1,c⟩,d⟩
 | .qT _ f,⟨x,h⟩=>let ⟨v,us,c,d⟩:=(f x).Lh h;⟨v,us,⟨x,c⟩,d⟩
 | .fL,h=>h.elim
def jP (σ:eK):List (fQ×gC)->eK
 |[]=>σ
 |(l,c)::u=>jP (fc σ l c) u
def ir (s:List UInt8):List b9:=s.map λc=> .ax .u8 c.toNat
def jM (n:Nat) (z:List b9):List b9:=(List.replicate n z).flatten
def IL:b9->Option b9
 | .fU=>some .fD
 | .fD=>some .fU
 | .eD b=>some (.eD (!b))
 |_=>none
def F5 (o:BinOp) (k:IntKind) (a b:Int):oG:=
 match o with
 | .add=> .fV (.ax k (k.wrap (a+b))) []
 | .sub=> .fV (.ax k (k.wrap (a - b))) []
 | .mul=> .fV (.ax k (k.wrap (a*b))) []
 | .quo=>match b==0 with|false=> .fV (.ax k (k.wrap (a.tdiv b))) []|true=> .fL
 | .rem=>match b==0 with|false=> .fV (.ax k (a.tmod b)) []|true=> .fL
 | .and=> .fV (.ax k (k.wrap ((BitVec.ofInt k.bits a &&& BitVec.ofInt k.bits b).toNat:Int))) []
 | .or=> .fV (.ax k (k.wrap ((BitVec.ofInt k.bits a|||BitVec.ofInt k.bits b).toNat:Int))) []
 | .xor=> .fV (.ax k (k.wrap ((BitVec.ofInt k.bits a^^^BitVec.ofInt k.bits b).toNat:Int))) []
 | .eql=> .fV (.eD (a==b)) []
 | .neq=> .fV (.eD (a !=b)) []
 | .lss=> .fV (.eD (decide (a<b))) []
 | .leq=> .fV (.eD (decide (a<=b))) []
 | .gtr=> .fV (.eD (decide (b<a))) []
 | .geq=> .fV (.eD (decide (b<=a))) []
 | .shl=> .jm (0<=b) (.fV (.ax k (k.wrap (a*2^min b.toNat k.bits))) [])
 | .shr=> .jm (0<=b) (.fV (.ax k (a.fdiv (2^min b.toNat k.bits))) [])
 |_=> .fL
def Lp:BinOp->Bool
 | .shl| .shr=>true
 |_=>false
def wJ:IntKind->IntKind->Bool
 | .i8, .i8| .i16, .i16| .i32, .i32| .i64, .i64| .u8, .u8| .u16, .u16| .u32, .u32| .u64, .u64=>true
 |_,_=>false
theorem Lq {j k} (h:wJ j k=true):j=k:=by cases j<;>cases k<;>first|rfl|cases h
def IP (o:BinOp) (x y:b9):oG:=
 match x,y with
 | .ax k a, .ax j b=>match Lp o with
  |true=>F5 o k a b
  |false=>match wJ k j with|true=>F5 o k a b|false=> .fL
 | .cp a, .cp b=>match o with
  | .add=> .jm (a.length+b.length<9223372036854775808) (.fV (.cp (a++b)) [])
  | .eql=> .fV (.eD (decide (a=b))) []
  | .neq=> .fV (.eD (!decide (a=b))) []
  | .lss=> .fV (.eD (Op.bytesLess a b)) []
  | .gtr=> .fV (.eD (!(Op.bytesLess a b||decide (a=b)))) []
  | .leq=> .fV (.eD (Op.bytesLess a b||decide (a=b))) []
  | .geq=> .fV (.eD (!Op.bytesLess a b)) []
  |_=> .fL
 |_,_=> .fL
def uS (P:Program) (σ:eK) (o:Oper) (v:b9):Prop:=
 ∀ (g:gX) (a:Act) (w:World),(∀ x∈o.op.operands,eH w g (eR σ x) (a.eval x))->∃ l,(execOp a.eval o).run P w= .ok (.value l) w/\eH w g v l
def iv (T:iw) (t:TypeId):Option xB:=hU T t
def yH (T:iw) (t:TypeId):Option (Nat×Bool):=
 match hU T t with
 |some ⟨.g5 _,n,_,_⟩=>some (n,true)
 |some ⟨.kq _ _,n,_,_⟩=>some (n,true)
 |some ⟨.mg,_,_,_⟩=>none
 |some ⟨_,n,_,_⟩=>some (n,false)
 |none=>none
def yF (p:Nat->Option (Nat×Nat)):List (Nat×b9)->List b9->Option (List b9)
 |[],cells=>some cells
 |(i,x)::ps,cells=>match p i with
  |none=>none
  |some (o,size)=>match Be x with
   |none=>none
   |some s=>match Nat.beq s.length size with
    |false=>none
    |true=>match vA cells o s with
     |none=>none
     |some c=>yF p ps c
def rz (σ:eK):List (Nat×Operand)->List (Nat×b9)
 |[]=>[]
 |(i,x)::l=>(i,eR σ x)::rz σ l
def CE (sz:Nat):(n:Nat)->List b9->Option (List (List b9))
 |0,[]=>some []
 |0,_::_=>none
 |n+1,l=>match uT l sz with
  |none=>none
  |some r=>match CE sz n (zT l sz) with
   |none=>none
   |some s=>some (r::s)
def rv (c:Bool) (size off:Nat) (cells:List b9):Option b9:=
 match c with
 |true=>match uT (zT cells off) size with|some s=>some (.eN s)|none=>none
 |false=>p9 cells off
def D0:b9->Option Int
 | .ax _ n=>some n
 |_=>none
def mh (σ:eK):Option Operand->Option (Option Int)
 |none=>some none
 |some x=>match eR σ x with| .ax _ n=>some (some n)|_=>none
def FX (σ:eK) (T:iw) (tx:TypeId) (sz:Nat) (x:b9) (k:List (List b9)->oG):oG:=
 match x with
 | .a8 _ z e _=>match iv T tx with
  |some ⟨.jn _,_,_,_⟩=>match Nat.beq z sz with
   |true=>k e
   |false=> .jm (e=[]) (k [])
  |_=> .fL
 | .cp s=>match iv T tx,Nat.beq sz 1 with
  |some ⟨.kP,_,_,_⟩,true=>k (s.map λc=>[.ax .u8 c.toNat])
  |_,_=> .fL
 | .eP b o z len _=>match iv T tx with
  |some ⟨.jn _,_,_,_⟩=>match Nat.beq z sz with
   |false=> .fL
   |true=>match σ (.ay b) with
    | .eY _ cells=> .qT (List (List b9)) λe=> .jm (e.length=len/\(∀ l∈e,l.length=sz)/\o+len*sz<=cells.length/\(cells.drop o).take (len*sz)=e.flatten/\kT e.flatten=true) (k e)
    | .dc _ cells=> .qT (List (List b9)) λe=> .jm (e.length=len/\(∀ l∈e,l.length=sz)/\o+len*sz<=cells.length/\mB ((cells.drop o).take (len*sz))=e.flatten/\pr ((cells.drop o).take (len*sz))=true) (k e)
    |_=> .fL
  |_=> .fL
 |_=> .fL
def D4:yC->yC
 | .fW=> .fW
 |_=> .dm
def Uh:yC->yC
 | .je id=> .je id
 |_=> .dm
def ua (n bytes:Nat):Prop:=n<=140737488355328/\n*bytes<=140737488355328
def DZ (σ:eK) (f:Nat) (e:TypeId) (sz bytes:Nat) (isNil:Bool) (tk:yC) (n els:List (List b9)):oG:=
 match tk with
 | .dm=> .fL
 | .fW=>match σ (.eT 0) with
  | .bg .fU=> .jm (n=[]) (.fV (.a8 isNil sz els .fW) [])
  | .bg _=> .jm (els=[]/\0<n.length/\ua n.length bytes) (.fV (.eP f 0 sz n.length true) [(.ay f, .eY e n.flatten)])
  |_=> .jm (ua (els.length+n.length) bytes) (.fV (.a8 (isNil && n.isEmpty) sz (els++n) (.je f)) [(.eT f, .eU e sz (els.length+n.length))])
 | .je id=>match σ (.eT id) with
  | .eU c s N=>match Nat.beq s sz,Nat.beq c e with
   |true,true=> .jm (N=els.length/\ua (els.length+n.length) bytes) (.fV (.a8 (isNil && n.isEmpty) sz (els++n) (.je id)) [(.eT id, .eU e sz (els.length+n.length))])
   |_,_=> .fL
  |_=> .fL
 | .hJ id=>match σ (.eT id) with
  | .eU c s N=>match Nat.beq s sz,Nat.beq c e with
   |true,true=> .jm (N=els.length/\ua (els.length+n.length) bytes) (.fV (.a8 (isNil && n.isEmpty) sz (els++n) (.hJ id)) [(.eT id, .eU e sz (els.length+n.length))])
   |_,_=> .fL
  |_=> .fL
def F2 (σ:eK) (T:iw) (f:Nat) (t tx:TypeId) (s x:b9):oG:=
 match iv T t with
 |some ⟨.jn e,_,_,_⟩=>match iv T e with
  |some ⟨_,sz,bytes,_⟩=>FX σ T tx sz x λn=>
   match s with
   | .a8 i z l k=>match Nat.beq z sz with
    |true=>DZ σ f e sz bytes i k n l
    |false=> .jm (l=[]) (DZ σ f e sz bytes i (D4 k) n [])
   | .eP b 0 z len true=>match Nat.beq z sz with
    |false=> .fL
    |true=>match σ (.ay b) with
     | .eY c cells=>match Nat.beq c e with
      |true=>match σ (.eT 1) with
       | .bg _=> .jm ((len+n.length)*sz<=cells.length/\0<sz) (.fV (.eP b 0 sz (len+n.length) true) [(.ay b, .eY c (cells.take (len*sz)++n.flatten++cells.drop ((len+n.length)*sz)))])
       |_=> .qT (List (List b9)) λl=> .jm (l.length=len/\(∀ d∈l,d.length=sz)/\cells=l.flatten/\kT l.flatten=true/\ua (l.length+n.length) bytes)
        (.fV (.a8 false sz (l++n) (.je f)) [(.ay b, .fB),(.eT f, .eU e sz (l.length+n.length))])
      |false=> .fL
     |_=> .fL
   |_=> .fL
  |none=> .fL
 |_=> .fL
def F1 (σ:eK) (x:b9) (k:Nat->List b9->oG) (sz:Nat):oG:=
 match x with
 | .cp s=>match Nat.beq sz 1 with
  |true=>k s.length (ir s)
  |false=> .fL
 | .a8 _ z els _=>match Nat.beq z sz with
  |true=>k els.length els.flatten
  |false=> .jm (els=[]) (k 0 [])
 | .eP b o z len _=>match Nat.beq z sz with
  |false=> .fL
  |true=>match σ (.ay b) with
   | .eY _ cells=> .jm (o+len*sz<=cells.length/\kT ((cells.drop o).take (len*sz))=true) (k len ((cells.drop o).take (len*sz)))
   | .dc _ cells=>match pr cells with
    |true=> .jm (o+len*sz<=cells.length) (k len (mB ((cells.drop o).take (len*sz))))
    |false=> .fL
   |_=> .fL
 |_=> .fL
def F4 (σ:eK) (T:iw) (t:TypeId) (d x:b9):oG:=
 match iv T t with
 |some ⟨.jn e,_,_,_⟩=>match iv T e with
  |some ⟨_,sz,_,_⟩=>F1 σ x (sz:=sz) λn s=>
   match d with
   | .eP b o z len _=>match Nat.beq z sz with
    |false=> .fL
    |true=>match σ (.ay b) with
     | .eY c cells=> .jm (o+len*sz<=cells.length) (.fV (.ax .i64 (min n len:Nat)) [(.ay b, .eY c (cells.take o++s.take (min n len*sz)++cells.drop (o+min n len*sz)))])
     | .dc c cells=> .jm (o+len*sz<=cells.length) (.fV (.ax .i64 (min n len:Nat)) [(.ay b, .dc c (cells.take o++s.take (min n len*sz)++cells.drop (o+min n len*sz)))])
     |_=> .fL
   |_=> .fL
  |none=> .fL
 |_=> .fL
def OU (isNil:Bool) (sz:Nat) (tk:yC) (o i mx:Option Int) (els:List (List b9)):oG:=
 match o,i,mx with
 |none,none,none=> .fV (.a8 isNil sz els tk) []
 |some l,none,none=> .jm (0<=l/\l.toNat<=els.length) (.fV (.a8 isNil sz (els.drop l.toNat) (D4 tk)) [])
 |none,some h,none=> .jm (0<=h/\h.toNat<=els.length) (.fV (.a8 isNil sz (els.take h.toNat) (Uh tk)) [])
 |some l,some h,none=> .jm (0<=l/\l<=h/\h.toNat<=els.length) (.fV (.a8 isNil sz ((els.take h.toNat).drop l.toNat) .dm) [])
 |none,some h,some m=> .jm (0<=h/\h.toNat<=els.length/\m=h) (.fV (.a8 isNil sz (els.take h.toNat) .fW) [])
 |some l,some h,some m=> .jm (0<=l/\l<=h/\h.toNat<=els.length/\m=h) (.fV (.a8 isNil sz ((els.take h.toNat).drop l.toNat) .fW) [])
 |_,_,_=> .fL
def vB (j:eK) (T:iw) (t:TypeId) (x:b9) (c d mx:Option (Option Int)):oG:=
 match x,c,d,mx with
 | .cp s,some c,some d,some none=>match iv T t with
  |some ⟨.kP,_,_,_⟩=>match c,d with
   |none,none=> .fV (.cp s) []
   |some l,none=> .jm (0<=l/\l.toNat<=s.length) (.fV (.cp (s.drop l.toNat)) [])
   |none,some h=> .jm (0<=h/\h.toNat<=s.length) (.fV (.cp (s.take h.toNat)) [])
   |some l,some h=> .jm (0<=l/\l<=h/\h.toNat<=s.length) (.fV (.cp ((s.take h.toNat).drop l.toNat)) [])
  |_=> .fL
 | .a8 i sz els k,some c,some d,some mx=>match iv T t with
  |some ⟨.jn e,_,_,_⟩=>match iv T e with
   |some ⟨_,z,_,_⟩=>match Nat.beq sz z with
    |true=>OU i z k c d mx els
    |false=> .jm (els=[]) (OU i z (D4 k) c d mx [])
   |none=> .fL
  |_=> .fL
 | .eP b o sz len f,some c,some d,some none=>match iv T t with
  |some ⟨.jn e,_,_,_⟩=>match iv T e with
   |some ⟨_,z,_,_⟩=>match Nat.beq sz z with
    |false=> .fL
    |true=>match c,d with
     |none,none=> .fV (.eP b o sz len f) []
     |some l,none=> .jm (0<=l/\l.toNat<=len) (.fV (.eP b (o+l.toNat*sz) sz (len - l.toNat) false) [])
     |none,some h=> .jm (0<=h/\h.toNat<=len) (.fV (.eP b o sz h.toNat f) [])
     |some l,some h=> .jm (0<=l/\l<=h/\h.toNat<=len) (.fV (.eP b (o+l.toNat*sz) sz (h.toNat - l.toNat) false) [])
   |none=> .fL
  |_=> .fL
 | .eP b o sz len _,some c,some (some h),some (some m)=>match iv T t with
  |some ⟨.jn e,_,_,_⟩=>match iv T e with
   |some ⟨_,z,_,_⟩=>match Nat.beq sz z with
    |false=> .fL
    |true=>match c with
     |none=> .jm (0<=h/\h.toNat<=len/\h<=m/\m.toNat<=len) (.fV (.eP b o sz h.toNat false) [])
     |some l=> .jm (0<=l/\l<=h/\h.toNat<=len/\h<=m/\m.toNat<=len) (.fV (.eP b (o+l.toNat*sz) sz (h.toNat - l.toNat) false) [])
   |none=> .fL
  |_=> .fL
 | .c8 b o,some c,some d,some none=>match iv T t with
  |some ⟨.kq n e,_,_,_⟩=>match iv T e with
   |some ⟨_,sz,_,_⟩=>match c,d with
    |none,none=> .fV (.eP b o sz n false) []
    |some l,none=> .jm (0<=l/\l.toNat<=n) (.fV (.eP b (o+l.toNat*sz) sz (n - l.toNat) false) [])
    |none,some h=> .jm (0<=h/\h.toNat<=n) (.fV (.eP b o sz h.toNat false) [])
    |some l,some h=> .jm (0<=l/\l<=h/\h.toNat<=n) (.fV (.eP b (o+l.toNat*sz) sz (h.toNat - l.toNat) false) [])
   |none=> .fL
  |_=> .fL
 |_,_,_,_=> .fL
def Ly (σ:eK) (T:iw) (t:TypeId) (a:b9):oG:=
 match yH T t with
 |none=> .fL
 |some (size,agg)=>match a with
  | .c8 b o=>match σ (.ay b) with
   | .dc _ cells=>match rv agg size o cells with|some x=> .fV x []|none=> .fL
   | .eY _ cells=>match agg with
    |true=> .qT (List b9) λc=> .jm (o+size<=cells.length/\(cells.drop o).take size=c) (.fV (.eN c) [])
    |false=> .qT b9 λx=> .jm (cells[o]? =some x) (.fV x [])
   |_=> .fL
  | .gJ c o=>match rv agg size o c with|some x=> .fV x []|none=> .fL
  |_=> .fL
def Lz (σ:eK) (T:iw) (t:TypeId) (a x:b9):oG:=
 match yH T t with
 |none=> .fL
 |some (size,_)=>match Be x with
  |none=> .fL
  |some s=>match Nat.beq s.length size with
   |false=> .fL
   |true=>match a with
    | .c8 b o=>match σ (.ay b) with
     | .dc d cells=>match vA cells o s with
      |some c=> .fV .ga [(.ay b, .dc d c)]
      |none=> .fL
     | .eY d cells=>match pr s with
      |true=> .jm (o+size<=cells.length) (.fV .ga [(.ay b, .eY d (cells.take o++mB s++cells.drop (o+size)))])
      |false=> .fL
     |_=> .fL
    |_=> .fL
def Lx (σ:eK) (T:iw) (f:Nat) (src dst:TypeId) (x:b9):oG:=
 match iv T dst with
 |some ⟨.kb k,_,_,_⟩=>match x with
  | .ax _ n=>match iv T src with
   |some ⟨.kb _,_,_,_⟩=> .fV (.ax k (k.wrap n)) []
   |_=> .fL
  |_=> .fL
 |some ⟨.kP,_,_,_⟩=>match x with
  | .cp s=>match iv T src with
   |some ⟨.kP,_,_,_⟩=> .fV (.cp s) []
   |_=> .fL
  | .a8 _ sz els _=>match iv T src with
   |some ⟨.jn e,_,_,_⟩=>match iv T e with
    |some ⟨.kb .u8,_,_,_⟩=> .qT (List UInt8) λs=> .jm ((sz=1\/els=[])/\els=s.map λc=>[.ax .u8 c.toNat]) (.fV (.cp s) [])
    |_=> .fL
   |_=> .fL
  | .eP b o sz len _=>match Nat.beq sz 1 with
   |false=> .fL
   |true=>match iv T src with
   |some ⟨.jn e,_,_,_⟩=>match iv T e with
    |some ⟨.kb .u8,_,_,_⟩=>match σ (.ay b) with
     | .eY _ cells=> .qT (List UInt8) λs=> .jm (o+len<=cells.length/\(cells.drop o).take len=ir s) (.fV (.cp s) [])
     | .dc _ cells=> .qT (List UInt8) λs=> .jm (o+len<=cells.length/\(cells.drop o).take len=ir s) (.fV (.cp s) [])
     |_=> .fL
    |_=> .fL
   |_=> .fL
  |_=> .fL
 |some ⟨.jn e,_,_,_⟩=>match x with
  | .cp s=>match iv T e with
   |some ⟨.kb .u8,_,_,_⟩=>match iv T src with
    |some ⟨.kP,_,_,_⟩=> .fV (.eP f 0 1 s.length true) [(.ay f, .eY e (ir s))]
    |_=> .fL
   |_=> .fL
  |_=> .fL
 |_=> .fL
def vz (mx:Bool):List b9->Option b9
 |[]=>none
 |[.ax k a]=>some (.ax k a)
 |[.ax k a, .ax j b]=>match wJ k j with
  |true=>some (.ax k (match mx with|true=>max a b|false=>min a b))
  |false=>none
 |[.ax k a, .ax j b, .ax l c]=>match wJ k j,wJ k l with
  |true,true=>some (.ax k (match mx with|true=>max (max a b) c|false=>min (min a b) c))
  |_,_=>none
 |_=>none
def jr (σ:eK):List Operand->List b9
 |[]=>[]
 |x::l=>eR σ x::jr σ l
def F3 (P:Program) (σ:eK) (T:iw) (f:Nat) (o:Oper) (b:Builtin) (e:List TypeId) (args:List b9):oG:=
 match b,e,args with
 | .len,[t],[x]=>match iv T t with
  |some ⟨.kq n _,_,_,_⟩=> .fV (.ax .i64 (n:Int)) []
  |some ⟨.kP,_,_,_⟩=>match x with| .cp s=> .fV (.ax .i64 (s.length:Int)) []|_=> .fL
  |some ⟨.jn _,_,_,_⟩=>match x with
   | .a8 _ _ els _=> .fV (.ax .i64 (els.length:Int)) []
   | .eP _ _ _ n _=> .fV (.ax .i64 (n:Int)) []
   |_=> .fL
  |_=> .fL
 | .append,[t,tx],[s,x]=>F2 σ T f t tx s x
 | .copy,[t,_],[d,x]=>F4 σ T t d x
 | .min,_,c=>match vz false c with|some v=> .fV v []|none=> .fL
 | .max,_,c=>match vz true c with|some v=> .fV v []|none=> .fL
 |_,_,_=> .qT b9 λv=> .jm (uS P σ o v) (.fV v [])
def LC:Operand->Bool
 | .const (.int _ (.ofNat 0))=>true
 |_=>false
theorem aet {x:Operand} (h:LC x=true) (a:Act):∃ k,a.eval x= .int k 0:=by
 unfold LC at h;split at h
 .exact ⟨_,rfl⟩
 .cases h
def sf:b9->Option Bool
 | .eD b=>some b
 | .fU=>some true
 | .fD=>some false
 |_=>none
def Bf:b9->b9->Option Bool
 | .ax k a, .ax j b=>match wJ k j with|true=>some (a==b)|false=>none
 | .cp a, .cp b=>some (decide (a=b))
 | .eD a,y=>match sf y with|some b=>some (a==b)|none=>none
 | .fU,y=>match sf y with|some b=>some (true==b)|none=>none
 | .fD,y=>match sf y with|some b=>some (false==b)|none=>none
 |_,_=>none
def xC:List b9->List b9->Option Bool
 |[],[]=>some true
 |[x],[y]=>Bf x y
 |x::l,y::m=>match Bf x y with
  |some b=>match xC l m with|some c=>some (b && c)|none=>none
  |none=>none
 |_,_=>none
def zU (P:Program) (q:TypeId->Option (List Nat)):List Field->Nat->Option (List Nat)
 |[],_=>some []
 |f::s,n=>if (f.name != "_" && f.offset==n)=true then (match q f.type,P.info? f.type with
   |some k,some i=>if k.length=i.size/\i.size≠0 then (match zU P q s (n+i.size) with|some r=>some (k++r)|none=>none) else none
   |_,_=>none) else none
def yG (P:Program):Nat->TypeId->Option (List Nat)
 |0,_=>none
 |d+1,t=>match P.underlying t with
  |some (.int _)=>some [0]
  |some .string=>some [1]
  |some .bool=>some [2]
  |some (.struct f)=>if P.stoodInHeld t=true then none else zU P (yG P d) f.toList 0
  |_=>none
def T2:b9->Nat
 | .ax _ _=>0
 | .cp _=>1
 | .eD _=>2
 | .fU=>2
 | .fD=>2
 |_=>9
def zV:List b9->List Nat
 |[]=>[]
 |x::l=>T2 x::zV l
def IJ (P:Program) (t:TypeId) (k:List Nat):Bool:=!P.eqGuardType P.depth t && (yG P 9 t==some k && (match P.underlying t with|some (.struct _)=>true|_=>false))
def OQ (T:iw) (t:TypeId) (x y:b9):Option Bool:=
 match iv T t with
 |some ⟨.jn _,_,_,_⟩=>match x,y with
  | .a8 n _ _ _, .a8 true _ _ _=>some n
  | .a8 true _ _ _, .a8 n _ _ _=>some n
  | .eP _ _ _ _ _, .a8 true _ _ _=>some false
  |_,_=>none
 |some ⟨.kK,_,_,_⟩=>match x,y with
  | .gm _ _, .gy=>some false
  | .gy, .gm _ _=>some false
  |_,_=>none
 |some ⟨.me,_,_,_⟩=>match sf x,sf y with|some p,some q=>some (p==q)|_,_=>none
 |some ⟨.ku _,_,_,_⟩=>match x,y with
  | .fY, .fY=>some true
  | .c8 _ _, .fY=>some false
  | .gJ _ _, .fY=>some false
  |_,_=>none
 |some ⟨.mf,_,_,_⟩=>match x,y with
  | .gL, .gL=>some true
  | .eW _ _ _, .gL=>some false
  |_,_=>none
 |_=>none
def D1:Operand->Bool
 | .const _=>true
 |_=>false
def Lk (T:iw) (t:TypeId) (c:Bool) (x y:b9):Option Bool:=match c,x,y with
 |true, .gy, .gy=>match iv T t with|some ⟨.kK,_,_,_⟩=>some true|_=>none
 |_,_,_=>OQ T t x y
def Lt:Bool->Bool->Bool
 |true,_=>true
 |false,b=>b
def Bl (ti:FQ) (z:List b9):Option (Bool×b9):=match ti,z with
 | .g5 _,c=>some (true, .eN c)
 | .kq _ _,c=>some (true, .eN c)
 |_,[x]=>some (false,x)
 |_,_=>none
def LA (P:Program) (t:TypeId):Option Bool:=match P.info? t with
 |some i=>match i.zero with
  |some (.agg _)=>some true
  |some _=>some false
  |none=>none
 |none=>none
def Lo (P:Program) (ti:FQ) (e:List b9) (at_:TypeId):Bool->oG
 |true=>match Bl ti e with
  |some (q,z)=> .jm (LA P at_=some q) (.fV (.dn [z, .fD]) [])
  |none=> .fL
 |false=> .fL
def OM (P:Program) (ti:FQ) (z:List b9) (at_:TypeId) (o:Bool):b9->oG
 | .gm t v=>match Nat.beq t at_,o with
  |true,true=> .fV (.dn [v, .fU]) []
  |true,false=> .fV v []
  |false,o=>Lo P ti z at_ o
 | .gy=>Lo P ti z at_ o
 |_=> .fL
def iK (P:Program) (T:iw) (σ:eK) (f:Nat) (o:Oper):oG:=
 match o.op with
 | .move x=> .fV (eR σ x) []
 | .assign x=> .fV (eR σ x) []
 | .pick c a b=>match eR σ c with
  | .fU=> .fV (eR σ a) []
  | .fD=> .fV (eR σ b) []
  | .eD q=>match sf (eR σ a),sf (eR σ b) with
   |some p,some r=> .fV (.eD (match q with|true=>p|false=>r)) []
   |_,_=> .fL
  |_=> .fL
 | .alloc t=>match iv T t with
  |some r=> .fV (.c8 f 0) [(.ay f, .dc t r.nZ)]
  |none=> .fL
 | .box t x=>match Be (eR σ x) with
  |some h=> .fV (.c8 f 0) [(.ay f, .dc t h)]
  |none=> .fL
 | .build t parts=>match iv T t with
  |some ⟨.g5 A,_,_,zero⟩=>match yF (λi=>match p9 A i with|some (d,B)=>(match iv T B with|some r=>some (d,r.eV)|none=>none)|none=>none) (rz σ parts.toList) zero with
   |some h=> .fV (.eN h) []
   |none=> .fL
  |some ⟨.kq _ e,_,_,zero⟩=>match iv T e with
   |some r=>match yF (λi=>some (i*r.eV,r.eV)) (rz σ parts.toList) zero with
    |some h=> .fV (.eN h) []
    |none=> .fL
   |none=> .fL
  |_=> .fL
 | .buildSlice t n parts=>match iv T t with
  |some ⟨.jn e,_,_,_⟩=>match iv T e with
   |some r=>match Nat.ble (n*r.eV) 1000000 with
    |false=> .fL
    |true=>match yF (λi=>some (i*r.eV,r.eV)) (rz σ parts.toList) (jM n r.nZ) with
     |some h=>match pr h with
      |true=>match CE r.eV n (mB h) with
       |some els=> .fV (.a8 false r.eV els .fW) []
       |none=> .fL
      |false=> .fV (.eP f 0 r.eV n false) [(.ay f, .dc e h)]
     |none=> .fL
   |none=> .fL
  |_=> .fL
 | .load t a=>Ly σ T t (eR σ a)
 | .store t a x=>Lz σ T t (eR σ a) (eR σ x)
 | .nilCheck x=>match eR σ x with
  | .c8 b d=> .fV (.c8 b d) []
  | .gJ h d=> .fV (.gJ h d) []
  | .eW f a b=> .fV (.eW f a b) []
  |_=> .fL
 | .binOp op t x y _=>match eR σ x,eR σ y with
  | .ax j a, .ax k b=>IP op (.ax j a) (.ax k b)
  | .cp a, .cp b=>IP op (.cp a) (.cp b)
  | .eN h, .eN ds=>match op,xC h ds with
   | .eql,some b=> .jm (IJ P t (zV h)=true) (.fV (.eD b) [])
   | .neq,some b=> .jm (IJ P t (zV h)=true) (.fV (.eD (!b)) [])
   |_,_=> .qT b9 λv=> .jm (uS P σ o v) (.fV v [])
  |L,N=>match op,Lk T t (Lt (D1 x) (D1 y)) L N with
   | .eql,some b=> .fV (.eD b) []
   | .neq,some b=> .fV (.eD (!b)) []
   |_,_=> .qT b9 λv=> .jm (uS P σ o v) (.fV v [])
 | .unOp .not _ x=>match IL (eR σ x) with|some v=> .fV v []|none=> .fL
 | .unOp .neg _ x=>match eR σ x with| .ax k n=> .fV (.ax k (k.wrap (0 - n))) []|_=> .fL
 | .convert src E x=>Lx σ T f src E (eR σ x)
 | .slice t x lo I J=>vB σ T t (eR σ x) (mh σ lo) (mh σ I) (mh σ J)
 | .fieldAddr s x i=>match iv T s with
  |some ⟨.g5 A,_,_,_⟩=>match p9 A i with
   |some (d,B)=>match iv T B with
    |some r=>match r.eV with
     |0=> .fL
     |_+1=>match eR σ x with
      | .c8 b o=> .fV (.c8 b (o+d)) []
      | .gJ h o=> .fV (.gJ h (o+d)) []
      |_=> .fL
    |none=> .fL
   |none=> .fL
  |_=> .fL
 | .field s x i=>match iv T s with
  |some ⟨.g5 A,_,_,_⟩=>match p9 A i with
   |some (d,B)=>match yH T B with
    |some (size,agg)=>match eR σ x with
     | .eN h=>match rv agg size d h with|some v=> .fV v []|none=> .fL
     |_=> .fL
    |none=> .fL
   |none=> .fL
  |_=> .fL
 | .indexAddr t x i=>match D0 (eR σ i) with
  |none=> .fL
  |some n=>match iv T t with
   |some ⟨.jn e,_,_,_⟩=>match iv T e with
    |none=> .fL
    |some r=>match eR σ x with
     | .a8 _ sz els _=>match Nat.beq sz r.eV,r.eV with
      |true,_+1=> .qT (List b9) λF=> .jm (0<=n/\els[n.toNat]? =some F) (.fV (.gJ F 0) [])
      |_,_=> .fL
     | .eP b d sz len _=>match Nat.beq sz r.eV with
      |true=> .jm (0<=n/\n.toNat<len) (.fV (.c8 b (d+n.toNat*sz)) [])
      |false=> .fL
     |_=> .fL
   |some ⟨.kq m e,_,_,_⟩=>match iv T e with
    |none=> .fL
    |some r=>match eR σ x with
     | .c8 b d=> .jm (0<=n/\n.toNat<m) (.fV (.c8 b (d+n.toNat*r.eV)) [])
     | .gJ h d=> .jm (0<=n/\n.toNat<m) (.fV (.gJ h (d+n.toNat*r.eV)) [])
     |_=> .fL
   |_=> .fL
 | .index t x i=>match D0 (eR σ i) with
  |none=> .fL
  |some n=>match eR σ x with
   | .cp s=>match iv T t with
    |some ⟨.kP,_,_,_⟩=> .qT UInt8 λc=> .jm (0<=n/\s[n.toNat]? =some c) (.fV (.ax .u8 c.toNat) [])
    |_=> .fL
   |_=> .qT b9 λv=> .jm (uS P σ o v) (.fV v [])
 | .extract x i=>match eR σ x with
  | .dn K=>match p9 K i with|some v=> .fV v []|none=> .fL
  |_=> .fL
 | .makeSlice t l c=>match iv T t with
  |some ⟨.jn e,_,_,_⟩=>match iv T e with
   |none=> .fL
   |some ⟨_,sz,bytes,zero⟩=>match LC l with
    |true=>match eR σ c with
     | .ax _ m=> .jm (0<=m/\ua m.toNat bytes) (.fV (.a8 false sz [] (.je f)) [(.eT f, .eU e sz 0)])
     |_=> .fL
    |false=>match eR σ l,eR σ c with
     | .ax _ n, .ax _ m=>match pr zero with
      |true=> .jm (0<=n/\n=m/\ua m.toNat bytes) (.fV (.eP f 0 sz n.toNat true) [(.ay f, .eY e (jM n.toNat (mB zero)))])
      |false=> .fL
     |_,_=> .fL
  |_=> .fL
 | .makeInterface t x=>match iv T t with
  |some ⟨.kK,_,_,_⟩=> .fL
  |some ⟨.mg,_,_,_⟩=> .fL
  |none=> .fL
  |some _=> .fV (.gm t (eR σ x)) []
 | .range t x=>match eR σ x with
  | .cp s=>match iv T t with
   |some ⟨.kP,_,_,_⟩=> .fV (.gH f) [(.ay f, .mP s 0)]
   |_=> .fL
  |_=> .fL
 | .next x str=>match str,eR σ x with
  |true, .gH c=>match σ (.ay c) with
   | .mP s z=> .qT Bool λq=> .jm (q=decide (z<s.length)) (match q with
    |true=> .fV (.dn [.fU, .ax .i64 (z:Int), .ax .i32 ((Utf8.decode ⟨s.toArray⟩ z).1:Int)]) [(.ay c, .mP s (z+(Utf8.decode ⟨s.toArray⟩ z).2))]
    |false=> .fV (.dn [.fD]) [])
   |_=> .fL
  |_,_=> .fL
 | .typeAssert x _ at_ ok=>match iv T at_ with
  |none=> .fL
  |some ⟨.kK,_,_,_⟩=> .fL
  |some ⟨.mg,_,_,_⟩=> .fL
  |some ⟨ti,_,_,zero⟩=>OM P ti zero at_ ok (eR σ x)
 | .makeFunc (.func H) first u=> .fV (.eW H (jr σ first.toList) (jr σ u.toList)) []
 | .call c=>match c.callee with
  | .builtin b=>F3 P σ T f o b c.argTypes.toList (jr σ c.args.toList)
  |_=> .fL
 |_=> .qT b9 λv=> .jm (uS P σ o v) (.fV v [])
section inv
variable {w:World} {g:gX} {v:Value}
theorem eH.p8 {k n} (h:eH w g (.ax k n) v):v= .int k n:=by cases h with|fJ h=>cases h;rfl
theorem eH.xA {x} (h:eH w g (.eD x) v):v= .bool x:=by cases h with|fJ h=>cases h;rfl
theorem eH.Bc (h:eH w g .fU v):v= .bool true:=by cases h with|fJ h=>cases h;rfl
theorem eH.Ba (h:eH w g .fD v):v= .bool false:=by cases h with|fJ h=>cases h;rfl
theorem eH.vw {s} (h:eH w g (.cp s) v):∃ b:ByteArray,v= .string b/\b.data.toList=s:=by cases h with|fJ h=>cases h with|lW h=>simp_all
theorem eH.vv {x off} (h:eH w g (.c8 x off) v):∃ c,g.fk x=some c/\v= .pointer (some ⟨c,off,none⟩):=by
 cases h with
 |fJ h=>cases h
 |rr h=>simp_all
theorem eH.Le (h:eH w g .fY v):v= .pointer none:=by cases h with|fJ h=>cases h;rfl
theorem eH.FM {cs off} (h:eH w g (.gJ cs off) v):∃ (l base:Nat) (vals:Nat->Value),v= .pointer (some ⟨l,base+off,none⟩)/\(∀ (j:Nat) x,cs[j]? =some x->g.fP l (base+j)/\w.cell? ⟨l,base+j,none⟩=some (vals j))/\
  (∀ (j:Nat) x,cs[j]? =some x->gb w g.fP x (vals j)):=by
 cases h with
 |fJ h=>cases h
 |vu vals c h=>exact ⟨_,_,vals,rfl,c,h⟩
theorem eH.FL {cs} (h:eH w g (.eN cs) v):∃ vs:List Value,v= .agg vs.toArray/\vs.length=cs.length/\∀ (i:Nat) x u,cs[i]? =some x->vs[i]? =some u->eH w g x u:=by
 cases h with
 |fJ h=>cases h with|A9 hl h=>exact ⟨_,rfl,hl,λi x u c d=> .fJ (h i x u c d)⟩
 |sd hl h=>grind
theorem eH.Lf {cs} (h:eH w g (.dn cs) v):∃ vs:List Value,v= .tuple vs.toArray/\vs.length=cs.length/\∀ (i:Nat) x u,cs[i]? =some x->vs[i]? =some u->eH w g x u:=by
 cases h with
 |fJ h=>cases h with|wC hl h=>exact ⟨_,rfl,hl,λi x u c d=> .fJ (h i x u c d)⟩
 |nR hl h=>grind
theorem eH.nq {isNil sz els tk} (h:eH w g (.a8 isNil sz els tk) v):∃ ad c,v= .slice ad els.length c/\gb w g.fP (.a8 isNil sz els .dm) (.slice ad els.length c)/\yD w g tk els.length sz ad c:=by
 cases h with
 |fJ h=>cases h with|mG vals n e s d o h=>exact ⟨_,_,rfl, .mG vals n e s d o h,ae⟩
 |m7 h t=>cases h with|mG vals n e s d o h=>exact ⟨_,_,rfl, .mG vals n e s d o h,t⟩
theorem eH.qS {x off sz len full} (h:eH w g (.eP x off sz len full) v):∃ c cap ad,g.fk x=some c/\v= .slice ad len cap/\(0<len->ad=some ⟨c,off,none⟩)/\ad.isSome/\len<=cap/\
  (full=true->off=0/\ad=some ⟨c,0,none⟩/\∃ t,w.shape? c=some (t,cap*sz)):=by
 cases h with
 |fJ h=>cases h
 |oV h d s hl f=>grind
theorem eH.CD {f s cs} (h:eH w g (.eW f s cs) v):∃ vs us:List Value,v= .func (.func f) vs.toArray us.toArray/\vs.length=s.length/\us.length=cs.length/\(∀ (i:Nat) x u,s[i]? =some x->vs[i]? =some u->eH w g x u)/\
  (∀ (i:Nat) x u,cs[i]? =some x->us[i]? =some u->eH w g x u):=by
 cases h with
 |fJ h=>cases h with|DV f=>simp_all
 |wD hl m h c=>grind
theorem eH.DW {t x} (h:eH w g (.gm t x) v):∃ u,v= .iface t u/\eH w g x u:=by
 cases h with
 |fJ h=>cases h with|FK h=>exact ⟨_,rfl, .fJ h⟩
 |wE h=>simp_all
theorem eH.FN (h:eH w g .gy v):v= .nilIface:=by cases h with|fJ h=>cases h;rfl
theorem eH.OE (h:eH w g .gL v):v= .nilFunc:=by cases h with|fJ h=>cases h;rfl
theorem eH.Lc {x} (h:eH w g (.gH x) v):∃ c,g.fk x=some c/\v= .pointer (some ⟨c,0,none⟩):=by
 cases h with
 |fJ h=>cases h
 |vt h=>simp_all
theorem eH.Bb {x} (h:eH w g (.gi x) v):∃ c,g.fk x=some c/\v= .map (some c):=by
 cases h with
 |fJ h=>cases h
 |uc h=>simp_all
theorem eH.OF {x} (h:eH w g (.gG x) v):∃ c,g.fk x=some c/\v= .func (.yield c) #[] #[]:=by
 cases h with
 |fJ h=>cases h
 |wF h=>simp_all
theorem xF {x} (h:eH w g x v) (c:Bh x=true):v.oneCell'=true:=by
 cases x with
 |eN as=>cases c
 |dn as=>cases c
 |ga=>cases c
 |ax k n=>rw [h.p8];rfl
 |eD x=>rw [h.xA];rfl
 |fU=>rw [h.Bc];rfl
 |fD=>rw [h.Ba];rfl
 |cp s=>obtain ⟨b,e,_⟩:=h.vw;rw [e];rfl
 |c8 b o=>obtain ⟨b,_,e⟩:=h.vv;rw [e];rfl
 |gJ _ _=>obtain ⟨_,_,_,e,_⟩:=h.FM;rw [e];rfl
 |fY=>rw [h.Le];rfl
 |a8 _ _ _ _=>obtain ⟨_,_,e,_⟩:=h.nq;rw [e];rfl
 |eP _ _ _ _ _=>obtain ⟨_,_,_,_,e,_⟩:=h.qS;rw [e];rfl
 |eW _ _ _=>obtain ⟨_,_,e,_⟩:=h.CD;rw [e];rfl
 |gL=>rw [h.OE];rfl
 |gm _ _=>obtain ⟨_,e,_⟩:=h.DW;rw [e];rfl
 |gy=>rw [h.FN];rfl
 |gH b=>obtain ⟨_,_,e⟩:=h.Lc;rw [e];rfl
 |gG b=>obtain ⟨_,_,e⟩:=h.OF;rw [e];rfl
 |gi b=>obtain ⟨_,_,e⟩:=h.Bb;rw [e];rfl
theorem CG:∀ {cs:List b9},kT cs=true->∀ (i:Nat) x,cs[i]? =some x->Bh x=true
 |[],_,i,x,h=>by simp at h
 |c::cs,d,i,x,h=>by
  simp only [kT] at d;cases e:Bh c with
  |false=>simp [e] at d
  |true=>
   simp only [e] at d;cases i with
   |zero=>simp_all
   |succ i=>exact CG d i x (by simpa using h)
theorem eH.OD {x cs} (h:eH w g x v) (c:Be x=some cs):v.cells.toList.length=cs.length/\(∀ (i:Nat) y u,cs[i]? =some y->v.cells.toList[i]? =some u->eH w g y u)/\
  (∀ u∈v.cells.toList,u.oneCell'=true):=by
 have n:Bh x=true->v.cells=#[v]->cs=[x]->v.cells.toList.length=cs.length/\(∀ (i:Nat) y z,cs[i]? =some y->v.cells.toList[i]? =some z->eH w g y z)/\(∀ u∈v.cells.toList,u.oneCell'=true):=by
  grind [xF]
 have t:v.oneCell'=true->v.cells=#[v]:=by intro h;cases v<;>first|rfl|cases h
 cases x with
 |eN as=>
  obtain ⟨s,rfl,l,r⟩:=h.FL;simp only [Be] at c;cases o:kT as with
  |false=>simp [o] at c
  |true=>
   simp only [o,aG] at c;subst c;refine ⟨by trivial,λi y u f k=>r i y u f (by trivial),λu e=>?_⟩;simp only [Value.cells,List.toList_toArray] at e;obtain ⟨i,j,rfl⟩:=bC e;have d:i<as.length:=om;exact xF (r i as[i] s[i] (aj d) (aj j)) (CG o i _ (aj d))
 |ga=>cases c
 |dn as=>cases c
 |_=>exact n rfl (t (xF h rfl)) (by cases c;rfl)
end inv
section
variable {P:Program} {T:iw} {b:jL P} {σ:eK} {D:Nat->Prop} {g:gX} {a:Act} {w:World}
def lu (P:Program) (b:jL P) (σ:eK) (us:List (fQ×gC)) (f:Nat) (D:Nat->Prop) (g:gX) (a:Act) (w:World) (o:Oper) (v:b9):Prop:=
 ∃ n l w' c,(execOp a.eval o).run P w= .ok n w'/\(n= .value l\/(n= .skip/\l=undef))/\eH w' c v l/\fl b (jP σ us) (λi=>D i\/i=f) c w'/\iN g w c w'
theorem lu.kG {o v f val} (h:fl b σ D g w) (r:(execOp a.eval o).run P w= .ok (.value val) w) (c:eH w g v val):lu P b σ [] f D g a w o v:=
 ⟨_,val,w,g,r, .inl rfl,c,h.mQ (λ_ i=> .inl i),iN.uO g w⟩
theorem Lu {t i} (h:P.info? t=some i) (w):(sizeOf t).run P w= .ok i.size w:=by
 simp [sizeOf,typeInfo,h]
theorem D2 {t d} (h:P.underlying t=some d) (w):(isAgg t).run P w= .ok (match d with| .struct _| .array _ _=>true|_=>false) w:=by
 cases d<;>simp [isAgg,run_underlying h]
theorem OV (hT:jc P T) {t:TypeId} {n:Nat} {agg:Bool} (h:yH T t=some (n,agg)) (w:World):(isAgg t).run P w= .ok agg w/\(sizeOf t).run P w= .ok n w:=by
 unfold yH at h;cases hr:hU T t with
 |none=>simp [hr] at h
 |some r=>
  obtain ⟨ti,size,bytes,zero⟩:=r;obtain ⟨h1,i,z,hi,hs,_⟩:=hT t _ hr;have hsz:(sizeOf t).run P w= .ok size w:=by rw [Lu hi,hs]
  cases ti<;>simp only [hr,aG,dj,reduceCtorEq] at h<;>first
   |(
     obtain ⟨rfl,rfl⟩:=h;refine ⟨?_,hsz⟩
     first
      |(obtain ⟨_,_,h1,_⟩:=h1;exact D2 h1 w)
      |(obtain ⟨_,h1⟩:=h1;exact D2 h1 w)
      |(obtain ⟨_,_,h1⟩:=h1;exact D2 h1 w)
      |(obtain ⟨_,_,_,h1⟩:=h1;exact D2 h1 w)
      |exact D2 h1 w)
   |cases h
theorem vy (k off j):(⟨k,off,none⟩:Addr).add j=⟨k,off+j,none⟩:=by grind [Addr.add]
theorem Ue (k off:Nat):∀ (n i:Nat) (vs:List Value) (c:Array Value),vs.length=n->(∀ j u,vs[j]? =some u->w.cell? ⟨k,off+(i+j),none⟩=some u)->
  (loadCellsFrom ⟨k,off,none⟩ i n c).run P w= .ok (c++vs.toArray) w
 |0,i,vs,c,hl,_=>by
  have:vs=[]:=aR hl;subst this;trivial
 |n+1,i,vs,c,hl,h=>by
  cases vs with
  |nil=>simp at hl
  |cons u vs=>
   have d:=h 0 u rfl;simp only [cI] at d;have f:=Ue k off n (i+1) vs (c.push u) (by simpa using hl) (λj x e=>by have:=h (j+1) x (by simpa using e);grind);simp only [loadCellsFrom,vy,Sem.run_bind];simp_all
theorem Uf (E:jc P T) {t:TypeId} {n:Nat} {d:Bool} (h:yH T t=some (n,d)) {k off:Nat} {cs:List b9} {vs:Nat->Value} (F:∀ j x,cs[j]? =some x->w.cell? ⟨k,off+j,none⟩=some (vs j))
  (H:∀ j x,cs[j]? =some x->eH w g x (vs j)) {x:b9} (e:rv d n 0 cs=some x):∃ v,(loadVar t ⟨k,off,none⟩).run P w= .ok v w/\eH w g x v:=by
 obtain ⟨p,B⟩:=OV E h w;cases d with
 |false=>
  simp only [rv,xE] at e;refine ⟨vs 0,?_,H 0 x e⟩;have o:=F 0 x e;simp only [cI] at o;simp [loadVar,p,load,Sem.run,o]
 |true=>
  simp only [rv,zT] at e;cases m:uT cs n with
  |none=>simp [m] at e
  |some r=>
   simp only [m,aG] at e;subst e;obtain ⟨z,A⟩:=IQ cs n r m;have s:n<=cs.length:=by grind
   have q:∀ j x,r[j]? =some x->cs[j]? =some x:=λj x c=>by
    rw [z,bq] at c;split at c
    .exact c
    .cases c
   have f:=Ue (P:=P) (w:=w) k off n 0 ((List.range n).map vs) #[] (by simp) (λj u c=>by
    rw [bU] at c
    by_cases l:j<n
    .rw [List.getElem?_range l] at c;simp at c;subst c;have:j<cs.length:=om;simp_all
    simp_all)
   refine ⟨.agg ((List.range n).map vs).toArray,?_, .sd (by simp [A]) (λi y u J I=>?_)⟩
   .simp only [loadVar,Sem.run_bind,p,Result.andThen_ok,du,B,loadCells,f];simp
   grind
end
section
variable {P:Program} {T:iw} {b:jL P} {σ:eK} {D:Nat->Prop} {g:gX} {a:Act} {w:World}
theorem FT {x p v} (h:eH w g x v) (d:sf x=some p):v= .bool p:=by
 cases x with
 |eD c=>grind [sf,h.xA]
 |fU=>grind [sf,h.Bc]
 |fD=>grind [sf,h.Ba]
 |_=>cases d
inductive A6:Value->Value->Bool->Prop
 |K6 (k:IntKind) (p q:Int):A6 (.int k p) (.int k q) (p==q)
 |K7 (s t:ByteArray):A6 (.string s) (.string t) (s.toList==t.toList)
 |K5 (p q:Bool):A6 (.bool p) (.bool q) (p==q)
theorem TY {x y u v r} (l:eH w g x u) (m:eH w g y v) (h:Bf x y=some r):A6 u v r:=by
 have c:∀ {p:Bool},sf x=some p->(match sf y with|some b=>some (p==b)|none=>none)=some r->A6 u v r:=by
  intro p n d;cases i:sf y with
  |none=>simp [i] at d
  |some q=>
   simp only [i,aG] at d;subst d;rw [FT l n,FT m i];exact .K5 _ _
 cases x with
 |ax k p=>
  cases y with
  |ax j q=>
   simp only [Bf] at h;cases f:wJ k j with
   |false=>simp [f] at h
   |true=>
    simp only [f,aG] at h;subst h;have:=Lq f;subst this;rw [l.p8,m.p8];exact .K6 _ _ _
  |_=>simp [Bf] at h
 |cp p=>
  cases y with
  |cp q=>
   simp only [Bf,aG] at h;subst h;obtain ⟨s,rfl,o⟩:=l.vw;obtain ⟨t,rfl,z⟩:=m.vw;have e:(s.toList==t.toList)=decide (p=q):=by
    grind [Lib.toList_data]
   rw [<-e];exact .K7 _ _
  |_=>simp [Bf] at h
 |eD p=>exact c rfl h
 |fU=>exact c rfl h
 |fD=>exact c rfl h
 |_=>simp [Bf] at h
inductive zO:List Value->List Value->Bool->Prop
 |DQ:zO [] [] true
 |Cz {u v:Value} {us vs:List Value} {p q:Bool} (h:A6 u v p) (h':zO us vs q):zO (u::us) (v::vs) (p && q)
theorem TX:∀ {cs s:List b9} {us vs:List Value} {r:Bool},us.length=cs.length->vs.length=s.length->(∀ (i:Nat) x u,cs[i]? =some x->us[i]? =some u->eH w g x u)->
  (∀ (i:Nat) x u,s[i]? =some x->vs[i]? =some u->eH w g x u)->xC cs s=some r->zO us vs r
 |[],[],us,vs,r,hl,e,_,_,h=>by
  rw [aR hl,aR e];simp only [xC,aG] at h;subst h;exact .DQ
 |[x],[y],[u],[v],r,_,_,c,d,h=>by
  simp only [xC] at h;have:=zO.Cz (TY (c 0 x u rfl rfl) (d 0 y v rfl rfl) h) .DQ;simp_all
 |x::k::l,y::m,us,vs,r,hl,e,c,d,h=>by
  match us,vs,hl,e,c,d with
  |u::us,v::vs,hl,e,c,d=>
   simp only [xC] at h;cases f:Bf x y with
   |none=>simp [f] at h
   |some p=>
    cases j:xC (k::l) m with
    |none=>simp [f,j] at h
    |some q=>
     simp only [f,j,aG] at h;subst h;exact .Cz (TY (c 0 x u rfl rfl) (d 0 y v rfl rfl) f) (TX (by simpa using hl) (by simpa using e) (λi=>c (i+1)) (λi=>d (i+1)) j)
 |[x],y::n::m,us,vs,r,hl,e,c,d,h=>by
  grind [xC]
 |[],_::_,_,_,_,_,_,_,_,h=>by simp [xC] at h
 |_::_,[],_,_,_,_,_,_,_,h=>by simp [xC] at h
theorem zO.TH:∀ {us vs:List Value} {r:Bool},zO us vs r->us.length=vs.length
 |_,_,_, .DQ=>rfl
 |_,_,_, .Cz _ h=>by simp [h.TH]
theorem zO.TJ:∀ {n:Nat} {us vs:List Value} {r:Bool},zO us vs r->∃ p q,zO (us.take n) (vs.take n) p/\zO (us.drop n) (vs.drop n) q/\r=(p && q)
 |0,us,vs,r,h=>⟨true,r,by simpa using zO.DQ,by simpa using h,by simp⟩
 |n+1,_,_,_, .DQ=>⟨true,true, .DQ, .DQ,rfl⟩
 |n+1,_,_,_, .Cz h c=>by
  obtain ⟨p,q,d,e,rfl⟩:=c.TJ (n:=n);exact ⟨_,q, .Cz h d,e,by rw [Bool.and_assoc]⟩
def CF:Value->Nat
 | .int _ _=>0
 | .string _=>1
 | .bool _=>2
 |_=>9
theorem A6.adH {t u v r} (h:A6 u v r) (d w) {k} (e:P.underlying t=some (.int k)) (c:CF u=0):(Op.equalIn (d+1) t u v).run P w= .ok r w:=by
 cases h with
 |K6 f p q=>grind [run_equalIn_int]
 |_=>cases c
theorem A6.adI {t u v r} (h:A6 u v r) (d w) (c:P.underlying t=some .string) (k:CF u=1):(Op.equalIn (d+1) t u v).run P w= .ok r w:=by
 cases h with
 |K7 s q=>grind [run_equalIn_string]
 |_=>cases k
theorem A6.adG {t u v r} (h:A6 u v r) (d w) (c:P.underlying t=some .bool) (k:CF u=2):(Op.equalIn (d+1) t u v).run P w= .ok r w:=by
 cases h with
 |K5 p q=>grind [run_equalIn_bool']
 |_=>cases k
def Lr:TypeDesc->Prop
 | .array _ _=>False
 |_=>True
def Ls (n:Nat):TypeDesc->Prop
 | .struct _=>True
 |_=>n=1
def DO (P:Program) (t:TypeId) (us:List Value) (x:Value):Prop:=match P.underlying t with
 |some (.struct _)=>x= .agg us.toArray
 |_=>us=[x]
def TK (P:Program) (d:Nat) (q:TypeId->Option (List Nat)):Prop:=∀ (t:TypeId) (s:List Nat),q t=some s->
 (∃ k,P.underlying t=some k/\Lr k)/\∀ (u c:List Value) (r:Bool),u.map CF=s->zO u c r->∀ (x y:Value),DO P t u x->DO P t c y->∀ w,(Op.equalIn d t x y).run P w= .ok r w
theorem T8 {t:TypeId} {k:TypeDesc} (u:P.underlying t=some k) (j:Lr k) {i:TypeInfo} (f:P.info? t=some i) {us:List Value} {off:Nat} {n:Nat} (m:n=i.size) (c:Ls n k)
  (l:off+n<=us.length) (w:World):∃ x,(part t us.toArray off).run P w= .ok x w/\DO P t ((us.drop off).take n) x:=by
 subst m;unfold DO;rw [u];cases k with
 |struct s=>
  refine ⟨_,?_,rfl⟩;simp only [part,Sem.run_bind,D2 u,Result.andThen_ok,du,Lu f,Sem.run_pure];simp_all
 |array n e=>exact j.elim
 |_=>
  rw [c] at l ⊢;have h:off<us.length:=om;refine ⟨us[off],?_,?_⟩
  .have d:us.toArray[off]? =some us[off]:=by simp [h]
   simp only [part,Sem.run_bind,D2 u,Result.andThen_ok];simp [d]
  grind [List.drop_eq_getElem_cons]
theorem T4 {d:Nat} {t:TypeId} {ks:List Nat} (h:yG P d t=some ks):∃ k,P.underlying t=some k/\(Lr k)/\Ls ks.length k:=by
 cases d with
 |zero=>cases h
 |succ d=>
  simp only [yG] at h;cases hu:P.underlying t with
  |none=>simp [hu] at h
  |some k=>
   refine ⟨k,rfl,?_⟩;cases k<;>simp only [hu,aG,reduceCtorEq] at h<;>first|(subst h;trivial)|trivial
theorem Ud {d:Nat} {q:TypeId->Option (List Nat)} (K:TK P d q) (u:∀ t s,q t=some s->∃ k,P.underlying t=some k/\(Lr k)/\Ls s.length k) {us vs:List Value}:∀ (e:List Field) (n:Nat) (s:List Nat) (r:Bool),zU P q e n=some s->
  (us.drop n).map CF=s->zO (us.drop n) (vs.drop n) r->∀ w,(Op.eqFields d us.toArray vs.toArray e).run P w= .ok r w
 |[],n,s,r,hk,B,c,w=>by
  simp only [zU,aG] at hk;subst hk;have Q:us.drop n=[]:=by simpa using B
  rw [Q] at c;have U:r=true:=by
   generalize vs.drop n=vs' at c;cases c;rfl
  subst U;simp [Op.eqFields]
 |f::e,n,s,r,hk,B,c,w=>by
  simp only [zU] at hk;split at hk
  .rename_i h;simp only [az,bne_iff_ne,ne_eq,dC] at h;cases j:q f.type with
   |none=>simp [j] at hk
   |some X=>
    cases z:P.info? f.type with
    |none=>simp [j,z] at hk
    |some i=>
     simp only [j,z] at hk;split at hk
     .rename_i J;cases A:zU P q e (n+i.size) with
      |none=>simp [A] at hk
      |some N=>
       simp only [A,aG] at hk;subst hk;obtain ⟨p,q',O,I,rfl⟩:=c.TJ (n:=i.size);have l:=c.TH;have H:=congrArg List.length B;simp only [ap,aV,au] at H l;rw [cD,List.drop_drop] at I;have E:((us.drop n).take i.size).map CF=X:=by
        simp_all
       have F:(us.drop (n+i.size)).map CF=N:=by
        grind [List.drop_drop,List.map_drop,List.drop_left]
       obtain ⟨k,L,o,S⟩:=u _ _ j;have m:Ls i.size k:=by simp_all
       .obtain ⟨x,Y,Z⟩:=T8 L o z (us:=us) (off:=n) rfl m om w;obtain ⟨y,p3,p4⟩:=T8 L o z (us:=vs) (off:=n) rfl m om w;have R:=(K _ _ j).2 _ _ _ E O x y Z p4 w;have W:=Ud K u e (n+i.size) N q' A F I w;simp only [Op.eqFields,h.1,ne_eq,not_false_eq_true,du,Sem.run_bind,h.2,Y,p3,R,Result.andThen_ok];cases p with
        |false=>simp
        |true=>simp [W]
     .cases hk
  .cases hk
theorem T3:∀ (d:Nat) (e:Nat),TK P (d+e) (yG P d)
 |0,_=>λt j h=>by cases h
 |d+1,e=>λt j h=>by
  obtain ⟨k,u,o,_⟩:=T4 h;refine ⟨⟨k,u,o⟩,λp q r m c x y f i w=>?_⟩;simp only [yG] at h;unfold DO at f i;rw [u] at h f i;rw [show d+1+e=d+e+1 by omega];cases k with
  |int k=>
   simp only [aG] at h f i;subst h f i;cases c with|Cz c _=>cases ‹zO [] [] _›;rw [Bool.and_true];exact c.adH _ _ u (by simpa using m)
  |string=>
   simp only [Option.some.injEq] at h f i;subst h f i;cases c with|Cz c _=>cases ‹zO [] [] _›;rw [Bool.and_true];exact c.adI _ _ u (by simpa using m)
  |bool=>
   simp only [Option.some.injEq] at h f i;subst h f i;cases c with|Cz c _=>cases ‹zO [] [] _›;rw [Bool.and_true];exact c.adG _ _ u (by simpa using m)
  |struct l=>
   simp only at h f i;split at h
   .cases h
   .rename_i s;subst f i;have n:P.fieldsOf t=l:=by simp [Program.fieldsOf,u]
    rw [run_equalIn_struct w _ t _ _ (by rw [n];exact u) (by simpa using s),n];exact Ud (T3 d e) (λt j h=>T4 h) l.toList 0 j r h (by simpa using m) (by simpa using c) w
  |_=>trivial
theorem T5:∀ {cs:List b9} {us:List Value},us.length=cs.length->(∀ (i:Nat) x u,cs[i]? =some x->us[i]? =some u->eH w g x u)->(∀ k∈zV cs,k≠9)->us.map CF=zV cs
 |[],us,hl,_,_=>by rw [aR hl];rfl
 |x::cs,u::us,hl,h,hk=>by
  have c:=h 0 x u rfl rfl;have e:T2 x≠9:=hk _ (by simp [zV]);simp only [bp,zV];rw [T5 (cs:=cs) (us:=us) (by simpa using hl) (λi=>h (i+1)) (λk d=>hk k (by simp [zV,d]))];congr 1;cases x with
  |ax k n=>rw [c.p8];rfl
  |cp s=>obtain ⟨b,rfl,_⟩:=c.vw;rfl
  |eD p=>rw [c.xA];rfl
  |fU=>rw [c.Bc];rfl
  |fD=>rw [c.Ba];rfl
  |_=>trivial
 |x::cs,[],hl,_,_=>by simp at hl
theorem T6:∀ d t s,yG P d t=some s->∀ k∈s,k≠9
 |0,t,s,h=>by cases h
 |d+1,t,s,h=>by
  simp only [yG] at h;have e:∀ c n s,zU P (yG P d) c n=some s->∀ k∈s,k≠9:=by
   intro c
   induction c with
   |nil=>grind [zU]
   |cons f c o=>
    intro n s h;simp only [zU] at h;split at h
    .cases j:yG P d f.type with
     |none=>simp [j] at h
     |some p=>
      cases l:P.info? f.type with
      |none=>simp [j,l] at h
      |some i=>
       simp only [j,l] at h;split at h
       .cases m:zU P (yG P d) c (n+i.size) with
        |none=>simp [m] at h
        |some q=>
         simp only [m,aG] at h;subst h;intro k hk;rcases aF.1 hk with hk|hk
         .exact T6 d _ _ j k hk
         grind
       .cases h
    .cases h
  grind
theorem adS {t:TypeId} {cs d:List b9} {xs y:List Value} {r:Bool} (l:xs.length=cs.length) (n:y.length=d.length) (e:∀ (i:Nat) (x:b9) (u:Value),cs[i]? =some x->xs[i]? =some u->eH w g x u)
  (p:∀ (i:Nat) (x:b9) (u:Value),d[i]? =some x->y[i]? =some u->eH w g x u) (m:xC cs d=some r) (k:IJ P t (zV cs)=true):P.eqGuardType P.depth t=false/\(Op.equalIn 10000 t (.agg xs.toArray) (.agg y.toArray)).run P w= .ok r w:=by
 simp only [IJ,az,bR,dC] at k;obtain ⟨j,c,q⟩:=k;refine ⟨j,?_⟩;have h:∃ f,P.underlying t=some (.struct f):=by
  grind
 obtain ⟨f,o⟩:=h;refine (T3 9 9991 t _ c).2 xs y r (T5 l e (T6 _ _ _ c)) (TX l n e p m) _ _ ?_ ?_ w
 .unfold DO;rw [o]
 grind [DO]
end
section
variable {P:Program} {T:iw} {b:jL P} {σ:eK} {D:Nat->Prop} {g:gX} {a:Act} {w:World}
theorem OR {c n off cs x} (h:rv c n off cs=some x):rv c n 0 (cs.drop off)=some x:=by
 cases c with
 |false=>grind [rv,xE]
 |true=>grind [rv,Lm]
theorem ru {c off:Nat} {arr:List Value} {t:TypeId} {z:Nat×Nat} (h:w.heap[c]? =some (.cells arr.toArray t z)):w.cell? ⟨c,off,none⟩=arr[off]?:=by
 simp [World.cell?,h]
theorem OP {c off:Nat} {arr:List Value} {t:TypeId} {z:Nat×Nat} (h:w.heap[c]? =some (.cells arr.toArray t z)) (o:¬(z.1<=off/\off<z.2)):w.frozen? ⟨c,off,none⟩=false:=by
 grind [World.frozen?]
theorem fl.Iw (h:fl b σ D g w) {id c bt cells} (s:σ (.ay id)= .dc bt cells) (d:g.fk id=some c):
  ∃ vs:Nat->Value,∀ j x,cells[j]? =some x->w.cell? ⟨c,j,none⟩=some (vs j)/\eH w g x (vs j):=by
 obtain ⟨r,e,f,i⟩:=h.sc id bt cells c s d;refine ⟨λj=>r.getD j undef,λj x l=>?_⟩;have k:j<r.length:=by grind
 grind [ru]
theorem fl.Iy (h:fl b σ D g w) {id c bt cells} (s:σ (.ay id)= .eY bt cells) (e:g.fk id=some c):
  ∃ vs:Nat->Value,∀ j x,cells[j]? =some x->w.cell? ⟨c,j,none⟩=some (vs j)/\gb w g.fP x (vs j):=by
 obtain ⟨r,z,f,i,d,k⟩:=h.sY id bt cells c s e;refine ⟨λj=>r.getD j undef,λj x m=>?_⟩;have l:j<r.length:=by grind
 grind [ru]
theorem ad9 (W:jc P T) (h:fl b σ D g w) {t:TypeId} {p v:b9} {us:List (fQ×gC)} {L:Value} (hp:eH w g p L) (d:(Ly σ T t p).ld v us):
  us=[]/\∃ val,(Instr.loadAt t L).run P w= .ok val w/\eH w g v val:=by
 unfold Ly at d;cases O:yH T t with
 |none=>simp only [O] at d;exact d.elim
 |some r=>
  obtain ⟨s,q⟩:=r;simp only [O] at d;have u:∀ (k o:Nat) (z:List b9) (m:Nat->Value),(∀ j x,z[j]? =some x->w.cell? ⟨k,o+j,none⟩=some (m j))->(∀ j x,z[j]? =some x->eH w g x (m j))->rv q s 0 z=some v->
    L= .pointer (some ⟨k,o,none⟩)->∃ val,(Instr.loadAt t L).run P w= .ok val w/\eH w g v val:=by
   intro k o z m H E Q U;subst U;obtain ⟨val,Z,h6⟩:=Uf W O H E Q;grind [Instr.loadAt,Instr.sureAddr]
  cases p with
  |c8 id o=>
   obtain ⟨c,R,e⟩:=hp.vv;simp only at d;cases I:σ (.ay id) with
   |dc S cells=>
    simp only [I] at d;cases f:rv q s o cells with
    |none=>simp only [f] at d;exact d.elim
    |some x=>
     simp only [f] at d;obtain ⟨A,B⟩:=d;subst A;obtain ⟨m,J⟩:=h.Iw I R;exact ⟨B,u c o (cells.drop o) (λj=>m (o+j)) (λj x i=>(J (o+j) x (by simpa using i)).1) (λj x i=>(J (o+j) x (by simpa using i)).2) (OR f) e⟩
   |eY S cells=>
    simp only [I] at d;obtain ⟨m,J⟩:=h.Iy I R;have H:∀ j x,(cells.drop o)[j]? =some x->w.cell? ⟨c,o+j,none⟩=some (m (o+j)):=λj x i=>(J (o+j) x (by simpa using i)).1
    have E:∀ j x,(cells.drop o)[j]? =some x->eH w g x (m (o+j)):=λj x i=> .fJ (J (o+j) x (by simpa using i)).2
    cases q with
    |true=>
     simp only at d;obtain ⟨z,⟨hl,X⟩,A,B⟩:=d;subst A;refine ⟨B,u c o (cells.drop o) (λj=>m (o+j)) H E ?_ e⟩;simp only [rv,zT];cases Y:uT (cells.drop o) s with
     |some r=>obtain ⟨Q,_⟩:=IQ _ _ _ Y;simp_all
     |none=>
      exfalso;have:∀ (l:List b9) (n:Nat),n<=l.length->uT l n≠none:=by
       intro l
       induction l with
       |nil=>trivial
       |cons y l ih=>
        intro n hn;cases n with
        |zero=>simp [uT]
        |succ n=>
         grind [uT]
      grind
    |false=>
     simp only at d;obtain ⟨x,i,A,B⟩:=d;subst A;exact ⟨B,u c o (cells.drop o) (λj=>m (o+j)) H E (by grind [rv,xE]) e⟩
   |_=>simp only [I] at d;exact d.elim
  |gJ z o=>
   obtain ⟨N,F,K,e,H,E⟩:=hp.FM;simp only at d;cases f:rv q s o z with
   |none=>simp only [f] at d;exact d.elim
   |some x=>
    simp only [f] at d;obtain ⟨A,B⟩:=d;subst A;exact ⟨B,u N (F+o) (z.drop o) (λj=>K (o+j)) (λj x i=>by grind) (λj x i=> .fJ (E (o+j) x (by simpa using i))) (OR f) e⟩
  |_=>exact d.elim
theorem D3 (c:Nat) {t:TypeId} {z:Nat×Nat}:∀ (vs:List Value) (off i:Nat) (arr:List Value) (w:World),w.heap[c]? =some (.cells arr.toArray t z)->off+i+vs.length<=arr.length->
  (∀ o,o<arr.length->¬(z.1<=o/\o<z.2))->(∀ u∈vs,u.oneCell'=true)->
  ∃ w',(storeCells ⟨c,off,none⟩ vs i).run P w= .ok () w'/\oH c w w'/\w'.heap[c]? =some (.cells (arr.take (off+i)++vs++arr.drop (off+i+vs.length)).toArray t z)
 |[],off,i,arr,w,h,_,_,_=>⟨w,by simp [storeCells],⟨rfl,rfl,rfl,rfl,λ_ _=>rfl,rfl,λ_ h=>h,rfl⟩,by simp [h]⟩
 |u::vs,off,i,arr,w,h,hl,hz,hu=>by
  have hlt:off+i<arr.length:=by simp at hl;omega
  have hcell:w.cell? ⟨c,off+i,none⟩=some arr[off+i]:=by rw [ru h];simp_all
  have hfr:=OP (w:=w) h (hz (off+i) hlt);have hst:(store ⟨c,off+i,none⟩ u).run P w= .ok () (w.setCell ⟨c,off+i,none⟩ u):=by
   grind [run_store]
  have hheap:(w.setCell ⟨c,off+i,none⟩ u).heap[c]? =some (.cells (arr.set (off+i) u).toArray t z):=by
   grind [World.setCell]
  have hw1:oH c w (w.setCell ⟨c,off+i,none⟩ u):=⟨rfl,rfl,rfl,by simp_all,λk hk=>Below.heap_setCell _ _ _ _ hk,by
   grind [World.shape?],λds hd=>(by simp_all),rfl⟩
  obtain ⟨w',h1,h2,h3⟩:=D3 c vs off (i+1) (arr.set (off+i) u) _ hheap (by grind) (λo ho=>hz o (by simpa using ho)) (λx hx=>hu x (by simp [hx]));refine ⟨w',?_,⟨h2.OJ.trans hw1.OJ,h2.OL.trans hw1.OL,h2.OK.trans hw1.OK,h2.qt.trans hw1.qt,λk hk=>(h2.wG k hk).trans (hw1.wG k hk),h2.II.trans hw1.II,λds hd=>(by simp_all),h2.IH.trans hw1.IH⟩,?_⟩
  .grind [storeCells,vy,Sem.run_bind,Result.andThen_ok]
  .rw [h3];congr 2;congr 1;have e1:(arr.set (off+i) u).take (off+(i+1))=arr.take (off+i)++[u]:=by
    grind [List.take_succ_eq_append_getElem,List.take_set_of_le]
   have e2:(arr.set (off+i) u).drop (off+(i+1)+vs.length)=arr.drop (off+i+(u::vs).length):=by
    grind [List.drop_set_of_lt]
   simp_all
theorem xH {x v} (c:Bi x=true) (h:eH w g x v):gb w g.fP (Bg x) v:=by
 cases h with
 |fJ h=>cases h<;>first|(constructor<;>assumption)|constructor|(rename_i j k l m n o;exact .lst _ j k l m n o)|cases c|exact .bool _
 |m7 h t=>exact h
 |wD hl p h r=>
  rename_i f d s q u;cases d with
  |cons y d=>cases c
  |nil=>
   cases s with
   |cons y s=>cases c
   |nil=>
    have e:q=[]:=aR hl;have i:u=[]:=aR p;subst e i;exact .DV f
 |_=>cases c
theorem wH:∀ {cs:List b9} {i:Nat} {y:b9},(mB cs)[i]? =some y->∃ x,cs[i]? =some x/\y=Bg x
 |[],i,y,h=>by trivial
 |c::cs,0,y,h=>by grind [mB]
 |c::cs,i+1,y,h=>by
  obtain ⟨x,d,e⟩:=wH (cs:=cs) (i:=i) (y:=y) (by trivial);simp_all
theorem wI:∀ cs,(mB cs).length=cs.length
 |[]=>rfl
 |c::cs=>by simp [mB,wI cs]
theorem xG:∀ {cs:List b9},pr cs=true->∀ (i:Nat) x,cs[i]? =some x->Bi x=true
 |[],_,i,x,h=>by simp at h
 |c::cs,d,i,x,h=>by
  simp only [pr] at d;cases e:Bi c with
  |false=>simp [e] at d
  |true=>
   simp only [e] at d;cases i with
   |zero=>simp_all
   |succ i=>exact xG d i x (by simpa using h)
theorem aer (hT:jc P T) (h:fl b σ D g w) {t p x v us pv H} (hp:eH w g p pv) (hx:eH w g x H) (d:(Lz σ T t p x).ld v us):
  v= .ga/\∃ w',(Instr.storeAt t pv H).run P w= .ok () w'/\fl b (jP σ us) D g w'/\iN g w g w':=by
 unfold Lz at d;cases ht:yH T t with
 |none=>simp only [ht] at d;exact d.elim
 |some r=>
  obtain ⟨s,agg⟩:=r;simp only [ht] at d;cases A:Be x with
  |none=>simp only [A] at d;exact d.elim
  |some n=>
   simp only [A] at d;cases F:Nat.beq n.length s with
   |false=>simp only [F] at d;exact d.elim
   |true=>
    simp only [F] at d;have hlen:n.length=s:=bc F;obtain ⟨hc1,hc2,J⟩:=hx.OD A;obtain ⟨_,E⟩:=OV hT ht w;have N:∀ k f,(Instr.storeAt t (.pointer (some ⟨k,f,none⟩)) H).run P w=(storeCells ⟨k,f,none⟩ H.cells.toList).run P w:=by
     intro k f;have e:H.cells.size=s:=by simp_all
     simp [Instr.storeAt,Instr.sureAddr,storeVar,E,e]
    generalize H.cells.toList=ul at*;cases p with
    |c8 id f=>
     obtain ⟨c,Q,e⟩:=hp.vv;subst e;simp only at d;cases B:σ (.ay id) with
     |dc I cells=>
      simp only [B] at d;cases l:vA cells f n with
      |none=>simp only [l] at d;exact d.elim
      |some m=>
       simp only [l] at d;obtain ⟨S,U⟩:=d;obtain ⟨hs1,hs2⟩:=Lw _ _ _ _ l;obtain ⟨j,q,Y,Z⟩:=h.sc id I cells c B Q;obtain ⟨w',hr,O,hh⟩:=D3 (P:=P) c ul f 0 j w q om (λo _ ho=>by omega) J;have K:(σ (.ay id)).jb=true:=by rw [B];rfl
       obtain ⟨k1,k2⟩:=h.ot (X:= .dc I m) K Q O (λ_=>by
        have W:iN g w g w':=iN.tZ O (λo=>by obtain ⟨c',q1,_,_,q2⟩:=h.iR id K;simp_all);refine ⟨_,hh,by simp_all,λi y u hy R=>?_⟩;rw [hs2] at hy;simp only [cI] at R;refine eH.oU W ?_;grind)
       subst U;exact ⟨S,w',(N c f).trans hr,k1,k2⟩
     |eY I cells=>
      simp only [B] at d;cases L:pr n with
      |false=>simp only [L] at d;exact d.elim
      |true=>
       simp only [L] at d;obtain ⟨hb,S,U⟩:=d;obtain ⟨j,z,q,Y,hz,Z⟩:=h.sY id I cells c B Q;obtain ⟨w',hr,O,hh⟩:=D3 (P:=P) c ul f 0 j w q om hz J;have K:(σ (.ay id)).jb=true:=by rw [B];rfl
       obtain ⟨k1,k2⟩:=h.ot (X:= .eY I (cells.take f++mB n++cells.drop (f+s))) K Q O (λ_=>by
        have W:iN g w g w':=iN.tZ O (λo=>by obtain ⟨c',q1,_,_,q2⟩:=h.iR id K;simp_all);have hfl:=wI n;refine ⟨_,z,hh,by simp;omega,λo ho=>hz o (by simp at ho;omega),λi y u hy R=>?_⟩;simp only [cI] at R;refine gb.ka W.jC ?_
        by_cases h1:i<f
        .grind
        .by_cases h2:i<f+n.length
         .rw [aA,aW (by simp;omega),aS (by simp;omega)] at hy R;have m1:min f cells.length=f:=om;have m2:min f j.length=f:=om;grind [wH,xH,xG]
         grind)
       subst U;exact ⟨S,w',(N c f).trans hr,k1,k2⟩
     |_=>simp only [B] at d;exact d.elim
    |_=>exact d.elim
end
section
variable {P:Program} {T:iw} {b:jL P} {σ:eK} {D:Nat->Prop} {g:gX} {a:Act} {w:World}
theorem fl.ub (h:fl b σ D g w) {w'} (c:Below w.heap.size w w') (d:w.drawn<=w'.drawn:=by first|exact aq _|exact aZ _):fl b σ D g w'/\iN g w g w':=
 ⟨h.CA c d (F':=g.fP) (λ_ _ h=>h) (λ_ _ h=> .inl h),h.A7 c d (F':=g.fP) (λ_ _ h=>h)⟩
theorem fl.Iz (h:fl b σ D g w) {f} (d:g.fk f=none) {X} (m:X.jb=true) (o) (l:∀ g' w',iN g w g' w'->w'.heap[w.heap.size]? =some o->g'.fP=g.fP->qP w' g' w.heap.size X):
  fl b (fc σ (.ay f) X) (λi=>D i\/i=f) (g.sW f w.heap.size) (w.alloc o)/\iN g w (g.sW f w.heap.size) (w.alloc o):=by
 obtain ⟨k,e⟩:=h.ub ((Below.refl _ w).alloc (aq _) o);have n:(w.alloc o).heap[w.heap.size]? =some o:=heap_alloc_new w o;have j:=e.lF (iN.Iv (c:=w.heap.size) d);refine ⟨k.K8 d m (.inl h.jF.pZ) (by simp) (λo q=>?_) (λs x p=>?_) (λs t z N u _ r=>?_) (l g _ e n rfl),j⟩
 .exact absurd (h.lv _ _ q) (cu _)
 .exact absurd (h.ko _ _ p) (cu _)
 .exact absurd (h.mc _ _ _ r) (cu _)
theorem fl.OB (h:fl b σ D g w) {f:Nat} (c:g.fk f=none) {t:TypeId} {cells:List b9} {arr:List Value} (l:arr.length=cells.length)
  (r:∀ (i:Nat) (x:b9) (v:Value),cells[i]? =some x->arr[i]? =some v->eH w g x v):
  fl b (fc σ (.ay f) (.dc t cells)) (λi=>D i\/i=f) (g.sW f w.heap.size) (w.alloc (.cells arr.toArray t))/\iN g w (g.sW f w.heap.size) (w.alloc (.cells arr.toArray t)):=
 h.Iz c rfl _ λ_ _ E d _=>⟨arr,d,l,λi x v j e=>(r i x v j e).oU E⟩
theorem fl.K9 (h:fl b σ D g w) {f:Nat} (c:g.fk f=none) {t:TypeId} {cells:List b9} {arr:List Value} {z:Nat×Nat} (l:cells.length<=arr.length) (k:∀ o,o<arr.length->¬(z.1<=o/\o<z.2))
  (r:∀ (i:Nat) (x:b9) (v:Value),cells[i]? =some x->arr[i]? =some v->gb w g.fP x v):
  fl b (fc σ (.ay f) (.eY t cells)) (λi=>D i\/i=f) (g.sW f w.heap.size) (w.alloc (.cells arr.toArray t z))/\iN g w (g.sW f w.heap.size) (w.alloc (.cells arr.toArray t z)):=
 h.Iz c rfl _ λ_ _ E d _=>⟨arr,z,d,l,k,λi x v j e=>(r i x v j e).ka E.jC⟩
theorem xB.ud (c:jc P T) {t r} (h:hU T t=some r):∃ i z,P.info? t=some i/\i.zero=some z/\i.size=r.eV/\i.bytes=r.Bd/\z.cells.size=r.eV/\r.nZ.length=r.eV/\
  (∀ w g (j:Nat) x v,r.nZ[j]? =some x->z.cells.toList[j]? =some v->eH w g x v)/\(z.cells=#[z]\/∃ cs,z= .agg cs):=by
 obtain ⟨_,i,z,d,e,f,k,l,m,n⟩:=c t r h;grind [TZ]
theorem adT (l:jc P T) (h:fl b σ D g w) {f} (m:g.fk f=none) {t r} (n:hU T t=some r) {dst ty pos after guard}:
  lu P b σ [(.ay f, .dc t r.nZ)] f D g a w ⟨dst, .alloc t,ty,pos,after,guard⟩ (.c8 f 0):=by
 obtain ⟨i,z,c,d,_,_,e,j,k,_⟩:=xB.ud l n;obtain ⟨o,p⟩:=h.OB m (t:=t) (cells:=r.nZ) (arr:=z.cells.toList) (by rw [j];exact e) (k w g);refine ⟨_, .pointer (some ⟨w.heap.size,0,none⟩),_,_,?_, .inl rfl, .rr (gX.qR _ _ _),o,p⟩;simp [execOp,Instr.alloc,zeroValue,typeInfo,c,d,newVar,newRow]
theorem adX (h:fl b σ D g w) {f} (i:g.fk f=none) {t x cs} (e:Be (eR σ x)=some cs) (j:eH w g (eR σ x) (a.eval x)) {dst ty pos after guard}:
  lu P b σ [(.ay f, .dc t cs)] f D g a w ⟨dst, .box t x,ty,pos,after,guard⟩ (.c8 f 0):=by
 obtain ⟨c,d,_⟩:=j.OD e;obtain ⟨k,l⟩:=h.OB i (t:=t) (cells:=cs) (arr:=(a.eval x).cells.toList) c d;refine ⟨_, .pointer (some ⟨w.heap.size,0,none⟩),_,_,?_, .inl rfl, .rr (gX.qR _ _ _),k,l⟩;trivial
theorem T0 (off:Nat):∀ (vs cells:List Value) (k:Nat),off+k+vs.length<=cells.length->
  (vs.zipIdx k).foldl (λ(cs:Array Value) (p:Value×Nat)=>cs.setIfInBounds (off+p.2) p.1) cells.toArray=(cells.take (off+k)++vs++cells.drop (off+k+vs.length)).toArray
 |[],cells,k,_=>by simp
 |v::vs,cells,k,h=>by
  simp only [List.zipIdx_cons,bw,List.setIfInBounds_toArray];rw [T0 off vs (cells.set (off+k) v) (k+1) (by grind)];congr 1;have l:off+k<cells.length:=by simp at h;omega
  have e:(cells.set (off+k) v).take (off+(k+1))=cells.take (off+k)++[v]:=by
   grind [List.take_succ_eq_append_getElem,List.take_set_of_le]
  have c:(cells.set (off+k) v).drop (off+(k+1)+vs.length)=cells.drop (off+k+(v::vs).length):=by
   grind [List.drop_set_of_lt]
  simp_all
theorem OO (l c:Nat->Option (Nat×Nat)) (B:∀ i p,l i=some p->c i=some p):∀ (k:List (Nat×b9)) (d:List (Nat×Value)) (cells cells':List b9) (vals:List Value),
  k.length=d.length->(∀ (j:Nat) (i:Nat) (x:b9) (e:Nat) (v:Value),k[j]? =some (i,x)->d[j]? =some (e,v)->i=e/\eH w g x v)->
  vals.length=cells.length->(∀ (j:Nat) (x:b9) (v:Value),cells[j]? =some x->vals[j]? =some v->eH w g x v)->
  yF l k cells=some cells'->∃ s:List Value,Instr.fill c vals.toArray d=some s.toArray/\s.length=cells'.length/\cells'.length=cells.length/\
   ∀ (j:Nat) (x:b9) (v:Value),cells'[j]? =some x->s[j]? =some v->eH w g x v
 |[],d,cells,cells',vals,hl,_,I,H,h=>by
  have:d=[]:=aR (by simpa using hl.symm);subst this;simp only [yF,aG] at h;subst h;exact ⟨vals,rfl,I,rfl,H⟩
 |(i,x)::k,d,cells,cells',vals,hl,hp,I,H,h=>by
  cases d with
  |nil=>simp at hl
  |cons q d=>
   obtain ⟨e,v⟩:=q;obtain ⟨rfl,N⟩:=hp 0 i x e v rfl rfl;simp only [yF] at h;cases f:l i with
   |none=>simp [f] at h
   |some os=>
    obtain ⟨o,z⟩:=os;simp only [f] at h;cases r:Be x with
    |none=>simp [r] at h
    |some m=>
     simp only [r] at h;cases n:Nat.beq m.length z with
     |false=>simp [n] at h
     |true=>
      simp only [n] at h;cases E:vA cells o m with
      |none=>simp [E] at h
      |some F=>
       simp only [E] at h;obtain ⟨Z,s2⟩:=Lw _ _ _ _ E;obtain ⟨O,x2,_⟩:=N.OD r;have L:m.length=z:=bc n;have Q:v.cells.size=m.length:=O;have A:F.length=cells.length:=by grind
       have t:=T0 o v.cells.toList vals 0 om;obtain ⟨s,R,S,U,W⟩:=OO l c B k d F cells' (vals.take o++v.cells.toList++vals.drop (o+v.cells.toList.length)) (by simpa using hl)
        (λj i x e v J K=>hp (j+1) i x e v (by simpa using J) (by simpa using K)) (by rw [A];simp;omega) (λj y u Y X=>by
         grind) h
       grind [Instr.fill,Array.toList_zipIdx]
theorem T9:∀ p (j i:Nat) x,(rz σ p)[j]? =some (i,x)->∃ o,p[j]? =some (i,o)/\x=eR σ o
 |[],j,i,x,h=>by simp [rz] at h
 |(c,o)::p,0,i,x,h=>by grind [rz]
 |(c,o)::p,j+1,i,x,h=>T9 p j i x (by trivial)
theorem OS:∀ p,(rz σ p).length=p.length
 |[]=>rfl
 |(_,_)::p=>by simp [rz,OS p]
theorem Ua {s:Array (Nat×Operand)} (h:∀ p∈s,eH w g (eR σ p.2) (a.eval p.2)) (j i:Nat) (x:b9) (c:Nat) (v:Value) (d:(rz σ s.toList)[j]? =some (i,x))
  (e:(s.map λ(i,x)=>(i,a.eval x)).toList[j]? =some (c,v)):i=c/\eH w g x v:=by
 grind [T9]
theorem T7 {α j:Type} (f:α->Option j):∀ (l:List α) (r:List j),l.mapM f=some r->∀ (i:Nat) (x:α),l[i]? =some x->r[i]? =f x
 |[],r,h,i,x,d=>by simp at d
 |y::l,r,h,i,x,d=>by
  simp only [List.mapM_cons,Option.bind_eq_bind,Option.pure_def] at h;cases e:f y with
  |none=>simp [e] at h
  |some z=>
   cases c:l.mapM f with
   |none=>simp [e,c] at h
   |some rest=>
    simp [e,c] at h;subst h;cases i with
    |zero=>simp_all
    |succ i=>simpa using T7 f l rest c i x (by simpa using d)
theorem adZ (O:jc P T) (h:fl b σ D g w) {f t u us v} {dst ty pos after guard} (d:(iK P T σ f ⟨dst, .build t u,ty,pos,after,guard⟩).ld v us)
  (hop:∀ p∈u,eH w g (eR σ p.2) (a.eval p.2)):lu P b σ us f D g a w ⟨dst, .build t u,ty,pos,after,guard⟩ v:=by
 simp only [iK,iv] at d;cases R:hU T t with
 |none=>simp only [R] at d;exact d.elim
 |some r=>
  obtain ⟨i,z,W,X,h3,_,h4,h5,h6,_⟩:=xB.ud O R;have o:=(O t _ R).1;obtain ⟨ti,n,S,k⟩:=r;simp only [R] at d o;have L:∀ l c F,(∀ i p,l i=some p->c i=some p)->yF l (rz σ u.toList) k=some F->
    (∀ s,Instr.fill c z.cells (u.map λ(i,x)=>(i,a.eval x)).toList=some s->P.built t (u.map λ(i,x)=>(i,a.eval x)).toList=some s)->
    v= .eN F->us=[]->lu P b σ us f D g a w ⟨dst, .build t u,ty,pos,after,guard⟩ v:=by
   intro l c F hpp A hb J K;subst J K;obtain ⟨I,f1,f2,f3,f4⟩:=OO (w:=w) (g:=g) l c hpp (rz σ u.toList) (u.map λ(i,x)=>(i,a.eval x)).toList k F z.cells.toList (by rw [OS];simp)
    (λj i x i' v W X=>Ua hop j i x i' v W X) (by rw [h5];exact h4) (λj x v hx hv=>h6 w g j x v hx hv) A
   refine lu.kG h (val:= .agg I.toArray) ?_ (.sd f2 f4);have:=run_build (P:=P) w t (u.map λ(i,x)=>(i,a.eval x)) _ (hb _ f1);simp only [execOp,Sem.run_bind,this,Result.andThen_ok];rfl
  cases ti with
  |g5 fs=>
   simp only at d o;obtain ⟨y,E,hu,hfs,hpl⟩:=o;generalize hpf:(λi=>match p9 fs i with|some (N,U)=>(match hU T U with|some r=>some (N,r.eV)|none=>none)|none=>none:Nat->Option (Nat×Nat))=l at d;cases A:yF l (rz σ u.toList) k with
   |none=>simp only [A] at d;exact d.elim
   |some F=>
    simp only [A] at d;obtain ⟨J,K⟩:=d;refine L l (E.toArray[·]?) F (λi p B=>?_) A (λs hc=>?_) J K
    .rw [<-hpf] at B;simp only at B;cases Q:p9 fs i with
     |none=>simp [Q] at B
     |some q=>
      obtain ⟨N,U⟩:=q;simp only [Q] at B;cases H:hU T U with
      |none=>simp [H] at B
      |some r=>
       simp only [H,aG] at B;subst B;obtain ⟨j,_,q1,_,q2,_⟩:=xB.ud O H;rw [xE,<-hfs,bU] at Q;cases Z:y.toList[i]? with
       |none=>simp [Z] at Q
       |some fd=>
        grind [T7]
    grind [Program.built]
  |kq m e=>
   simp only at d o;cases Y:hU T e with
   |none=>simp only [Y] at d;exact d.elim
   |some r=>
    simp only [Y] at d;cases A:yF (λi=>some (i*r.eV,r.eV)) (rz σ u.toList) k with
    |none=>simp only [A] at d;exact d.elim
    |some F=>
     simp only [A] at d;obtain ⟨J,K⟩:=d;obtain ⟨j,_,q1,_,q2,_⟩:=xB.ud O Y;refine L _ (λi=>some (i*r.eV,r.eV)) F (λi p B=>B) A (λs hc=>?_) J K;simp only [Program.built,W,o,X,q1,q2];exact hc
  |_=>exact d.elim
end
section
variable {P:Program} {T:iw} {b:jL P} {σ:eK} {D:Nat->Prop} {g:gX} {a:Act} {w:World}
theorem TW (sz):∀ n l els,CE sz n l=some els->els.length=n/\(∀ e∈els,e.length=sz)/\l=els.flatten
 |0,[],els,h=>by grind [CE]
 |0,_::_,els,h=>by simp [CE] at h
 |n+1,l,els,h=>by
  simp only [CE] at h;cases t:uT l sz with
  |none=>simp [t] at h
  |some r=>
   simp only [t] at h;cases c:CE sz n (zT l sz) with
   |none=>simp [c] at h
   |some s=>
    simp only [c,aG] at h;subst h;obtain ⟨d,f⟩:=IQ _ _ _ t;obtain ⟨i,j,k⟩:=TW sz n _ _ c;grind [Lm,List.take_append_drop]
theorem OT {x} (h:Bi x=true):Bh x=true:=by cases x<;>first|rfl|cases h
theorem IK {α:Type} (sz:Nat):∀ (els:List (List α)) (i j:Nat) (l:List α) (x:α),(∀ l∈els,l.length=sz)->els[i]? =some l->l[j]? =some x->els.flatten[i*sz+j]? =some x
 |[],i,j,l,x,_,h,_=>by simp at h
 |e::els,0,j,l,x,s,h,c=>by
  grind
 |e::els,i+1,j,l,x,s,h,c=>by
  have d:e.length=sz:=s e (by simp);rw [jS,aW (by grind),d];rw [show (i+1)*sz+j - sz=i*sz+j by grind];exact IK sz els i j l x (λy f=>s y (by simp [f])) (by simpa using h) c
theorem pK {α:Type} (sz:Nat):∀ (els:List (List α)),(∀ l∈els,l.length=sz)->els.flatten.length=els.length*sz
 |[],_=>by simp
 |e::els,h=>by
  rw [jS,au,pK sz els (λy c=>h y (by simp [c])),h e (by simp),aL,Nat.succ_mul];omega
theorem Ub {F:Nat->Nat->Prop} {c sz:Nat} {t:TypeId} {z:Nat×Nat} {arr:List Value} {els:List (List b9)} {cap:Nat} (m:w.heap[c]? =some (.cells arr.toArray t z)) (l:∀ o,o<els.length*sz->F c o)
  (h:els.length<=cap) (s:∀ e∈els,e.length=sz) (n:els.length*sz<=arr.length)
  (p:∀ (i:Nat) (x:b9) (v:Value),els.flatten[i]? =some x->arr[i]? =some v->v.oneCell'=true)
  (r:∀ (i:Nat) (x:b9) (v:Value),els.flatten[i]? =some x->arr[i]? =some v->gb w F x v):gb w F (.a8 false sz els .dm) (.slice (some ⟨c,0,none⟩) els.length cap):=by
 have k:∀ (i:Nat) (e:List b9) (j:Nat) (x:b9),els[i]? =some e->e[j]? =some x->els.flatten[i*sz+j]? =some x/\i*sz+j<els.length*sz:=by
  grind [IK,pK]
 refine .mG (λi j=>arr.getD (i*sz+j) undef) rfl h s (λi e j x d f=>?_) (λi e j x d f=>?_) (λi e j x d f=>?_)
 .grind [ru]
 .grind
 grind
theorem fl.adL (h:fl b σ D g w) (arr:List Value) (t:TypeId) (z:Nat×Nat):∃ g',fl b σ D g' (w.alloc (.cells arr.toArray t z))/\iN g w g' (w.alloc (.cells arr.toArray t z))/\(∀ o,g'.fP w.heap.size o)/\
  g'.fk=g.fk/\g'.gF=g.gF/\(∀ k o,g.fP k o->g'.fP k o):=by
 have d:=(Below.refl _ w).alloc (aq _) (.cells arr.toArray t z);refine ⟨{g with fP:=λk o=>g.fP k o\/k=w.heap.size},h.CA d (aq _) (λ_ _ h=> .inl h) (λk o c=>?_),h.A7 d (aq _) (λ_ _ h=> .inl h),λ_=> .inr rfl,rfl,rfl,λ_ _ h=> .inl h⟩;rcases c with c|rfl
 .exact .inl c
 simp_all
theorem wK (n z):(jM n z).length=n*z.length:=by
 unfold jM;simp_all
theorem IM (n z i x) (h:(jM n z)[i]? =some x):z[i % z.length]? =some x/\i<n*z.length:=by
 have d:i<n*z.length:=by grind [wK]
 have c:0<z.length:=by
  grind
 have q:i / z.length<n:=by rw [Nat.div_lt_iff_lt_mul c];exact d
 have m:i % z.length<z.length:=jU _ c;have:=IK z.length (List.replicate n z) (i / z.length) (i % z.length) z z[i % z.length] (λl e=>by simp_all) (by simp_all) (aj m);rw [show i / z.length*z.length+i % z.length=i from by rw [Nat.mul_comm];exact Nat.div_add_mod i z.length] at this;grind [jM]
theorem Ui (l:jc P T) {t r} (m:hU T t=some r) (n:Nat):∃ i z,P.info? t=some i/\i.zero=some z/\i.size=r.eV/\i.bytes=r.Bd/\z.cells.size=r.eV/\r.nZ.length=r.eV/\
  (∀ w g (j:Nat) x v,(jM n r.nZ)[j]? =some x->((Array.range (n*r.eV)).map (z.cells[· % z.cells.size]!)).toList[j]? =some v->eH w g x v):=by
 obtain ⟨i,z,c,d,e,h,f,k,p,_⟩:=xB.ud l m;refine ⟨i,z,c,d,e,h,f,k,λw g j x v o u=>?_⟩;obtain ⟨q,s⟩:=IM n r.nZ j x o;grind
theorem adY (X:jc P T) (h:fl b σ D g w) {f} (hf:g.fk f=none) {t n A us v} {dst ty pos after guard}
  (c:(iK P T σ f ⟨dst, .buildSlice t n A,ty,pos,after,guard⟩).ld v us)
  (Q:∀ p∈A,eH w g (eR σ p.2) (a.eval p.2)):lu P b σ us f D g a w ⟨dst, .buildSlice t n A,ty,pos,after,guard⟩ v:=by
 simp only [iK,iv] at c;cases S:hU T t with
 |none=>simp only [S] at c;exact c.elim
 |some r=>
  have d:=(X t _ S).1;obtain ⟨ti,m,I,zero⟩:=r;simp only [S] at c d;cases ti with
  |jn e=>
   simp only at c d;cases O:hU T e with
   |none=>simp only [O] at c;exact c.elim
   |some r=>
    simp only [O] at c;obtain ⟨i,z,q1,q2,q3,_,q4,q5,q6⟩:=Ui X O n;cases N:Nat.ble (n*r.eV) 1000000 with
    |false=>simp only [N] at c;exact c.elim
    |true=>
     simp only [N] at c;have hle:n*r.eV<=1000000:=cO N;cases s:yF (λi=>some (i*r.eV,r.eV)) (rz σ A.toList) (jM n r.nZ) with
     |none=>simp only [s] at c;exact c.elim
     |some B=>
      simp only [s] at c;obtain ⟨l,E,f2,f3,W⟩:=OO (w:=w) (g:=g) _ (λi=>some (i*r.eV,r.eV)) (λ_ _ h=>h) (rz σ A.toList) (A.map λ(i,x)=>(i,a.eval x)).toList (jM n r.nZ) B
       ((Array.range (n*r.eV)).map (z.cells[· % z.cells.size]!)).toList (by rw [OS];simp) (λj i x i' v h1 h2=>Ua Q j i x i' v h1 h2) (by rw [wK,q5];simp) (λj x v F hv=>q6 w g j x v F hv) s
      have k:(execOp a.eval ⟨dst, .buildSlice t n A,ty,pos,after,guard⟩).run P w= .ok (.value (.slice (some ⟨w.heap.size,0,none⟩) n n)) (w.alloc (.cells l.toArray e)):=by
       have Y:=Lu q1 w;rw [q3] at Y;rw [show ((Array.range (n*r.eV)).map (z.cells[· % z.cells.size]!)).toList.toArray=((Array.range (n*r.eV)).map (z.cells[· % z.cells.size]!)) from rfl] at E;simp only [execOp,Instr.buildSlice,Sem.run_bind,run_underlying d,Result.andThen_ok,Y];rw [ai om]
       by_cases L:n*r.eV=0
       .have e0:∀ fn:Nat->Value,(Array.range 0).map fn=#[]:=λ_=>by simp
        rw [L] at E;simp only [L,du,Sem.run_bind,Sem.run_pure,Result.andThen_ok,e0] at E ⊢;rw [E];simp [newRow]
       .simp only [ai L,Sem.run_bind,Sem.run_pure,Result.andThen_ok,zeroValue,typeInfo,run_program,q1,q2];rw [E];simp [newRow]
      have hcl:B.length=n*r.eV:=by rw [f3,wK,q5]
      cases R:pr B with
      |true=>
       simp only [R] at c;cases q:CE r.eV n (mB B) with
       |none=>simp only [q] at c;exact c.elim
       |some els=>
        simp only [q] at c;obtain ⟨J,K⟩:=c;subst J K;obtain ⟨c1,c2,c3⟩:=TW _ _ _ _ q;obtain ⟨g',U,H,k3,k4,k5,k6⟩:=h.adL l e (0,0);refine ⟨_,_,_,g',k, .inl rfl,?_,U.mQ (λ_ hi=> .inl hi),H⟩;rw [<-c1];refine .m7 (Ub (heap_alloc_new w _) (λo _=>k3 o) (aq _) c2 (by simp_all) (λi x u F Z=>by
         grind [wH,xF,OT,xG]) (λi x u F Z=>?_)) rfl
        rw [<-c3] at F;obtain ⟨y,hy,rfl⟩:=wH F;exact (xH (xG R i y hy) (W i y u hy Z)).ka H.jC
      |false=>
       simp only [R] at c;obtain ⟨J,K⟩:=c;subst J K;obtain ⟨U,H⟩:=h.OB hf (t:=e) (cells:=B) (arr:=l) f2 W;exact ⟨_,_,_,_,k, .inl rfl, .oV (gX.qR _ _ _) (λ_=>rfl) rfl (aq _) (λe=>by cases e),U,H⟩
  |_=>exact c.elim
end
section
variable {P:Program} {T:iw} {b:jL P} {σ:eK} {D:Nat->Prop} {g:gX} {a:Act} {w:World}
theorem FY {k n y c} (h:0<=n) (d:n.toNat<=y):(Instr.sliceBound (.int k n) y c).run P w= .ok n.toNat w:=by
 grind [Instr.sliceBound,asIntOf,Sem.run_pure]
theorem FW {x r} (h:mh σ x=some r) (d:∀ y,x=some y->eH w g (eR σ y) (a.eval y)):(r=none/\x=none)\/∃ n y k,r=some n/\x=some y/\a.eval y= .int k n:=by
 cases x with
 |none=>grind [mh]
 |some y=>
  simp only [mh] at h;have:=d y rfl;cases c:eR σ y with
  |ax k n=>
   simp only [c,aG] at h;rw [c] at this;grind [this.p8]
  |_=>simp [c] at h
def ia (o:Option Int) (d:Nat):Nat:=match o with|some n=>n.toNat|none=>d
theorem FZ {isS len cap} (A:len<=cap) {u r mx l h m} (s:mh σ u=some l) (B:mh σ r=some h) (K:mh σ mx=some m)
  (o:∀ y,(u=some y\/r=some y\/mx=some y)->eH w g (eR σ y) (a.eval y)) (t:∀ x,m=some x->∃ j,h=some j/\j<=x/\x.toNat<=cap)
  (p:∀ n,l=some n->0<=n/\n.toNat<=ia h len) (z:∀ n,h=some n->0<=n/\n.toNat<=len):
  (Instr.sliceBounds isS len cap (u.map a.eval) (r.map a.eval) (mx.map a.eval)).run P w= .ok (ia l 0,ia h len,ia m cap) w:=by
 rcases FW K (λy d=>o y (.inr (.inr d))) with ⟨rfl,rfl⟩|⟨O,S,R,rfl,rfl,I⟩
 .rcases FW B (λy d=>o y (.inr (.inl d))) with ⟨rfl,rfl⟩|⟨F,Q,N,rfl,rfl,k⟩
  .simp only [Instr.sliceBounds,bV,Sem.run_bind,Sem.run_pure,Result.andThen_ok,ej];rcases FW s (λy d=>o y (.inl d)) with ⟨rfl,rfl⟩|⟨i,H,E,rfl,rfl,f⟩
   .simp [ia]
   .have c:=p i rfl;simp only [ia] at c;simp only [bz,f,Sem.run_bind];rw [FY c.1 c.2];rfl
  .have q:=z F rfl;simp only [Instr.sliceBounds,bV,bz,Sem.run_bind,Sem.run_pure,Result.andThen_ok,ej];rw [k,FY q.1 om];simp only [Result.andThen_ok];rcases FW s (λy d=>o y (.inl d)) with ⟨rfl,rfl⟩|⟨i,H,E,rfl,rfl,f⟩
   .simp [ia]
   .have c:=p i rfl;simp only [ia] at c;simp only [bz,f,Sem.run_bind];rw [FY c.1 c.2];rfl
 .obtain ⟨j,e,J,L⟩:=t O rfl;subst e;rcases FW B (λy d=>o y (.inr (.inl d))) with ⟨e,_⟩|⟨F,Q,N,e,rfl,k⟩
  .cases e
  .cases e;have q:=z j rfl;simp only [Instr.sliceBounds,bz,Sem.run_bind,dJ];rw [I,FY om om];simp only [Result.andThen_ok];rw [k,FY q.1 om];simp only [Result.andThen_ok];rcases FW s (λy d=>o y (.inl d)) with ⟨rfl,rfl⟩|⟨i,H,E,rfl,rfl,f⟩
   .simp [ia]
   .have c:=p i rfl;simp only [ia] at c;simp only [bz,f,Sem.run_bind];rw [FY c.1 c.2];rfl
theorem gb.adO {F isNil sz els ad n c} (h:gb w F (.a8 isNil sz els .dm) (.slice ad n c)) {l k m} (L:l<=k) (K:k<=n) (N:k<=m):
  gb w F (.a8 isNil sz ((els.take k).drop l) .dm) (.slice (if m=l then ad else ad.map (·.add (l*sz))) (k - l) (m - l)):=by
 cases h with
 |mG vals y I z E q h=>
  have f:((els.take k).drop l).length=k - l:=by simp;omega
  rw [<-f];have t:∀ i d,((els.take k).drop l)[i]? =some d->els[l+i]? =some d/\l+i<k:=by
   grind
  refine .mG (λi j=>vals (l+i) j) ?_ (by rw [f];omega) (λd s=>z d (cX (cV s))) (λi d j x o p=>?_) (λi d j x o p=>q (l+i) d j x (t i d o).1 p) (λi d j x o p=>h (l+i) d j x (t i d o).1 p)
  .grind
  .obtain ⟨B,H⟩:=t i d o;obtain ⟨A,u,e,J,r⟩:=E (l+i) d j x B p;grind [vy]
theorem Bk (c:jc P T) {t r} (h:hU T t=some r) (w):(sizeOf t).run P w= .ok r.eV w:=by
 grind [xB.ud,Lu]
theorem TT (s:ByteArray) (l h:Nat):(s.extract l h).data.toList=(s.data.toList.take h).drop l:=by
 grind [ByteArray.data_extract,Array.toList_extract,List.drop_take]
theorem Ln {F isNil sz s ad n c} (h:gb w F (.a8 isNil sz [] .dm) (.slice ad n c)):gb w F (.a8 isNil s [] .dm) (.slice ad n c):=by
 cases h with
 |mG vals l d z f o h=>exact .mG vals l d (by simp) (λi e j x h=>by simp at h) (λi e j x h=>by simp at h) (λi e j x h=>by simp at h)
theorem aem (F:jc P T) (h:fl b σ D g w) {t e n0 b0 z0} (Q:hU T t=some ⟨.jn e,n0,b0,z0⟩) {r} (K:hU T e=some r) {x z p mx l k m}
  (N:mh σ z=some l) (L:mh σ p=some k) (O:mh σ mx=some m) {isNil els tk tk' f}
  (S:eH w g (.a8 isNil r.eV els tk) (a.eval x)) (q:∀ y,(z=some y\/p=some y\/mx=some y)->eH w g (eR σ y) (a.eval y)) (d:∀ i,m=some i->k=some i)
  (B:∀ n,l=some n->0<=n/\n.toNat<=ia k els.length) (E:∀ n,k=some n->0<=n/\n.toNat<=els.length)
  (u:∀ ad c,els.length<=c->yD w g tk els.length r.eV ad c->yD w g tk' (ia k els.length - ia l 0) r.eV (if ia m c=ia l 0 then ad else ad.map (·.add (ia l 0*r.eV))) (ia m c - ia l 0))
  {dst ty pos after guard}:
  lu P b σ [] f D g a w ⟨dst, .slice t x z p mx,ty,pos,after,guard⟩ (.a8 isNil r.eV ((els.take (ia k els.length)).drop (ia l 0)) tk'):=by
 obtain ⟨ad,c,H,A,I⟩:=S.nq;have j:els.length<=c:=by cases A;assumption
 have J:=FZ (P:=P) (isS:=true) j N L O q (λi e=>⟨i,d i e,bL _,by grind⟩) B E;have o:=(F t _ Q).1;simp only at o;have R:=u ad c j I;have s:=A.adO (l:=ia l 0) (k:=ia k els.length) (m:=ia m c) (by
  cases l with
  |none=>exact ar _
  |some n=>exact (B n rfl).2) (by
  cases k with
  |none=>exact aq _
  |some n=>exact (E n rfl).2) (by
  cases m with
  |none=>cases k with
   |none=>exact j
   |some n=>grind [ia]
  |some n=>have:=d n rfl;subst this;exact aq _)
 refine lu.kG h ?_ (.m7 s R);simp only [execOp,Instr.sliceAt,Sem.run_bind,run_underlying o,Result.andThen_ok,Instr.slice,H,J,Bk F K,Sem.run_pure]
end
section
variable {P:Program} {T:iw} {b:jL P} {σ:eK} {D:Nat->Prop} {g:gX} {a:Act} {w:World}
theorem yD.TR {w g tk n sz ad c} (h:yD w g tk n sz ad c):yD w g tk (n - 0) sz (if c=0 then ad else ad.map (·.add (0*sz))) (c - 0):=by
 have e:(if c=0 then ad else ad.map (·.add (0*sz)))=ad:=by
  split
  .rfl
  .cases ad with
   |none=>rfl
   |some ad=>simp [Addr.add]
 rw [e];exact h
theorem Lv (A:jc P T) (h:fl b σ D g w) {t n0 b0 z0} (F:hU T t=some ⟨.kP,n0,b0,z0⟩) {x c i l k}
  (E:mh σ c=some l) (B:mh σ i=some k) {s f} (H:eH w g (.cp s) (a.eval x)) (o:∀ y,(c=some y\/i=some y)->eH w g (eR σ y) (a.eval y))
  (u:∀ n,l=some n->0<=n/\n.toNat<=ia k s.length) (z:∀ n,k=some n->0<=n/\n.toNat<=s.length) {dst ty pos after guard}:
  lu P b σ [] f D g a w ⟨dst, .slice t x c i none,ty,pos,after,guard⟩ (.cp ((s.take (ia k s.length)).drop (ia l 0))):=by
 obtain ⟨d,q,j⟩:=H.vw;have e:d.size=s.length:=by rw [<-j];rfl
 have p:=FZ (P:=P) (w:=w) (g:=g) (a:=a) (isS:=false) (aq s.length) E B (m:=none) (mx:=none) rfl (λy I=>o y (by simpa using I)) (by simp) u z;have r:=(A t _ F).1;simp only at r;refine lu.kG h (val:= .string (d.extract (ia l 0) (ia k s.length))) ?_ (.fJ (.lW (by rw [TT,j])));simp only [bV] at p;simp only [execOp,Instr.sliceAt,Sem.run_bind,run_underlying r,Result.andThen_ok,Instr.slice,q,bV,ej,e,p,Sem.run_pure,bA,cK]
theorem aen (J:jc P T) (h:fl b σ D g w) {t e n0 b0 z0} (Y:hU T t=some ⟨.jn e,n0,b0,z0⟩) {r} (Q:hU T e=some r) {x B s mx l k m}
  (U:mh σ B=some l) (R:mh σ s=some k) (X:mh σ mx=some m) {id off len full u f}
  (Z:eH w g (.eP id off r.eV len full) (a.eval x)) (A:∀ y,(B=some y\/s=some y\/mx=some y)->eH w g (eR σ y) (a.eval y)) (i:∀ j,m=some j->∃ d,k=some d/\d<=j/\j.toNat<=len)
  (H:∀ n,l=some n->0<=n/\n.toNat<=ia k len) (I:∀ n,k=some n->0<=n/\n.toNat<=len) (q:u=true->full=true/\l=none/\m=none)
  {dst ty pos after guard}:
  lu P b σ [] f D g a w ⟨dst, .slice t x B s mx,ty,pos,after,guard⟩ (.eP id (off+ia l 0*r.eV) r.eV (ia k len - ia l 0) u):=by
 obtain ⟨c,p,F,q1,q2,q3,q4,E,q6⟩:=Z.qS;have O:=FZ (P:=P) (isS:=true) E U R X A (λj e=>let ⟨d,K,L,N⟩:=i j e;⟨d,K,L,av N E⟩) H I;have o:=(J t _ Y).1;simp only at o;have W:ia l 0<=ia k len:=by
  cases l with
  |none=>exact ar _
  |some n=>exact (H n rfl).2
 have z:ia k len<=len:=by
  cases k with
  |none=>exact aq _
  |some n=>exact (I n rfl).2
 have S:ia k len<=ia m p:=by
  cases m with
  |none=>exact av z E
  |some n=>obtain ⟨d,rfl,h3,_⟩:=i n rfl;show d.toNat<=n.toNat;omega
 refine lu.kG h (val:= .slice (if ia m p=ia l 0 then F else F.map (·.add (ia l 0*r.eV))) (ia k len - ia l 0) (ia m p - ia l 0)) ?_ (.oV q1 (λhp=>?_) ?_ om (λhf=>?_))
 .simp only [execOp,Instr.sliceAt,Sem.run_bind,run_underlying o,Result.andThen_ok,Instr.slice,q2,O,Bk J Q,Sem.run_pure]
 .grind [vy]
 .grind
 grind [ia,Addr.add]
theorem aek (u:jc P T) (h:fl b σ D g w) {t e n n0 b0 z0} (J:hU T t=some ⟨.kq n e,n0,b0,z0⟩) {r} (A:hU T e=some r) {x j i l k}
  (H:mh σ j=some l) (E:mh σ i=some k) {id off f}
  (K:eH w g (.c8 id off) (a.eval x)) (p:∀ y,(j=some y\/i=some y)->eH w g (eR σ y) (a.eval y))
  (q:∀ m,l=some m->0<=m/\m.toNat<=ia k n) (s:∀ m,k=some m->0<=m/\m.toNat<=n) {dst ty pos after guard}:
  lu P b σ [] f D g a w ⟨dst, .slice t x j i none,ty,pos,after,guard⟩ (.eP id (off+ia l 0*r.eV) r.eV (ia k n - ia l 0) false):=by
 obtain ⟨c,N,O⟩:=K.vv;have z:=FZ (P:=P) (w:=w) (g:=g) (a:=a) (isS:=false) (aq n) H E (m:=none) (mx:=none) rfl (λy L=>p y (by simpa using L)) (by simp) q s;have o:=(u t _ J).1;simp only at o;have I:ia l 0<=ia k n:=by
  cases l with
  |none=>exact ar _
  |some m=>exact (q m rfl).2
 have F:ia k n<=n:=by
  cases k with
  |none=>exact aq _
  |some m=>exact (s m rfl).2
 simp only [bV] at z;refine lu.kG h (val:= .slice (some (if n=ia l 0 then ⟨c,off,none⟩ else (⟨c,off,none⟩:Addr).add (ia l 0*r.eV))) (ia k n - ia l 0) (n - ia l 0)) ?_ (.oV N (λQ=>?_) rfl om (λB=>by cases B))
 .have d:ia none n=n:=rfl;simp only [execOp,Instr.sliceAt,Sem.run_bind,run_underlying o,Result.andThen_ok,Instr.sureAddr,O,bV,z,d,Bk u A,Sem.run_pure]
 grind [vy]
theorem ael (hT:jc P T) (h:fl b σ D g w) {f t x R O mx us v} {dst ty pos after guard}
  (d:(vB σ T t (eR σ x) (mh σ R) (mh σ O) (mh σ mx)).ld v us) (F:eH w g (eR σ x) (a.eval x)) (A:∀ y,(R=some y\/O=some y\/mx=some y)->eH w g (eR σ y) (a.eval y)):
  lu P b σ us f D g a w ⟨dst, .slice t x R O mx,ty,pos,after,guard⟩ v:=by
 have hno:∀ {m:Option Int},m=none->mh σ mx=some m->mx=none:=λi j=>by
  subst i;cases mx with
  |none=>rfl
  |some y=>grind [mh]
 generalize hX:eR σ x=X at d F;cases L:mh σ R with
 |none=>rw [L] at d;unfold vB at d;cases X<;>exact d.elim
 |some l=>
 cases Q:mh σ O with
 |none=>rw [L,Q] at d;unfold vB at d;cases X<;>exact d.elim
 |some k=>
 cases hm:mh σ mx with
 |none=>rw [L,Q,hm] at d;unfold vB at d;cases X<;>(try exact d.elim)<;>(cases k<;>exact d.elim)
 |some m=>
 rw [L,Q,hm] at d;cases X with
 |cp s=>
  cases m with
  |some m=>exact d.elim
  |none=>
   have e:=hno rfl hm;subst e;simp only [vB,iv] at d;cases p:hU T t with
   |none=>simp only [p] at d;exact d.elim
   |some r=>
    obtain ⟨ti,n0,b0,z0⟩:=r;simp only [p] at d;cases ti with
    |kP=>
     simp only at d;have q:∀ y,(R=some y\/O=some y)->eH w g (eR σ y) (a.eval y):=λy hy=>A y (by simp_all)
     cases l with
     |none=>cases k with
      |none=>
       obtain ⟨i,j⟩:=d;subst i j;have:=Lv (f:=f) hT h p L Q F q (by simp) (by simp) (dst:=dst) (ty:=ty) (pos:=pos) (after:=after) (guard:=guard);grind [ia]
      |some k=>
       obtain ⟨⟨u,z⟩,i,j⟩:=d;subst i j;have:=Lv (f:=f) hT h p L Q F q (by simp) (λn o=>by simp_all) (dst:=dst) (ty:=ty) (pos:=pos) (after:=after) (guard:=guard);trivial
     |some l=>cases k with
      |none=>
       obtain ⟨⟨u,z⟩,i,j⟩:=d;subst i j;have:=Lv (f:=f) hT h p L Q F q (λn o=>by cases o;exact ⟨u,z⟩) (by simp) (dst:=dst) (ty:=ty) (pos:=pos) (after:=after) (guard:=guard);grind [ia]
      |some k=>
       obtain ⟨⟨u,z,U⟩,i,j⟩:=d;subst i j;exact Lv (f:=f) hT h p L Q F q (λn o=>by grind [ia]) (λn o=>by cases o;omega) (dst:=dst) (ty:=ty) (pos:=pos) (after:=after) (guard:=guard)
    |_=>exact d.elim
 |a8 H sz E J=>
  simp only [vB,iv] at d;cases p:hU T t with
  |none=>simp only [p] at d;exact d.elim
  |some r=>
   obtain ⟨ti,n0,b0,z0⟩:=r;simp only [p] at d;cases ti with
   |jn e=>
    simp only at d;cases I:hU T e with
    |none=>simp only [I] at d;exact d.elim
    |some r=>
     simp only [I] at d;have key:∀ E J,eH w g (.a8 H r.eV E J) (a.eval x)->(OU H r.eV J l k m E).ld v us->lu P b σ us f D g a w ⟨dst, .slice t x R O mx,ty,pos,after,guard⟩ v:=by
      intro E J F d;have B:= @aem P T b σ D g a w hT h t e n0 b0 z0 p r I x R O mx l k m L Q hm H E J;cases l with
      |none=>cases k with
       |none=>cases m with
        |none=>
         obtain ⟨i,j⟩:=d;subst i j;have:=B (tk':=J) (f:=f) F A (by simp) (by simp) (by simp) (λS c hc Y=>by grind [ia,Y.TR]) (dst:=dst) (ty:=ty) (pos:=pos) (after:=after) (guard:=guard);grind [ia]
        |some m=>exact d.elim
       |some k=>cases m with
        |none=>
         obtain ⟨⟨u,z⟩,i,j⟩:=d;subst i j;have:=B (tk':=Uh J) (f:=f) F A (by simp) (by simp) (λn o=>by simp_all) (λS c hc Y=>by
          simp only [ia];cases J with
          |dm=>trivial
          |fW=>trivial
          |hJ id=>trivial
          |je id=>
           obtain ⟨bk,N,t1,t2,t3⟩:=Y;have:yD w g (.je id) (k.toNat - 0) r.eV (if c=0 then S else S.map (·.add (0*r.eV))) (c - 0):=by
            refine yD.TR ⟨bk,N,t1,om,λe=>?_⟩;grind
           exact this) (dst:=dst) (ty:=ty) (pos:=pos) (after:=after) (guard:=guard)
         trivial
        |some m=>
         obtain ⟨⟨u,z,U⟩,i,j⟩:=d;subst i j U;have:=B (tk':= .fW) (f:=f) F A (by simp) (by simp) (λn o=>by simp_all) (λS c hc Y=>rfl) (dst:=dst) (ty:=ty) (pos:=pos) (after:=after) (guard:=guard);trivial
      |some l=>cases k with
       |none=>cases m with
        |none=>
         obtain ⟨⟨u,z⟩,i,j⟩:=d;subst i j;have:=B (tk':=D4 J) (f:=f) F A (by simp) (λn o=>by cases o;exact ⟨u,z⟩) (by simp) (λS c hc Y=>by
          cases J with
          |dm=>trivial
          |je id=>trivial
          |hJ id=>trivial
          |fW=>
           have e:c=E.length:=Y;show ia none c - ia (some l) 0=ia none E.length - ia (some l) 0;rw [e]) (dst:=dst) (ty:=ty) (pos:=pos) (after:=after) (guard:=guard)
         grind [ia]
        |some m=>exact d.elim
       |some k=>cases m with
        |none=>
         obtain ⟨⟨u,z,U⟩,i,j⟩:=d;subst i j;exact B (tk':= .dm) (f:=f) F A (by simp) (λn o=>by grind [ia]) (λn o=>by cases o;omega) (λS c hc Y=>trivial)
        |some m=>
         obtain ⟨⟨u,z,U,h4⟩,i,j⟩:=d;subst i j h4;exact B (tk':= .fW) (f:=f) F A (by simp) (λn o=>by grind [ia]) (λn o=>by cases o;omega) (λS c hc Y=>rfl)
     cases W:Nat.beq sz r.eV with
     |true=>
      simp only [W] at d;have e:sz=r.eV:=bc W;grind
     |false=>
      simp only [W] at d;obtain ⟨e,d⟩:=d;subst e;obtain ⟨S,c,i,j,e3⟩:=F.nq;refine key [] (D4 J) ?_ d;rw [i];refine .m7 (Ln j) ?_;cases J with
      |dm=>trivial
      |fW=>exact e3
      |je id=>trivial
      |hJ id=>trivial
   |_=>exact d.elim
 |eP id off sz len K=>
  cases p:hU T t with
  |none=>simp only [vB,iv,p] at d;cases m<;>(try exact d.elim)<;>(cases k<;>exact d.elim)
  |some r=>
   obtain ⟨ti,n0,b0,z0⟩:=r;cases ti with
   |jn e=>
    cases I:hU T e with
    |none=>simp only [vB,iv,p,I] at d;cases m<;>(try exact d.elim)<;>(cases k<;>exact d.elim)
    |some r=>
     cases W:Nat.beq sz r.eV with
     |false=>cases m<;>cases k<;>simp only [vB,iv,p,I,W] at d<;>exact d.elim
     |true=>
      have e0:sz=r.eV:=bc W;subst e0;have B:=λZ=> @aen P T b σ D g a w hT h t e n0 b0 z0 p r I x R O mx l k m L Q hm id off len K Z f F A
      cases m with
      |none=>
       simp only [vB,iv,p,I,W] at d;cases l with
       |none=>cases k with
        |none=>
         obtain ⟨i,j⟩:=d;subst i j;have:=B K (by simp) (by simp) (by simp) (λhf=>⟨hf,rfl,rfl⟩) (dst:=dst) (ty:=ty) (pos:=pos) (after:=after) (guard:=guard);grind [ia]
        |some k=>
         obtain ⟨⟨u,z⟩,i,j⟩:=d;subst i j;have:=B K (by simp) (by simp) (λn o=>by simp_all) (λhf=>⟨hf,rfl,rfl⟩) (dst:=dst) (ty:=ty) (pos:=pos) (after:=after) (guard:=guard);grind [ia]
       |some l=>cases k with
        |none=>
         obtain ⟨⟨u,z⟩,i,j⟩:=d;subst i j;exact B false (by simp) (λn o=>by cases o;exact ⟨u,z⟩) (by simp) (by simp)
        |some k=>
         obtain ⟨⟨u,z,U⟩,i,j⟩:=d;subst i j;exact B false (by simp) (λn o=>by grind [ia]) (λn o=>by cases o;omega) (by simp)
      |some m=>
       cases k with
       |none=>exact d.elim
       |some k=>
        simp only [vB,iv,p,I,W] at d;cases l with
        |none=>
         obtain ⟨⟨u,z,U,h4⟩,i,j⟩:=d;subst i j;have:=B false (λm' hm'=>by simp_all) (by simp) (λn o=>by simp_all) (by simp) (dst:=dst) (ty:=ty) (pos:=pos) (after:=after) (guard:=guard);grind [ia]
        |some l=>
         obtain ⟨⟨u,z,U,h4,h5⟩,i,j⟩:=d;subst i j;exact B false (λm' hm'=>by simp_all) (λn o=>by grind [ia]) (λn o=>by cases o;omega) (by simp)
   |_=>simp only [vB,iv,p] at d;cases m<;>(try exact d.elim)<;>(cases k<;>exact d.elim)
 |c8 id off=>
  cases m with
  |some m=>exact d.elim
  |none=>
   have e:=hno rfl hm;subst e;simp only [vB,iv] at d;cases p:hU T t with
   |none=>simp only [p] at d;exact d.elim
   |some r=>
    obtain ⟨ti,n0,b0,z0⟩:=r;simp only [p] at d;cases ti with
    |kq n e=>
     simp only at d;cases I:hU T e with
     |none=>simp only [I] at d;exact d.elim
     |some r=>
      simp only [I] at d;have q:∀ y,(R=some y\/O=some y)->eH w g (eR σ y) (a.eval y):=λy hy=>A y (by simp_all)
      have B:= @aek P T b σ D g a w hT h t e n n0 b0 z0 p r I x R O l k L Q id off f F q;cases l with
      |none=>cases k with
       |none=>
        obtain ⟨i,j⟩:=d;subst i j;have:=B (by simp) (by simp) (dst:=dst) (ty:=ty) (pos:=pos) (after:=after) (guard:=guard);grind [ia]
       |some k=>
        obtain ⟨⟨u,z⟩,i,j⟩:=d;subst i j;have:=B (by simp) (λn o=>by simp_all) (dst:=dst) (ty:=ty) (pos:=pos) (after:=after) (guard:=guard);grind [ia]
      |some l=>cases k with
       |none=>
        obtain ⟨⟨u,z⟩,i,j⟩:=d;subst i j;exact B (λn o=>by cases o;exact ⟨u,z⟩) (by simp)
       |some k=>
        obtain ⟨⟨u,z,U⟩,i,j⟩:=d;subst i j;exact B (λn o=>by grind [ia]) (λn o=>by cases o;omega)
    |_=>exact d.elim
 |_=>exact d.elim
end
section
variable {P:Program} {T:iw} {b:jL P} {σ:eK} {D:Nat->Prop} {g:gX} {a:Act} {w:World}
theorem aes {x y:ByteArray} {a b:List UInt8} (h:x.data.toList=a) (c:y.data.toList=b):(x.toList==y.toList)=decide (a=b):=by
 grind [Lib.toList_data]
theorem aeo {o k x y v us t} (s:Lp o=false) (h:(F5 o k x y).ld v us):us=[]/\∃ val,(binOp o t (.int k x) (.int k y)).run P w= .ok val w/\eH w g v val:=by
 cases o<;>simp only [F5] at h<;>(try (cases s;done))<;>(try exact h.elim)
 case quo=>
  cases c:y==0 with
  |true=>simp only [c] at h;exact h.elim
  |false=>
   simp only [c] at h;obtain ⟨e,d⟩:=h;subst e;have n:y≠0:=by simpa using c
   exact ⟨d,_,by simp [binOp,Op.intDiv,n], .fJ (.kS _ _)⟩
 case rem=>
  cases c:y==0 with
  |true=>simp only [c] at h;exact h.elim
  |false=>
   simp only [c] at h;obtain ⟨e,d⟩:=h;subst e;have n:y≠0:=by simpa using c
   exact ⟨d,_,by simp [binOp,Op.intDiv,n], .fJ (.kS _ _)⟩
 all_goals
  obtain ⟨e,d⟩:=h;subst e;refine ⟨d,?_⟩
  first
   |exact ⟨_,by simp only [binOp,ne_eq,not_true_eq_false,cK,Op.intArith];rfl, .fJ (.kS _ _)⟩
   |exact ⟨_,by simp only [binOp,ne_eq,not_true_eq_false,cK];rfl, .fJ (.kS _ _)⟩
   |exact ⟨_,by simp only [binOp,ne_eq,not_true_eq_false,cK,Op.intCmp];rfl, .fJ (.rq _)⟩
theorem aep {o k j x y v us t} (s:Lp o=true) (h:(F5 o k x y).ld v us):us=[]/\∃ val,(binOp o t (.int k x) (.int j y)).run P w= .ok val w/\eH w g v val:=by
 cases o<;>simp only [F5] at h<;>(try (cases s;done))
 all_goals
  obtain ⟨d,e,c⟩:=h;subst e;refine ⟨c,_,?_, .fJ (.kS _ _)⟩;have n:¬y<0:=om;simp only [binOp,Op.shift,ai n];rfl
theorem aeq {o x y p q} (j:x.data.toList=p) (k:y.data.toList=q) {v us t} (h:(IP o (.cp p) (.cp q)).ld v us):
  us=[]/\∃ val,(binOp o t (.string x) (.string y)).run P w= .ok val w/\eH w g v val:=by
 have d:=aes j k;have f:x.size=p.length:=by rw [<-j];rfl
 have i:y.size=q.length:=by rw [<-k];rfl
 have l:Op.bytesLess x.toList y.toList=Op.bytesLess p q:=by grind [Lib.toList_data]
 cases o<;>simp only [IP] at h<;>(try exact h.elim)
 case add=>
  obtain ⟨m,e,c⟩:=h;subst e;refine ⟨c, .string (x++y),?_, .fJ (.lW ?_)⟩
  .have n:¬(((x.size+y.size:Nat):Int)>IntKind.i64.max):=by
    rw [f,i];have:IntKind.i64.max=9223372036854775807:=rfl;rw [this];omega
   simp only [binOp,Op.stringOp,ai n];rfl
  simp_all
 all_goals
  obtain ⟨e,c⟩:=h;subst e;refine ⟨c,_,?_, .fJ (.rq _)⟩;simp only [binOp,Op.stringOp,d,l];rfl
theorem aei {o t x y k j p q}:(eqGuard o t x y (.int k p) (.int j q)).run P w= .ok () w:=by
 unfold eqGuard;cases o<;>simp
theorem aej {o t x y p q}:(eqGuard o t x y (.string p) (.string q)).run P w= .ok () w:=by
 unfold eqGuard;cases o<;>simp
theorem Bj (h:fl b σ D g w) {f o v us} (p:∀ x∈o.op.operands,eH w g (eR σ x) (a.eval x)) (k:(oG.qT b9 λv=> .jm (uS P σ o v) (.fV v [])).ld v us):lu P b σ us f D g a w o v:=by
 obtain ⟨m,d,e,c⟩:=k;subst e c;obtain ⟨l,i,j⟩:=d g a w p;exact lu.kG h i j
theorem xD {t u v r} (h:∀ d:Nat,(Op.equalIn (d+1) t u v).run P w= .ok r w):(Op.equal t u v).run P w= .ok r w:=by
 grind [Op.equal,Op.maxDepth]
def aee:Value->Value->Bool
 | .nilIface, .nilIface=>false
 | .agg _,_=>false
 | .int _ _,_=>false
 | .float _ _,_=>false
 | .complex _ _ _,_=>false
 | .string _,_=>false
 |_,_=>true
theorem aec (hT:jc P T) {t x y u v r} (j:eH w g x u) (B:eH w g y v) (h:OQ T t x y=some r):(Op.equal t u v).run P w= .ok r w/\
  (∀ H L N,(eqGuard H t L N u v).run P w= .ok () w)/\(binOp .eql t u v).run P w= .ok (.bool r) w/\(binOp .neq t u v).run P w= .ok (.bool (!r)) w:=by
 have i:∀ {u v:Value} {r:Bool},(Op.equal t u v).run P w= .ok r w->aee u v=true->(Op.equal t u v).run P w= .ok r w/\
   (∀ H L N,(eqGuard H t L N u v).run P w= .ok () w)/\(binOp .eql t u v).run P w= .ok (.bool r) w/\(binOp .neq t u v).run P w= .ok (.bool (!r)) w:=by
  intro u v r m s;refine ⟨m,λH L N=>?_,?_,?_⟩
  .unfold eqGuard;cases u<;>(try (cases s;done))<;>cases v<;>(try (cases s;done))<;>cases H<;>simp
  .cases u<;>(try (cases s;done))<;>simp [binOp,m]
  .cases u<;>(try (cases s;done))<;>simp [binOp,m]
 unfold OQ at h;cases O:iv T t with
 |none=>simp [O] at h
 |some row=>
  have o:=(hT t _ O).1;obtain ⟨ti,n0,b0,z0⟩:=row;simp only [O] at h;cases ti with
  |jn e=>
   simp only at h o;have l:∀ {n:Bool} {R:Nat} {A:List (List b9)} {X:yC} {z:Value},eH w g (.a8 n R A X) z->∃ E c,z= .slice E A.length c/\n=E.isNone:=by
    intro n R A X z hz;obtain ⟨E,c,rfl,hp,_⟩:=hz.nq;cases hp with|mG vals W _ _ _ _ _=>simp_all
   cases x with
   |a8 n1 s1 e1 t1=>
    obtain ⟨S,c1,rfl,I⟩:=l j;cases y with
    |a8 Q s2 e2 t2=>
     obtain ⟨J,Y,rfl,K⟩:=l B;cases S with
     |none=>
      simp only [Option.isNone_none] at I;subst I;have e:r=J.isNone:=by grind
      subst e;exact i (xD λd=>by rw [Op.equalIn];simp [run_underlying o]) rfl
     |some S=>
      simp only [Option.isNone_some] at I;subst I;cases Q with
      |false=>simp at h
      |true=>
       simp at h;subst h;have e:J=none:=Option.isNone_iff_eq_none.1 K.symm;subst e;exact i (xD λd=>by rw [Op.equalIn];simp [run_underlying o]) rfl
    |_=>trivial
   |eP k F R len U=>
    cases y with
    |a8 Q s2 e2 t2=>
     obtain ⟨J,Y,rfl,K⟩:=l B;obtain ⟨c,Z,E,_,rfl,_,q4,_⟩:=j.qS;cases Q with
     |false=>simp at h
     |true=>
      simp at h;subst h;obtain ⟨E,rfl⟩:=bN.1 q4;have:J=none:=Option.isNone_iff_eq_none.1 K.symm;subst this;exact i (xD λd=>by rw [Op.equalIn];simp [run_underlying o]) rfl
    |_=>simp at h
   |_=>cases y<;>simp at h
  |kK=>
   simp only at h o;obtain ⟨ms,o⟩:=o;cases x with
   |gm tx vx=>
    cases y with
    |gy=>
     simp at h;subst h;obtain ⟨z,rfl,_⟩:=j.DW;obtain rfl:=B.FN;exact i (xD λd=>by rw [Op.equalIn];simp [run_underlying o]) rfl
    |_=>simp at h
   |gy=>
    cases y with
    |gm tx vx=>
     simp at h;subst h;obtain ⟨z,rfl,_⟩:=B.DW;obtain rfl:=j.FN;exact i (xD λd=>by rw [Op.equalIn];simp [run_underlying o]) rfl
    |_=>simp at h
   |_=>simp at h
  |me=>
   simp only at h o;cases m:sf x with
   |none=>simp [m] at h
   |some p=>
    cases s:sf y with
    |none=>simp [m,s] at h
    |some q=>
     simp only [m,s,aG] at h;subst h;obtain rfl:=FT j m;obtain rfl:=FT B s;exact i (xD λd=>run_equalIn_bool' w d t p q o) rfl
  |ku e=>
   simp only at h o;cases y with
   |fY=>
    obtain rfl:=B.Le;cases x with
    |fY=>simp at h;subst h;obtain rfl:=j.Le;exact i (xD λd=>by rw [Op.equalIn];simp [run_underlying o]) rfl
    |c8 k F=>simp at h;subst h;obtain ⟨c,_,rfl⟩:=j.vv;exact i (xD λd=>by rw [Op.equalIn];simp [run_underlying o]) rfl
    |gJ cs F=>simp at h;subst h;obtain ⟨c,d,_,rfl,_⟩:=j.FM;exact i (xD λd=>by rw [Op.equalIn];simp [run_underlying o]) rfl
    |_=>simp at h
   |_=>cases x<;>simp at h
  |mf=>
   simp only at h o;obtain ⟨I,K,q3,o⟩:=o;cases y with
   |gL=>
    obtain rfl:=B.OE;cases x with
    |gL=>simp at h;subst h;obtain rfl:=j.OE;exact i (xD λd=>by rw [Op.equalIn];simp [run_underlying o]) rfl
    |eW f fs cs=>simp at h;subst h;obtain ⟨vs,us,rfl,_⟩:=j.CD;exact i (xD λd=>by rw [Op.equalIn];simp [run_underlying o]) rfl
    |_=>simp at h
   |_=>cases x<;>simp at h
  |_=>simp at h
theorem adW (hT:jc P T) (h:fl b σ D g w) {f:Nat} {op:BinOp} {t ty':TypeId} {x y:Operand} {us:List (fQ×gC)} {v:b9} {dst ty pos after guard}
  (hg:(iK P T σ f ⟨dst, .binOp op t x y ty',ty,pos,after,guard⟩).ld v us) (hop:∀ z∈(Op.binOp op t x y ty').operands,eH w g (eR σ z) (a.eval z)):lu P b σ us f D g a w ⟨dst, .binOp op t x y ty',ty,pos,after,guard⟩ v:=by
 have hx:=hop x (by simp [Op.operands]);have hy:=hop y (by simp [Op.operands]);simp only [iK] at hg;have fin:∀ {xv yv:Value},a.eval x=xv->a.eval y=yv->(eqGuard op t x y xv yv).run P w= .ok () w->(us=[]/\∃ val,(binOp op t xv yv).run P w= .ok val w/\eH w g v val)->lu P b σ us f D g a w ⟨dst, .binOp op t x y ty',ty,pos,after,guard⟩ v:=by
  intro xv yv e1 e2 h1 h2;obtain ⟨e3,val,h3,h4⟩:=h2;subst e3;refine lu.kG h ?_ h4;simp only [execOp,e1,e2,Sem.run_bind,h1,Result.andThen_ok,h3,Sem.run_pure]
 have nils:(match op,Lk T t (Lt (D1 x) (D1 y)) (eR σ x) (eR σ y) with
   | .eql,some b=>oG.fV (.eD b) []
   | .neq,some b=>oG.fV (.eD (!b)) []
   |_,_=>oG.qT b9 λv=> .jm (uS P σ ⟨dst, .binOp op t x y ty',ty,pos,after,guard⟩ v) (.fV v [])).ld v us->lu P b σ us f D g a w ⟨dst, .binOp op t x y ty',ty,pos,after,guard⟩ v:=by
  intro hg;cases hb:Lk T t (Lt (D1 x) (D1 y)) (eR σ x) (eR σ y) with
  |none=>
   simp only [hb] at hg;cases op<;>exact Bj h hop hg
  |some r=>
   simp only [hb] at hg;have two:(∀ xv yv,a.eval x=xv->a.eval y=yv->(eqGuard op t x y xv yv).run P w= .ok () w/\(binOp .eql t xv yv).run P w= .ok (.bool r) w/\(binOp .neq t xv yv).run P w= .ok (.bool (!r)) w)->lu P b σ us f D g a w ⟨dst, .binOp op t x y ty',ty,pos,after,guard⟩ v:=by
    intro hh;obtain ⟨h1,h2,h3⟩:=hh _ _ rfl rfl;cases op<;>first
     |exact Bj h hop hg
     |(obtain ⟨e1,e2⟩:=hg;subst e1 e2;exact fin rfl rfl h1 ⟨rfl,_,h2, .fJ (.rq _)⟩)
     |(obtain ⟨e1,e2⟩:=hg;subst e1 e2;exact fin rfl rfl h1 ⟨rfl,_,h3, .fJ (.rq _)⟩)
   unfold Lk at hb;split at hb
   .rename_i hc hX hY;rw [hX] at hx;rw [hY] at hy;cases hr:iv T t with
    |none=>simp [hr] at hb
    |some row=>
     have hrow:=(hT t _ hr).1;obtain ⟨ti,n0,b0,z0⟩:=row;simp only [hr] at hb hrow;cases ti<;>simp only [aG,reduceCtorEq] at hb
     subst hb;obtain ⟨ms,hrow⟩:=hrow;refine two λxv yv e1 e2=>?_
     rw [hx.FN] at e1;rw [hy.FN] at e2;subst e1 e2;have he:(Op.equal t .nilIface .nilIface).run P w= .ok true w:=xD λd=>by rw [Op.equalIn];simp [run_underlying hrow]
     refine ⟨?_,by simp [binOp,he],by simp [binOp,he]⟩;have hcc:(match x with| .const _=>true|_=>false)=true\/(match y with| .const _=>true|_=>false)=true:=by
      cases x<;>first|exact .inl rfl|(cases y<;>first|exact .inr rfl|(simp [D1,Lt] at hc))
     unfold eqGuard;rcases hcc with hcc|hcc
     .cases x<;>first|(cases op<;>simp;done)|cases hcc
     .cases y<;>first|(cases op<;>simp;done)|cases hcc
   .refine two λxv yv e1 e2=>?_
    subst e1 e2;obtain ⟨_,q2,q3,q4⟩:=aec hT hx hy hb;exact ⟨q2 _ _ _,q3,q4⟩
 cases hX:eR σ x with
 |ax k p=>
  cases hY:eR σ y with
  |ax j q=>
   simp only [hX,hY,IP] at hg;rw [hX] at hx;rw [hY] at hy;refine fin hx.p8 hy.p8 aei ?_;cases hs:Lp op with
   |true=>simp only [hs] at hg;exact aep hs hg
   |false=>
    simp only [hs] at hg;cases hk:wJ k j with
    |false=>simp only [hk] at hg;exact hg.elim
    |true=>
     simp only [hk] at hg;have e:=Lq hk;subst e;exact aeo hs hg
  |_=>exact nils (by simp only [hX,hY] at hg ⊢;exact hg)
 |cp p=>
  cases hY:eR σ y with
  |cp q=>
   simp only [hX,hY] at hg;rw [hX] at hx;rw [hY] at hy;obtain ⟨bx,ex,hbx⟩:=hx.vw;obtain ⟨by',ey,hby⟩:=hy.vw;exact fin ex ey aej (aeq hbx hby hg)
  |_=>exact nils (by simp only [hX,hY] at hg ⊢;exact hg)
 |eN cs=>
  cases hY:eR σ y with
  |eN ds=>
   simp only [hX,hY] at hg;cases hc:xC cs ds with
   |none=>simp only [hc] at hg;cases op<;>exact Bj h hop hg
   |some r=>
    simp only [hc] at hg;rw [hX] at hx;rw [hY] at hy;obtain ⟨xs,ex,lx,rx⟩:=hx.FL;obtain ⟨ys,ey,ly,ry⟩:=hy.FL;have both:IJ P t (zV cs)=true->(eqGuard op t x y (.agg xs.toArray) (.agg ys.toArray)).run P w= .ok () w/\(binOp .eql t (.agg xs.toArray) (.agg ys.toArray)).run P w= .ok (.bool r) w/\
      (binOp .neq t (.agg xs.toArray) (.agg ys.toArray)).run P w= .ok (.bool (!r)) w:=λhk=>by
     obtain ⟨h1,h2⟩:=adS lx ly rx ry hc hk;exact ⟨run_eqGuard_agg w op t x y _ _ h1,by rw [run_eql_struct,h2];rfl,by rw [run_neq_struct,h2];rfl⟩
    cases op<;>first
     |exact Bj h hop hg
     |(obtain ⟨hk,e1,e2⟩:=hg;subst e1 e2;obtain ⟨h1,h2,h3⟩:=both hk;exact fin ex ey h1 ⟨rfl,_,h2, .fJ (.rq _)⟩)
     |(obtain ⟨hk,e1,e2⟩:=hg;subst e1 e2;obtain ⟨h1,h2,h3⟩:=both hk;exact fin ex ey h1 ⟨rfl,_,h3, .fJ (.rq _)⟩)
  |_=>exact nils (by simp only [hX,hY] at hg ⊢;exact hg)
 |_=>exact nils (by simp only [hX] at hg ⊢;exact hg)
theorem ad4 (N:jc P T) (h:fl b σ D g w) {f s x i us v} {dst ty pos after guard}
  (d:(iK P T σ f ⟨dst, .fieldAddr s x i,ty,pos,after,guard⟩).ld v us) (A:eH w g (eR σ x) (a.eval x)):lu P b σ us f D g a w ⟨dst, .fieldAddr s x i,ty,pos,after,guard⟩ v:=by
 simp only [iK,iv] at d;cases J:hU T s with
 |none=>simp only [J] at d;exact d.elim
 |some r=>
  have j:=(N s _ J).1;obtain ⟨ti,n0,b0,z0⟩:=r;simp only [J] at d j;cases ti with
  |g5 O=>
   simp only at d j;obtain ⟨e,B,S,I,R⟩:=j;cases n:p9 O i with
   |none=>simp only [n] at d;exact d.elim
   |some q=>
    obtain ⟨U,Q⟩:=q;simp only [n] at d;cases t:hU T Q with
    |none=>simp only [t] at d;exact d.elim
    |some r=>
     simp only [t] at d;cases L:r.eV with
     |zero=>simp only [L] at d;exact d.elim
     |succ m=>
      simp only [L] at d;rw [xE,<-I,bU] at n;cases l:e.toList[i]? with
      |none=>simp [l] at n
      |some z=>
       simp only [l,bz,aG,dj] at n;obtain ⟨rfl,rfl⟩:=n;have u:e[i]? =some z:=by simpa using l
       have K:=Bk N t w;have run:∀ k o,(Instr.fieldAt s (.pointer (some ⟨k,o,none⟩)) i).run P w= .ok (.pointer (some ⟨k,o+z.offset,none⟩)) w:=by
        intro k o;simp only [Instr.fieldAt,Sem.run_bind,run_underlying S,Result.andThen_ok,u,Instr.sureAddr,fieldPlace,K,L,Sem.run_pure];grind [Sem.run_pure,Result.andThen_ok,vy]
       cases X:eR σ x with
       |c8 id o=>
        simp only [X] at d;obtain ⟨F,H⟩:=d;subst F H;rw [X] at A;obtain ⟨c,W,Y⟩:=A.vv;refine lu.kG h (val:= .pointer (some ⟨c,o+z.offset,none⟩)) ?_ (.rr W);grind [execOp,Sem.run_bind,Result.andThen_ok,Sem.run_pure]
       |gJ cs o=>
        simp only [X] at d;obtain ⟨F,H⟩:=d;subst F H;rw [X] at A;obtain ⟨E,p,y,Y,Z,q4⟩:=A.FM;refine lu.kG h (val:= .pointer (some ⟨E,p+(o+z.offset),none⟩)) ?_ (.vu y Z q4);grind [execOp,Sem.run_bind,Result.andThen_ok,Sem.run_pure]
       |_=>simp only [X] at d;exact d.elim
  |_=>exact d.elim
theorem ad5 (L:jc P T) (h:fl b σ D g w) {f s x i us v} {dst ty pos after guard}
  (c:(iK P T σ f ⟨dst, .field s x i,ty,pos,after,guard⟩).ld v us) (O:eH w g (eR σ x) (a.eval x)):lu P b σ us f D g a w ⟨dst, .field s x i,ty,pos,after,guard⟩ v:=by
 simp only [iK,iv] at c;cases F:hU T s with
 |none=>simp only [F] at c;exact c.elim
 |some r=>
  have o:=(L s _ F).1;obtain ⟨ti,n0,b0,z0⟩:=r;simp only [F] at c o;cases ti with
  |g5 U=>
   simp only at c o;obtain ⟨e,B,I,E,Y⟩:=o;cases n:p9 U i with
   |none=>simp only [n] at c;exact c.elim
   |some q=>
    obtain ⟨off,W⟩:=q;simp only [n] at c;cases t:yH T W with
    |none=>simp only [t] at c;exact c.elim
    |some r=>
     obtain ⟨d,agg⟩:=r;simp only [t] at c;rw [xE,<-E,bU] at n;cases l:e.toList[i]? with
     |none=>simp [l] at n
     |some m=>
      simp only [l,bz,aG,dj] at n;obtain ⟨rfl,rfl⟩:=n;have k:e[i]? =some m:=by simpa using l
      obtain ⟨N,Z⟩:=OV L t w;cases X:eR σ x with
      |eN K=>
       simp only [X] at c;cases p:rv agg d m.offset K with
       |none=>simp only [p] at c;exact c.elim
       |some y=>
        simp only [p] at c;obtain ⟨R,S⟩:=c;subst R S;rw [X] at O;obtain ⟨J,Q,q2,q3⟩:=O.FL;cases agg with
        |false=>
         simp only [rv,xE] at p;have A:m.offset<J.length:=by grind
         refine lu.kG h (val:=J[m.offset]) ?_ (q3 _ _ _ p (aj A));simp only [execOp,Instr.field,Q,Sem.run_bind,run_underlying I,Result.andThen_ok,k,part,asAgg,Sem.run_pure,N,bA,cK];simp [A]
        |true=>
         simp only [rv,Lm] at p;cases H:uT (K.drop m.offset) d with
         |none=>simp [H] at p
         |some r=>
          simp only [H,aG] at p;subst p;obtain ⟨t1,t2⟩:=IQ _ _ _ H;refine lu.kG h (val:= .agg ((J.drop m.offset).take d).toArray) ?_ (.sd (by simp_all) (λj z u hz I=>?_))
          .simp only [execOp,Instr.field,Q,Sem.run_bind,run_underlying I,Result.andThen_ok,k,part,asAgg,Sem.run_pure,N,du,Z];simp_all
          grind
      |_=>simp only [X] at c;exact c.elim
  |_=>exact c.elim
end
section
variable {P:Program} {T:iw} {b:jL P} {σ:eK} {D:Nat->Prop} {g:gX} {a:Act} {w:World}
theorem T1 {x n} (h:D0 x=some n):∃ k,x= .ax k n:=by
 cases x with
 |ax k m=>grind [D0]
 |_=>simp [D0] at h
theorem ad6 (hT:jc P T) (h:fl b σ D g w) {f:Nat} {t x i us v} {dst ty pos after guard}
  (d:(iK P T σ f ⟨dst, .indexAddr t x i,ty,pos,after,guard⟩).ld v us) (p:eH w g (eR σ x) (a.eval x)) (hi:eH w g (eR σ i) (a.eval i)):lu P b σ us f D g a w ⟨dst, .indexAddr t x i,ty,pos,after,guard⟩ v:=by
 simp only [iK,iv] at d;cases hI:D0 (eR σ i) with
 |none=>simp only [hI] at d;exact d.elim
 |some n=>
  simp only [hI] at d;obtain ⟨k,hk⟩:=T1 hI;rw [hk] at hi;have ei:=hi.p8;cases hr:hU T t with
  |none=>simp only [hr] at d;exact d.elim
  |some r=>
   have o:=(hT t _ hr).1;obtain ⟨ti,n0,b0,z0⟩:=r;simp only [hr] at d o;cases ti with
   |jn e=>
    simp only at d o;cases L:hU T e with
    |none=>simp only [L] at d;exact d.elim
    |some r=>
     simp only [L] at d;have hsz:=Bk hT L w;have R:∀ A (E H:Nat),0<=n->n<E->(Instr.indexAt t (.slice (some A) E H) (.int k n)).run P w= .ok (.pointer (some (A.add (n.toNat*r.eV)))) w:=by
      intro A E H N S;simp only [Instr.indexAt,asIntOf,Sem.run_bind,Sem.run_pure,Result.andThen_ok,run_underlying o];simp_all
     cases X:eR σ x with
     |a8 isNil sz els tk=>
      simp only [X] at d;cases F:Nat.beq sz r.eV with
      |false=>simp only [F] at d;exact d.elim
      |true=>
       cases B:r.eV with
       |zero=>have q:=F;rw [B] at q;simp only [B,q] at d;exact d.elim
       |succ r'=>
       have q:=F;rw [B] at q;simp only [B,q] at d;have Z:sz=r.eV:=bc F;subst Z;obtain ⟨K,⟨N,s⟩,I,J⟩:=d;subst I J;rw [X] at p;obtain ⟨A,c,U,W,_⟩:=p.nq;cases W with
       |mG z hnil hc Q ha hone hr'=>
        have hlt:n.toNat<els.length:=(aB.1 s).1;have O:K.length=r.eV:=Q K (bh s);have had:∃ l base,A=some ⟨l,base,none⟩:=by
         cases K with
         |nil=>simp at O;omega
         |cons y K=>obtain ⟨l,base,e,_⟩:=ha n.toNat (y::K) 0 y s rfl;simp_all
        obtain ⟨l,base,rfl⟩:=had;refine lu.kG h (val:= .pointer (some ⟨l,base+n.toNat*r.eV,none⟩)) ?_ (.vu (base:=base+n.toNat*r.eV) (z n.toNat) (λj x p=>?_) (λj x p=>hr' _ K j x s p))
        .have:=R ⟨l,base,none⟩ els.length c N om;grind [vy,execOp,Sem.run_bind,Result.andThen_ok,Sem.run_pure]
        .obtain ⟨blk',Y,e,hf,hcell⟩:=ha n.toNat K j x s p;simp_all
     |eP id u sz E full=>
      simp only [X] at d;cases F:Nat.beq sz r.eV with
      |false=>simp only [F] at d;exact d.elim
      |true=>
       simp only [F] at d;have Z:sz=r.eV:=bc F;subst Z;obtain ⟨⟨N,S⟩,I,J⟩:=d;subst I J;rw [X] at p;obtain ⟨c,H,A,U,W,q3,q4,q5,q6⟩:=p.qS;have e:=q3 om;subst e;refine lu.kG h (val:= .pointer (some ⟨c,u+n.toNat*r.eV,none⟩)) ?_ (.rr U);grind [execOp,Sem.run_bind,Result.andThen_ok,Sem.run_pure,vy]
     |_=>simp only [X] at d;exact d.elim
   |kq m e=>
    simp only at d o;cases L:hU T e with
    |none=>simp only [L] at d;exact d.elim
    |some r=>
     simp only [L] at d;have hsz:=Bk hT L w;have R:∀ A,0<=n->n<m->(Instr.indexAt t (.pointer (some A)) (.int k n)).run P w= .ok (.pointer (some (A.add (n.toNat*r.eV)))) w:=by
      intro A N S;simp only [Instr.indexAt,asIntOf,Sem.run_bind,Sem.run_pure,Result.andThen_ok,run_underlying o,Instr.sureAddr];simp_all
     cases X:eR σ x with
     |c8 id u=>
      simp only [X] at d;obtain ⟨⟨N,S⟩,I,J⟩:=d;subst I J;rw [X] at p;obtain ⟨c,U,W⟩:=p.vv;refine lu.kG h (val:= .pointer (some ⟨c,u+n.toNat*r.eV,none⟩)) ?_ (.rr U);grind [execOp,Sem.run_bind,Result.andThen_ok,Sem.run_pure,vy]
     |gJ cs u=>
      simp only [X] at d;obtain ⟨⟨N,S⟩,I,J⟩:=d;subst I J;rw [X] at p;obtain ⟨l,base,z,W,q3,q4⟩:=p.FM;refine lu.kG h (val:= .pointer (some ⟨l,base+(u+n.toNat*r.eV),none⟩)) ?_ (.vu z q3 q4);grind [execOp,Sem.run_bind,Result.andThen_ok,Sem.run_pure,vy]
     |_=>simp only [X] at d;exact d.elim
   |_=>exact d.elim
theorem ad7 (K:jc P T) (h:fl b σ D g w) {f t x i us v} {dst ty pos after guard}
  (d:(iK P T σ f ⟨dst, .index t x i,ty,pos,after,guard⟩).ld v us) (p:∀ z∈(Op.index t x i).operands,eH w g (eR σ z) (a.eval z)):lu P b σ us f D g a w ⟨dst, .index t x i,ty,pos,after,guard⟩ v:=by
 have y:=p x (by simp [Op.operands]);have u:=p i (by simp [Op.operands]);simp only [iK,iv] at d;cases I:D0 (eR σ i) with
 |none=>simp only [I] at d;exact d.elim
 |some n=>
  simp only [I] at d;obtain ⟨k,L⟩:=T1 I;rw [L] at u;have F:=u.p8;cases X:eR σ x with
  |cp s=>
   simp only [X] at d;rw [X] at y;obtain ⟨j,N,A⟩:=y.vw;cases q:hU T t with
   |none=>simp only [q] at d;exact d.elim
   |some r=>
    have o:=(K t _ q).1;obtain ⟨O,R,Q,S⟩:=r;simp only [q] at d o;cases O with
    |kP=>
     simp only at d o;obtain ⟨c,⟨H,m⟩,B,E⟩:=d;subst B E;refine lu.kG h (val:= .int .u8 (c.toNat:Int)) ?_ (.fJ (.kS _ _));have l:n.toNat<j.size:=by have:=(aB.1 m).1;rw [<-A] at this;exact this
     have e:j[n.toNat]? =some c:=by
      rw [<-A] at m;rw [getElem?_pos j n.toNat l];have J:n.toNat<j.data.toList.length:=l;rw [aj J] at m;trivial
     simp only [execOp,Instr.index,N,F,Sem.run_bind,asIntOf,Sem.run_pure,Result.andThen_ok,run_underlying o,ak H,e]
    |_=>exact d.elim
  |_=>grind [Bj]
theorem ad3 (h:fl b σ D g w) {f x i us v} {dst ty pos after guard}
  (c:(iK P T σ f ⟨dst, .extract x i,ty,pos,after,guard⟩).ld v us) (d:eH w g (eR σ x) (a.eval x)):lu P b σ us f D g a w ⟨dst, .extract x i,ty,pos,after,guard⟩ v:=by
 simp only [iK] at c;cases X:eR σ x with
 |dn s=>
  simp only [X] at c;cases n:p9 s i with
  |none=>simp only [n] at c;exact c.elim
  |some y=>
   simp only [n] at c;obtain ⟨e,j⟩:=c;subst e j;rw [X] at d;obtain ⟨us,q,m,k⟩:=d.Lf;rw [xE] at n;have l:i<us.length:=by grind
   refine lu.kG h (val:=us[i]) ?_ (k i _ _ n (aj l));simp [execOp,q,Instr.extract,l]
 |_=>simp only [X] at c;exact c.elim
theorem aeb (h:fl b σ D g w) {f x us v} {dst ty pos after guard}
  (d:(iK P T σ f ⟨dst, .nilCheck x,ty,pos,after,guard⟩).ld v us) (e:eH w g (eR σ x) (a.eval x)):lu P b σ us f D g a w ⟨dst, .nilCheck x,ty,pos,after,guard⟩ v:=by
 simp only [iK] at d;cases X:eR σ x with
 |c8 id o=>
  simp only [X] at d;obtain ⟨i,j⟩:=d;subst i j;rw [X] at e;obtain ⟨c,r,q⟩:=e.vv;exact lu.kG h (val:=a.eval x) (by simp [execOp,q]) e
 |gJ m o=>
  simp only [X] at d;obtain ⟨i,j⟩:=d;subst i j;rw [X] at e;obtain ⟨k,s,l,q,_⟩:=e.FM;exact lu.kG h (val:=a.eval x) (by simp [execOp,q]) e
 |eW n p m=>
  simp only [X] at d;obtain ⟨i,j⟩:=d;subst i j;rw [X] at e;obtain ⟨t,us,q,_⟩:=e.CD;exact lu.kG h (val:=a.eval x) (by simp [execOp,q]) e
 |_=>simp only [X] at d;exact d.elim
end
section
variable {P:Program} {T:iw} {b:jL P} {σ:eK} {D:Nat->Prop} {g:gX} {a:Act} {w:World}
theorem aed (h:fl b σ D g w) {f t x us v} {dst ty pos after guard}
  (c:(iK P T σ f ⟨dst, .unOp .not t x,ty,pos,after,guard⟩).ld v us) (d:eH w g (eR σ x) (a.eval x)):lu P b σ us f D g a w ⟨dst, .unOp .not t x,ty,pos,after,guard⟩ v:=by
 simp only [iK] at c;cases X:eR σ x with
 |fU=>
  simp only [X,IL] at c;obtain ⟨e,i⟩:=c;subst e i;rw [X] at d;exact lu.kG h (val:= .bool false) (by simp [execOp,Op.unary,d.Bc]) (.fJ .uR)
 |fD=>
  simp only [X,IL] at c;obtain ⟨e,i⟩:=c;subst e i;rw [X] at d;exact lu.kG h (val:= .bool true) (by simp [execOp,Op.unary,d.Ba]) (.fJ .wB)
 |eD q=>
  simp only [X,IL] at c;obtain ⟨e,i⟩:=c;subst e i;rw [X] at d;exact lu.kG h (val:= .bool (!q)) (by simp [execOp,Op.unary,d.xA]) (.fJ (.rq _))
 |_=>simp only [X,IL] at c;exact c.elim
theorem aea (h:fl b σ D g w) {f t x us v} {dst ty pos after guard}
  (c:(iK P T σ f ⟨dst, .unOp .neg t x,ty,pos,after,guard⟩).ld v us) (d:eH w g (eR σ x) (a.eval x)):lu P b σ us f D g a w ⟨dst, .unOp .neg t x,ty,pos,after,guard⟩ v:=by
 simp only [iK] at c;cases X:eR σ x with
 |ax k n=>
  simp only [X] at c;obtain ⟨e,i⟩:=c;subst e i;rw [X] at d;exact lu.kG h (val:= .int k (k.wrap (0 - n))) (by simp [execOp,Op.unary,d.p8,Op.intArith]) (.fJ (.kS _ _))
 |_=>simp only [X] at c;exact c.elim
theorem TU {s} {i:Nat} {x} (h:(ir s)[i]? =some x):∃ c,s[i]? =some c/\x= .ax .u8 c.toNat:=by
 grind [ir]
theorem rs (s):(ir s).length=s.length:=by simp [ir]
theorem aeh {src dst e} (s:P.underlying src=some (.slice e)) (d:P.underlying e=some (.int .u8)) (h:P.underlying dst=some .string) (ad c):
  (convert src dst (.slice ad 0 c)).run P w= .ok (.string ByteArray.empty) w:=by
 cases ad with
 |none=>grind [run_convert_bytes_nil]
 |some ad=>
  rw [run_convert_bytes_string w src dst e _ 0 c s d h];trivial
theorem Uc {src dst e} (n:P.underlying src=some (.slice e)) (l:P.underlying e=some (.int .u8)) (j:P.underlying dst=some .string) {ad k off len cap} (d:0<len->ad=some ⟨k,off,none⟩)
  {s} (m:s.length=len) (o:∀ (i:Nat) (c:UInt8),s[i]? =some c->w.cell? ⟨k,off+i,none⟩=some (.int .u8 (c.toNat:Int))):
  ∃ f:ByteArray,(convert src dst (.slice ad len cap)).run P w= .ok (.string f) w/\f.data.toList=s:=by
 rcases cT len with h|h
 .subst h;have:s=[]:=aR m;subst this;exact ⟨_,aeh n l j ad cap,rfl⟩
 .rw [d h];refine ⟨_,run_convert_bytes_arg w src e n l k off len cap (s.map λc=>(c.toNat:Int)) (by simpa using m) (λi p=>?_) dst j,?_⟩
  .simp_all
  .rw [strOfNums_data,List.map_map]
   conv=>rhs;rw [<-List.map_id s]
   apply List.map_congr_left;simp_all
def CH (s:ByteArray) (cap:Nat):List Value:=s.data.toList.map (λb:UInt8=>Value.int .u8 (b.toNat:Int))++List.replicate (cap - s.size) (.int .u8 0)
theorem ad1 (s cap):bytesRow s cap=(CH s cap).toArray:=by
 grind [bytesRow,CH]
theorem ad2 (U:jc P T) (h:fl b σ D g w) {f:Nat} (hf:g.fk f=none) {src q:TypeId} {x:Operand} {us:List (fQ×gC)} {v:b9} {dst ty pos after guard}
  (d:(Lx σ T f src q (eR σ x)).ld v us) (K:eH w g (eR σ x) (a.eval x)):lu P b σ us f D g a w ⟨dst, .convert src q x,ty,pos,after,guard⟩ v:=by
 simp only [Lx,iv] at d;cases hr:hU T q with
 |none=>simp only [hr] at d;exact d.elim
 |some r=>
  have m:=(U q _ hr).1;obtain ⟨ti,n0,b0,z0⟩:=r;simp only [hr] at d m;cases ti with
  |kb k=>
   simp only at d m;cases X:eR σ x with
   |ax j n=>
    simp only [X] at d;cases A:hU T src with
    |none=>simp only [A] at d;exact d.elim
    |some Z=>
     have l:=(U src _ A).1;obtain ⟨B,n1,b1,z1⟩:=Z;simp only [A] at d l;cases B with
     |kb k'=>
      simp only at d l;obtain ⟨I,J⟩:=d;subst I J;rw [X] at K;refine lu.kG h (val:= .int k (k.wrap n)) ?_ (.fJ (.kS _ _));simp [execOp,convert,run_underlying l,run_underlying m,K.p8,Conv.intToInt]
     |_=>exact d.elim
   |_=>simp only [X] at d;exact d.elim
  |kP=>
   simp only at d m;cases X:eR σ x with
   |cp s=>
    simp only [X] at d;cases A:hU T src with
    |none=>simp only [A] at d;exact d.elim
    |some Z=>
     have l:=(U src _ A).1;obtain ⟨B,n1,b1,z1⟩:=Z;simp only [A] at d l;cases B with
     |kP=>
      simp only at d l;obtain ⟨I,J⟩:=d;subst I J;rw [X] at K;obtain ⟨F,q1,q2⟩:=K.vw;refine lu.kG h (val:= .string F) ?_ (.fJ (.lW q2));simp [execOp,convert,run_underlying l,run_underlying m,q1]
     |_=>exact d.elim
   |a8 isNil sz els tk=>
    simp only [X] at d;cases A:hU T src with
    |none=>simp only [A] at d;exact d.elim
    |some Z=>
     have l:=(U src _ A).1;obtain ⟨B,n1,b1,z1⟩:=Z;simp only [A] at d l;cases B with
     |jn e=>
      simp only at d l;cases O:hU T e with
      |none=>simp only [O] at d;exact d.elim
      |some r2=>
       have p:=(U e _ O).1;obtain ⟨S,n2,b2,z2⟩:=r2;simp only [O] at d p;cases S with
       |kb Y=>
        cases Y with
        |u8=>
         simp only at d p;obtain ⟨s,⟨hsz,hels⟩,I,J⟩:=d;subst I J;rw [X] at K;obtain ⟨ad,c,q1,q2,_⟩:=K.nq;have R:s.length=els.length:=by rw [hels];simp
         have N:∃ k E,(0<els.length->ad=some ⟨k,E,none⟩)/\∀ (i:Nat) (c:UInt8),s[i]? =some c->w.cell? ⟨k,E+i,none⟩=some (.int .u8 (c.toNat:Int)):=by
          cases q2 with
          |mG vals hnil hc hsz' ha hone hr'=>
           rcases cT els.length with h0|h0
           .refine ⟨0,0,λh=>om,λi c hi=>?_⟩;grind
           .have hsz1:sz=1:=by
             grind
            subst hsz1;have get:∀ (i:Nat) (c:UInt8),s[i]? =some c->els[i]? =some [.ax .u8 (c.toNat:Int)]:=λi c hi=>by grind
            obtain ⟨c0,hc0⟩:∃ c,s[0]? =some c:=⟨s[0]'om,aj om⟩;obtain ⟨k,E,ead,_⟩:=ha 0 _ 0 _ (get 0 c0 hc0) rfl;refine ⟨k,E,λ_=>ead,λi c hi=>?_⟩;obtain ⟨k',off',ead',_,N⟩:=ha i _ 0 _ (get i c hi) rfl;rw [ead] at ead';cases ead';have hp:=hr' i _ 0 _ (get i c hi) rfl;have hv:vals i 0= .int .u8 (c.toNat:Int):=eH.p8 (g:=g) (.fJ hp);grind
         obtain ⟨k,E,had,hcc⟩:=N;obtain ⟨F,H,hba⟩:=Uc (P:=P) (cap:=c) l p m had R hcc;refine lu.kG h (val:= .string F) ?_ (.fJ (.lW hba));grind [execOp,Sem.run_bind,Result.andThen_ok,Sem.run_pure]
        |_=>exact d.elim
       |_=>exact d.elim
     |_=>exact d.elim
   |eP id E sz len full=>
    simp only [X] at d;cases hb1:Nat.beq sz 1 with
    |false=>simp only [hb1] at d;exact d.elim
    |true=>
    simp only [hb1] at d;have hsz:sz=1:=bc hb1;subst hsz;cases A:hU T src with
    |none=>simp only [A] at d;exact d.elim
    |some Z=>
     have l:=(U src _ A).1;obtain ⟨B,n1,b1,z1⟩:=Z;simp only [A] at d l;cases B with
     |jn e=>
      simp only at d l;cases O:hU T e with
      |none=>simp only [O] at d;exact d.elim
      |some r2=>
       have p:=(U e _ O).1;obtain ⟨S,n2,b2,z2⟩:=r2;simp only [O] at d p;cases S with
       |kb Y=>
        cases Y with
        |u8=>
         simp only at d p;rw [X] at K;obtain ⟨c,cap,ad,q1,q2,q3,q4,q5,q6⟩:=K.qS;have fin:∀ (cells:List b9) (s:List UInt8),E+len<=cells.length->(cells.drop E).take len=ir s->(∃ vs:Nat->Value,∀ j x,cells[j]? =some x->w.cell? ⟨c,j,none⟩=some (vs j)/\eH w g x (vs j))->v= .cp s->us=[]->
           lu P b σ us f D g a w ⟨dst, .convert src q x,ty,pos,after,guard⟩ v:=by
          intro cells s h1 h2 h3 I J;subst I J;obtain ⟨vs,W⟩:=h3;have R:s.length=len:=by
           grind [rs]
          obtain ⟨F,H,hba⟩:=Uc (P:=P) (cap:=cap) l p m q3 R (λi ch hi=>by
           have Q:(ir s)[i]? =some (.ax .u8 ch.toNat):=by grind [ir]
           rw [<-h2,bq] at Q;split at Q
           .rw [br] at Q;obtain ⟨k1,Y⟩:=W _ _ Q;rw [k1,Y.p8]
           .cases Q)
          refine lu.kG h (val:= .string F) ?_ (.fJ (.lW hba));grind [execOp,Sem.run_bind,Result.andThen_ok,Sem.run_pure]
         cases L:σ (.ay id) with
         |eY bt cells=>
          simp only [L] at d;obtain ⟨s,⟨h1,h2⟩,I,J⟩:=d;obtain ⟨vs,W⟩:=h.Iy L q1;exact fin cells s h1 h2 ⟨vs,λj x K=>⟨(W j x K).1, .fJ (W j x K).2⟩⟩ I J
         |dc bt cells=>
          simp only [L] at d;obtain ⟨s,⟨h1,h2⟩,I,J⟩:=d;exact fin cells s h1 h2 (h.Iw L q1) I J
         |_=>simp only [L] at d;exact d.elim
        |_=>exact d.elim
       |_=>exact d.elim
     |_=>exact d.elim
   |_=>simp only [X] at d;exact d.elim
  |jn e=>
   simp only at d m;cases X:eR σ x with
   |cp s=>
    simp only [X] at d;cases O:hU T e with
    |none=>simp only [O] at d;exact d.elim
    |some r2=>
     have p:=(U e _ O).1;obtain ⟨S,n2,b2,z2⟩:=r2;simp only [O] at d p;cases S with
     |kb Y=>
      cases Y with
      |u8=>
       simp only at d p;cases A:hU T src with
       |none=>simp only [A] at d;exact d.elim
       |some Z=>
        have l:=(U src _ A).1;obtain ⟨B,n1,b1,z1⟩:=Z;simp only [A] at d l;cases B with
        |kP=>
         simp only at d l;obtain ⟨I,J⟩:=d;subst I J;rw [X] at K;obtain ⟨F,q1,q2⟩:=K.vw;have H:=run_bytes_of_string (P:=P) w src q e F l m p;have hcap:=grownCap_ge w F.size 0 e;generalize grownCap w F.size 0 e=cap at H hcap;rw [ad1] at H;have hsize:F.size=s.length:=by rw [<-q2];rfl
         have hal:(CH F cap).length=cap:=by
          grind [CH]
         obtain ⟨h0,e0⟩:=h.ub (Below.refl _ w).drew;obtain ⟨k1,Y⟩:=h0.K9 hf (t:=e) (cells:=ir s) (arr:=(CH F cap))
          (z:=(cap,cap+1)) (by grind [rs]) (λo ho=>by omega) (λi y u hy hu=>by
           obtain ⟨c,hc,rfl⟩:=TU hy;unfold CH at hu;rw [aS (by grind),bU,q2,hc] at hu;simp at hu;subst hu;exact .kS _ _)
         refine ⟨_, .slice (some ⟨w.heap.size,0,none⟩) s.length cap,_,_,?_, .inl rfl, .oV (gX.qR _ _ _) (λ_=>rfl) rfl om (λ_=>⟨rfl,rfl,e,?_⟩),k1,e0.lF Y⟩
         .grind [execOp,Sem.run_bind,Result.andThen_ok,Sem.run_pure]
         .have:(w.drew.alloc (.cells (CH F cap).toArray e (cap,cap+1))).heap[w.heap.size]? =some (.cells (CH F cap).toArray e (cap,cap+1)):=heap_alloc_new w.drew _;grind [World.shape?]
        |_=>exact d.elim
      |_=>exact d.elim
     |_=>exact d.elim
   |_=>simp only [X] at d;exact d.elim
  |_=>exact d.elim
end
section
variable {P:Program} {T:iw} {b:jL P} {σ:eK} {D:Nat->Prop} {g:gX} {a:Act} {w:World}
structure A8 (P:Program) (w:World) (F:Nat->Nat->Prop) (sz:Nat) (tx:TypeId) (xv:Value) (news:List (List b9)) (nv:List Value):Prop where
 rp:Src P sz tx xv news.length nv w
 FI:∀ (i:Nat) (x:b9) (v:Value),news.flatten[i]? =some x->nv[i]? =some v->gb w F x v
 zS:∀ el∈news,el.length=sz
theorem FV {α:Type} (sz:Nat) (els:List (List α)) (s:∀ e∈els,e.length=sz) (i:Nat) (x:α) (h:els.flatten[i]? =some x):∃ e,els[i / sz]? =some e/\e[i % sz]? =some x/\i / sz*sz+i % sz=i:=by
 have c:i<els.length*sz:=by grind [pK]
 have z:0<sz:=by
  grind
 have q:i / sz<els.length:=by rw [Nat.div_lt_iff_lt_mul z];exact c
 have m:i % sz<els[i / sz].length:=by rw [s _ (aI q)];exact jU _ z
 have f:i / sz*sz+i % sz=i:=by grind [Nat.div_add_mod]
 have d:=IK sz els (i / sz) (i % sz) els[i / sz] els[i / sz][i % sz] s (aj q) (aj m);simp_all
theorem gb.OC {F:Nat->Nat->Prop} {isNil:Bool} {sz:Nat} {els:List (List b9)} {ad:Option Addr} {n c:Nat} (h:gb w F (.a8 isNil sz els .dm) (.slice ad n c)):
  ∃ vs:List Value,vs.length=n*sz/\els.length=n/\n<=c/\(∀ d∈els,d.length=sz)/\(∀ (i:Nat) (x:b9) (v:Value),els.flatten[i]? =some x->vs[i]? =some v->gb w F x v)/\(∀ u∈vs,u.oneCell'=true)/\
   (0<n*sz->∃ l base,ad=some ⟨l,base,none⟩/\∀ i v,vs[i]? =some v->F l (base+i)/\w.cell? ⟨l,base+i,none⟩=some v):=by
 cases h with
 |mG vals B K s A E h=>
  have L:=pK sz els s;have t:∀ (i:Nat) (v:Value),((List.range (els.length*sz)).map λi=>vals (i / sz) (i % sz))[i]? =some v->∃ d x,els[i / sz]? =some d/\d[i % sz]? =some x/\v=vals (i / sz) (i % sz)/\i / sz*sz+i % sz=i:=by
   intro i v f;rw [bU] at f
   by_cases r:i<els.length*sz
   .rw [List.getElem?_range r] at f;simp at f;obtain ⟨d,j,k,p⟩:=FV sz els s i els.flatten[i] (aj om);simp_all
   simp_all
  refine ⟨(List.range (els.length*sz)).map λi=>vals (i / sz) (i % sz),by simp,rfl,K,s,λi x v O f=>?_,λu N=>?_,λR=>?_⟩
  .obtain ⟨d,y,j,k,rfl,p⟩:=t i v f;obtain ⟨H,U,W,_⟩:=FV sz els s i x O;simp_all
  .obtain ⟨i,r,rfl⟩:=bC N;obtain ⟨d,y,j,k,e,p⟩:=t i _ (aj r);simp_all
  .obtain ⟨o,I,J,_⟩:=FV sz els s 0 els.flatten[0] (aj om);obtain ⟨l,base,e,_⟩:=A _ o _ _ I J;refine ⟨l,base,e,λi v f=>?_⟩;obtain ⟨d,y,j,k,rfl,p⟩:=t i v f;obtain ⟨z,m,Q,S,q⟩:=A _ d _ _ j k;grind
theorem aef (hT:jc P T) (h:fl b σ D g w) {tx:TypeId} {sz:Nat} {x:b9} {Z:Value} (q:eH w g x Z) {k:List (List b9)->oG} {v:b9} {us:List (fQ×gC)} (d:(FX σ T tx sz x k).ld v us):
  ∃ I nv,A8 P w g.fP sz tx Z I nv/\(k I).ld v us:=by
 unfold FX at d;simp only [iv] at d;cases x with
 |a8 N z l tk=>
  simp only at d;cases y:hU T tx with
  |none=>simp only [y] at d;exact d.elim
  |some r=>
   have o:=(hT tx _ y).1;obtain ⟨S,n0,b0,z0⟩:=r;simp only [y] at d o;cases S with
   |jn e=>
    simp only at d o;obtain ⟨J,c,L,O,_⟩:=q.nq;have go:∀ l:List (List b9),gb w g.fP (.a8 N sz l .dm) (.slice J l.length c)->Z= .slice J l.length c->∃ nv,A8 P w g.fP sz tx Z l nv:=by
     intro l O L;subst L;obtain ⟨p,c1,c2,c3,c4,c5,c6,c7⟩:=O.OC;refine ⟨p,?_,c5,c4⟩;cases J with
     |none=>
      have h0:l.length*sz=0:=by
       simp_all
      have A:p=[]:=aR (by rw [c1,h0]);subst A;exact ⟨.inl ⟨e,o⟩,λ_=>rfl,by trivial,by trivial,by simpa using h0.symm,by simp⟩
     |some J=>
      refine Src.ofSlice w o J _ c p c1 (λj u Y=>?_) c6;have:j<p.length:=(aB.1 Y).1;grind [vy]
    cases H:Nat.beq z sz with
    |true=>
     grind [Nat.eq_of_beq_eq_true]
    |false=>
     simp only [H] at d;obtain ⟨U,d⟩:=d;grind [Ln]
   |_=>exact d.elim
 |cp s=>
  simp only at d;cases y:hU T tx with
  |none=>simp only [y] at d;exact d.elim
  |some r=>
   have o:=(hT tx _ y).1;obtain ⟨S,n0,b0,z0⟩:=r;simp only [y] at d o;cases S with
   |kP=>
    cases H:Nat.beq sz 1 with
    |false=>simp only [H] at d;exact d.elim
    |true=>
     simp only [H] at d o;have U:=bc H;subst U;obtain ⟨ba,L,O⟩:=q.vw;subst L;refine ⟨_,byteCells ba,⟨?_,λi x v q A=>?_,λW hel=>?_⟩,d⟩
     .have:=Src.ofString (P:=P) w o ba;rw [ap,show s.length=ba.size by rw [<-O];rfl];exact this
     .obtain ⟨W,E,F,R⟩:=FV 1 _ (λW hel=>by grind) i x q;rw [Nat.div_one,bU] at E;cases hs:s[i]? with
      |none=>simp [hs] at E
      |some c=>
       simp [hs] at E;subst E;rw [Nat.mod_one] at F;simp at F;subst F;unfold byteCells at A;rw [O,bU,hs] at A;simp at A;subst A;exact .kS _ _
     grind
   |_=>exact d.elim
 |eP id m z len full=>
  simp only at d;cases y:hU T tx with
  |none=>simp only [y] at d;exact d.elim
  |some r=>
   have o:=(hT tx _ y).1;obtain ⟨S,n0,b0,z0⟩:=r;simp only [y] at d o;cases S with
   |jn e=>
    simp only at d o;cases H:Nat.beq z sz with
    |false=>simp only [H] at d;exact d.elim
    |true=>
     simp only [H] at d;have U:=bc H;subst U;obtain ⟨c,Q,J,L,O,q3,q4,q5,q6⟩:=q.qS;subst O;have go:∀ (f:List b9) (l:List (List b9)),(∃ p:Nat->Value,∀ j x,f[j]? =some x->w.cell? ⟨c,j,none⟩=some (p j))->l.length=len->(∀ W∈l,W.length=z)->m+len*z<=f.length->
       (∀ (i:Nat) (x:b9),l.flatten[i]? =some x->∀ v,w.cell? ⟨c,m+i,none⟩=some v->v.oneCell'=true/\gb w g.fP x v)->∃ nv,A8 P w g.fP z tx (.slice J len Q) l nv:=by
      intro f l n E F R X;obtain ⟨p,n⟩:=n;have hfl:=pK z l F;have K:∀ i,i<len*z->w.cell? ⟨c,m+i,none⟩=some (p (m+i)):=λi hi=>n (m+i) f[m+i] (aj om)
      have hnv:∀ (i:Nat) (v:Value),((List.range (len*z)).map λi=>p (m+i))[i]? =some v->v=p (m+i)/\i<len*z:=by
       grind
      refine ⟨(List.range (len*z)).map λi=>p (m+i),?_,λi x v q A=>?_,F⟩
      .rw [E];obtain ⟨ad',had⟩:=bN.1 q4;subst had;refine Src.ofSlice w o ad' len Q _ (by simp) (λj u Y=>?_) (λu Y=>?_)
       .grind [vy]
       .obtain ⟨i,hi,rfl⟩:=bC Y;obtain ⟨e,hi'⟩:=hnv i _ (aj hi);rw [e];have hi2:i<l.flatten.length:=by simp_all
        exact (X i l.flatten[i] (aj hi2) _ (K i hi')).1
      grind
     cases t:σ (.ay id) with
     |eY bt f=>
      simp only [t] at d;obtain ⟨l,⟨E,F,R,X,h5⟩,d⟩:=d;obtain ⟨p,n⟩:=h.Iy t L;obtain ⟨nv,hn⟩:=go f l ⟨p,λj x q=>(n j x q).1⟩ E F R (λi x q v A=>by
       have B:=q;rw [<-X,bq] at B;split at B
       .rw [br] at B;obtain ⟨g1,g2⟩:=n _ x B;rw [g1] at A;cases A;exact ⟨xF (.fJ g2) (CG h5 i x q),g2⟩
       .cases B)
      grind
     |dc bt f=>
      simp only [t] at d;obtain ⟨l,⟨E,F,R,X,h5⟩,d⟩:=d;obtain ⟨p,n⟩:=h.Iw t L;obtain ⟨nv,hn⟩:=go f l ⟨p,λj x q=>(n j x q).1⟩ E F R (λi x q v A=>by
       grind [wH,xG,xF,OT,xH])
      grind
     |_=>simp only [t] at d;exact d.elim
   |_=>exact d.elim
 |_=>exact d.elim
end
section
variable {P:Program} {T:iw} {b:jL P} {σ:eK} {D:Nat->Prop} {g:gX} {a:Act} {w:World}
theorem fl.DT (h:fl b σ D g w) {id c sz N cap:Nat} {t:TypeId} {z:Nat×Nat} {arr:List Value} {els:List (List b9)} (A:els.length=N) (k:∀ y M,g.gF id=some (y,M)->M<N) (f:(∃ u,g.gF id=some (some c,u))\/∀ o,¬g.fP c o) (l:b.wu c) (m:c<w.heap.size)
  (F:∀ o,g.fP c o->o<N*sz) (n:∀ id,(σ (.ay id)).jb=true->g.fk id≠some c) (j:∀ d t sz N q,d≠id->σ (.eT d)= .eU t sz N->g.gF d≠some (some c,q))
  (hh:w.heap[c]? =some (.cells arr.toArray t z)) (hz:∀ o,o<arr.length->¬(z.1<=o/\o<z.2)) (p:arr.length=cap*sz) (e:N<=cap) (s:∀ el∈els,el.length=sz)
  (hone:∀ (i:Nat) (x:b9) (v:Value),els.flatten[i]? =some x->arr[i]? =some v->v.oneCell'=true) (r:∀ (i:Nat) (x:b9) (v:Value),els.flatten[i]? =some x->arr[i]? =some v->gb w g.fP x v):
  fl b (fc σ (.eT id) (.eU t sz N)) (λi=>D i\/i=id) (g.uP id c N sz) w/\iN g w (g.uP id c N sz) w/\eH w (g.uP id c N sz) (.a8 false sz els (.hJ id)) (.slice (some ⟨c,0,none⟩) N cap):=by
 have E:iN g w (g.uP id c N sz) w:=iN.TL k f;refine ⟨h.adM k f l m F n j ⟨arr,z,hh,hz⟩,E,?_⟩;subst A;refine .m7 (Ub hh (λo k=> .inr ⟨rfl,k⟩) e s (by rw [p];exact bI _ e) hone (λi x v hx B=>(r i x v hx B).ka E.jC)) ?_;refine ⟨some c,els.length,gX.FD _ _ _ _ _,aq _,λ_=> .inr ⟨c,t,rfl,rfl,?_⟩⟩;grind [World.shape?]
theorem eH.FO {isNil sz els id v} (h:eH w g (.a8 isNil sz els (.hJ id)) v):eH w g (.a8 isNil sz els (.je id)) v:=by
 obtain ⟨f,c,rfl,d,e⟩:=h.nq;exact .m7 d e.adQ
theorem IN (c off:Nat) (vs:List Value) {arr:List Value} {t:TypeId} {z:Nat×Nat} (h:w.heap[c]? =some (.cells arr.toArray t z)) (hl:off+vs.length<=arr.length) (hz:∀ o,o<arr.length->¬(z.1<=o/\o<z.2)) (d:∀ u∈vs,u.oneCell'=true):
  oH c w (w.setCells c off vs)/\(w.setCells c off vs).heap[c]? =some (.cells (arr.take off++vs++arr.drop (off+vs.length)).toArray t z)/\
   (∀ j,j<vs.length->(w.cell? ⟨c,off+j,none⟩).isSome=true)/\(∀ j,j<vs.length->w.frozen? ⟨c,off+j,none⟩=false):=by
 have h1:∀ j,j<vs.length->(w.cell? ⟨c,off+j,none⟩).isSome=true:=λj hj=>by rw [ru h,aj om];rfl
 have h2:∀ j,j<vs.length->w.frozen? ⟨c,off+j,none⟩=false:=λj hj=>OP h (hz _ om)
 obtain ⟨w',r1,r2,r⟩:=D3 (P:=default) c vs off 0 arr w h om hz d;grind [run_storeCells_cells]
theorem LB (z n sz) (h:z.size=sz):(Builtin.zeroCells z n).toList.length=n*sz:=by
 grind [size_zeroCells]
theorem aeg {t tx ty e i} (j:P.underlying t=some (.slice e)) (f:P.info? e=some i) (base L s) (h:L<=s) (x) (c:Src P i.size tx x 0 [] w):
  (Builtin.append_ #[t,tx] ty #[.slice base L s,x]).run P w= .ok (.slice base L s) w:=by
 have d:=c.cells;rcases c.kind with ⟨k,hk⟩|hk<;>cases base<;>simp [Builtin.append_,run_underlying j,run_underlying hk,sizeOf,typeInfo,f,c.len,h,d,storeCells]
def gX.p7 (g:gX) (id N:Nat):gX:={g with gF:=λi=>if i=id then some (none,N) else g.gF i}
theorem fl.FE (h:fl b σ D g w) {id N sz t} (O:g.gF id=none):fl b (fc σ (.eT id) (.eU t sz N)) (λi=>D i\/i=id) (g.p7 id N) w/\iN g w (g.p7 id N) w:=by
 have J:∀ d,(fc σ (.eT id) (.eU t sz N)) (.ay d)=σ (.ay d):=λd=>g9 (by intro e;cases e)
 have Z:(fc σ (.eT id) (.eU t sz N)) (.eT id)= .eU t sz N:=lX _ _ _;have K:∀ d,d≠id->(fc σ (.eT id) (.eU t sz N)) (.eT d)=σ (.eT d):=λd R=>g9 (by simp_all)
 have g1:(g.p7 id N).gF id=some (none,N):=by simp [gX.p7]
 have r:∀ i,i≠id->(g.p7 id N).gF i=g.gF i:=λi f=>by simp [gX.p7,f]
 have E:iN g w (g.p7 id N) w:=⟨⟨λk o l=>⟨l,rfl⟩,λi c n=>⟨n,rfl⟩,λi q M f=>by
  grind,λi k M f=>by
  grind⟩,aq _,aq _,λ_ _ h=>h⟩
 refine ⟨fl.qs h.jF h.lv h.pq h.oE (λi c n=> .inl (h.pI i c n)) (λi x u=>?_) h.ko (λi k m l=>?_) (λi p=>h.iR i (by trivial)) (λi k p l=>?_) (λi j k f Q=>h.np i j k (by trivial) (by trivial)) (λi Y k s l=>h.pJ i Y k (by trivial) l) (λi S z m s=>?_),E⟩
 .by_cases f:i=id
  .exact .inr f
  .rw [r i f] at u;exact .inl (h.oF i x u)
 .by_cases f:i=id
  .simp_all
  .rw [r i f] at l;exact h.mc i k m l
 .rw [J] at p ⊢;exact (h.po l).DP E rfl
 .by_cases f:i=id
  .simp_all
  .rw [K i f] at s;obtain ⟨q,h1,L⟩:=h.ln i S z m s;refine ⟨q,by simp_all,λk l=>?_⟩;obtain ⟨A,B,F,H,X,I⟩:=L k l;refine ⟨A,B,F,λj p=>H j (by trivial),λj U y M W Q hr=>?_,I⟩;grind
theorem Lj (hT:jc P T) (h:fl b σ D g w) {t tx ty e:TypeId} {n0 b0:Nat} {z0:List b9} (hr:hU T t=some ⟨.jn e,n0,b0,z0⟩) {r:xB} (he:hU T e=some r) {id:Nat} {els n:List (List b9)} {nv:List Value} {xv:Value} {ad:Option Addr} {c:Nat}
  (ho:∀ bk M,g.gF id=some (bk,M)->M<els.length+n.length) (I:A8 P w g.fP r.eV tx xv n nv) (B:ua (els.length+n.length) r.Bd) (F:c<els.length+n.length)
  {olds:List Value} (S:olds.length=els.length*r.eV) (R:∀ w',w'.heap=w.heap->(Builtin.firstCells r.eV els.length (.slice ad els.length c)).run P w'= .ok olds.toArray w') (A:∀ H∈els,H.length=r.eV)
  (U:∀ (i:Nat) (x:b9) (v:Value),els.flatten[i]? =some x->olds[i]? =some v->gb w g.fP x v) (hoo:∀ u∈olds,u.oneCell'=true):
  ∃ val w' g',(Builtin.append_ #[t,tx] ty #[.slice ad els.length c,xv]).run P w= .ok val w'/\eH w' g' (.a8 false r.eV (els++n) (.hJ id)) val/\fl b (fc σ (.eT id) (.eU e r.eV (els.length+n.length))) (λi=>D i\/i=id) g' w'/\iN g w g' w':=by
 obtain ⟨i,p,q1,q2,q3,q3',q4,q5,q6,_⟩:=xB.ud hT he;have l:=(hT t _ hr).1;simp only at l;obtain ⟨hf1,hf2⟩:=B;have s:=I.rp;rw [<-q3] at s;have d:=run_append_grow_src (P:=P) w t tx ty e i p l q1 q2 ad els.length c olds (by rw [q3];exact R w.drew rfl) xv n.length nv s F om (growslice_fits F (by rw [q3'];omega));have E:=grownCap_ge w (els.length+n.length) c e;generalize grownCap w (els.length+n.length) c e=cap at d E;have Q:nv.length=n.length*r.eV:=by rw [s.newsLen,q3]
 have Y:=LB p.cells (cap - (els.length+n.length)) r.eV q4;have y:((olds++nv).toArray++Builtin.zeroCells p.cells (cap - (els.length+n.length)))=(olds++nv++(Builtin.zeroCells p.cells (cap - (els.length+n.length))).toList).toArray:=by
  simp_all
 rw [y] at d;have q:(olds++nv++(Builtin.zeroCells p.cells (cap - (els.length+n.length))).toList).length=cap*r.eV:=by
  rw [au,au,S,Q,Y,<-cl,<-cl];congr 1;omega
 have hb:Below w.heap.size w (w.drew.alloc (.cells (olds++nv++(Builtin.zeroCells p.cells (cap - (els.length+n.length))).toList).toArray e)):=((Below.refl _ w).drew).alloc (aq _) _;obtain ⟨h1,J⟩:=h.ub hb;have hfl:(els++n).flatten=els.flatten++n.flatten:=by simp
 have hle:=pK r.eV els A;have hln:=pK r.eV n I.zS;have k:∀ (j:Nat) (x:b9) (v:Value),(els++n).flatten[j]? =some x->(olds++nv++(Builtin.zeroCells p.cells (cap - (els.length+n.length))).toList)[j]? =some v->
   (els.flatten[j]? =some x/\olds[j]? =some v)\/(n.flatten[j - olds.length]? =some x/\nv[j - olds.length]? =some v):=by
  grind
 obtain ⟨k1,k2,k3⟩:=h1.DT (id:=id) (c:=w.heap.size) (sz:=r.eV) (N:=els.length+n.length) (cap:=cap) (t:=e) (z:=(0,0)) (els:=els++n) (by simp) ho (.inr λo K=>absurd (h.lv _ _ K) (cu _)) (.inl h.jF.pZ) (by simp_all)
  (λo K=>absurd (h.lv _ _ K) (cu _)) (λZ hl L=>absurd (h.ko _ _ L) (cu _)) (λZ t sz N N' _ _ L=>absurd (h.mc _ _ _ L) (cu _)) (heap_alloc_new w.drew _) (λo _=>by simp only;omega) q E
  (λH O=>by rcases aF.1 O with f|f;exact A H f;exact I.zS H f)
  (λj x v X W=>by
   rcases k j x v X W with ⟨_,f⟩|⟨_,f⟩
   .grind
   .exact s.one v (bh f))
  (λj x v X W=>by
   rcases k j x v X W with ⟨f,m⟩|⟨f,m⟩
   .exact (U j x v f m).ka J.jC
   .exact (I.FI _ x v f m).ka J.jC)
 exact ⟨_,_,_,d,k3,k1,J.lF k2⟩
end
section
variable {P:Program} {T:iw} {b:jL P} {σ:eK} {D:Nat->Prop} {g:gX} {a:Act} {w:World}
theorem FU (P:Program) {sz n c:Nat} {ad:Option Addr} {vs:List Value} (d:vs.length=n*sz) (m:0<n*sz->∃ l base,ad=some ⟨l,base,none⟩/\∀ i v,vs[i]? =some v->w.cell? ⟨l,base+i,none⟩=some v) (w':World) (o:w'.heap=w.heap):
  (Builtin.firstCells sz n (.slice ad n c)).run P w'= .ok vs.toArray w':=by
 have h:∀ p,w'.cell? p=w.cell? p:=λp=>by grind [World.cell?]
 cases ad with
 |none=>
  have e:n*sz=0:=by
   simp_all
  have k:vs=[]:=aR (by rw [d,e]);subst k;trivial
 |some ad=>
  refine run_firstCells_some (P:=P) w' sz n ad n c vs d (λj v f=>?_);have:j<vs.length:=(aB.1 f).1;grind [vy]
theorem A8.adN {F sz tx x nv} (h:A8 P w F sz tx x [] nv):nv=[]:=by
 have:=h.rp.newsLen;simpa using this
theorem adU (K:jc P T) (h:fl b σ D g w) {f} (A:g.fk f=none) {t tx ty e n0 b0 z0} (hr:hU T t=some ⟨.jn e,n0,b0,z0⟩) {r} (W:hU T e=some r) {s nv I ad} (E:A8 P w g.fP r.eV tx I s nv) (N:0<s.length) (q:ua s.length r.Bd):
  ∃ val w' g',(Builtin.append_ #[t,tx] ty #[.slice ad 0 0,I]).run P w= .ok val w'/\eH w' g' (.eP f 0 r.eV s.length true) val/\fl b (fc σ (.ay f) (.eY e s.flatten)) (λi=>D i\/i=f) g' w'/\iN g w g' w':=by
 obtain ⟨i,l,q1,q2,R,q3',q4,q5,q6,_⟩:=xB.ud K W;have k:=(K t _ hr).1;simp only at k;obtain ⟨X,Y⟩:=q;have d:=E.rp;rw [<-R] at d;have u:=run_append_grow_src (P:=P) w t tx ty e i l k q1 q2 ad 0 0 [] (FU P (w:=w) (ad:=ad) (n:=0) (c:=0) (sz:=i.size) (vs:=[]) (by simp) (λy=>absurd y (by simp)) w.drew rfl) I s.length nv d om om (growslice_fits om (by simp_all));rw [bZ] at u;have B:=grownCap_ge w s.length 0 e;generalize grownCap w s.length 0 e=p at u B;have F:nv.length=s.length*r.eV:=by rw [d.newsLen,R]
 have H:=LB l.cells (p - s.length) r.eV q4;have m:(([]++nv).toArray++Builtin.zeroCells l.cells (p - s.length))=(nv++(Builtin.zeroCells l.cells (p - s.length)).toList).toArray:=by
  simp_all
 rw [m] at u;have L:(nv++(Builtin.zeroCells l.cells (p - s.length)).toList).length=p*r.eV:=by
  rw [au,F,H,<-cl];congr 1;omega
 obtain ⟨y,J⟩:=h.ub (w':=w.drew) ((Below.refl _ w).drew);have Z:=pK r.eV s E.zS;obtain ⟨U,S⟩:=y.K9 (f:=f) A (t:=e) (cells:=s.flatten) (arr:=nv++(Builtin.zeroCells l.cells (p - s.length)).toList) (z:=(0,0)) (by grind) (λo _ ho=>by omega) (λj x v Q O=>by
  have hj:j<s.flatten.length:=(aB.1 Q).1;rw [aS om] at O;exact (E.FI j x v Q O).ka J.jC)
 refine ⟨_,_,_,u,?_,U,J.lF S⟩;refine .oV (gX.qR _ _ _) (λ_=>rfl) rfl om (λ_=>⟨rfl,rfl,e,?_⟩);unfold World.shape?;have hw:(w.drew.alloc (.cells (nv++(Builtin.zeroCells l.cells (p - s.length)).toList).toArray e)).heap[w.drew.heap.size]? =some (.cells (nv++(Builtin.zeroCells l.cells (p - s.length)).toList).toArray e):=heap_alloc_new w.drew _;simp_all
theorem TS (hT:jc P T) (h:fl b σ D g w) {f:Nat} (_hf1:g.fk f=none) (hf2:g.gF f=none) {t tx ty e} {n0 b0:Nat} {z0} (hr:hU T t=some ⟨.jn e,n0,b0,z0⟩) {r} (he:hU T e=some r) {isNil:Bool} {els n tk nv xv sv} (hs:eH w g (.a8 isNil r.eV els tk) sv) (u:A8 P w g.fP r.eV tx xv n nv) {v us} (k:(DZ σ f e r.eV r.Bd isNil tk n els).ld v us):
  ∃ val w' g',(Builtin.append_ #[t,tx] ty #[sv,xv]).run P w= .ok val w'/\eH w' g' v val/\fl b (jP σ us) (λi=>D i\/i=f) g' w'/\iN g w g' w':=by
 obtain ⟨i,zv,q1,q2,q3,q3',q4,q5,q6,_⟩:=xB.ud hT he;have R:=(hT t _ hr).1;simp only at R;obtain ⟨ad,c,rfl,hp,ht⟩:=hs.nq;obtain ⟨s,o1,o2,o3,o4,o5,o6,o7⟩:=hp.OC;have hoc:∀ w',w'.heap=w.heap->(Builtin.firstCells r.eV els.length (.slice ad els.length c)).run P w'= .ok s.toArray w':=λw' hw=>FU P o1 (λh0=>by
  grind) w' hw
 have S:n=[]->(Builtin.append_ #[t,tx] ty #[.slice ad els.length c,xv]).run P w= .ok (.slice ad els.length c) w:=λe0=>by
  subst e0;have hs:=u.rp;rw [u.adN,<-q3] at hs;exact aeg R q1 ad els.length c o3 xv hs
 have notnil:n≠[]->(isNil && n.isEmpty)=false:=λh0=>by simp_all
 unfold DZ at k;cases tk with
 |dm=>exact k.elim
 |fW=>
  simp only at k;have hc:c=els.length:=ht;split at k
  .obtain ⟨h1,B,e2⟩:=k;subst B e2;exact ⟨_,w,g,S h1, .m7 hp hc,h.mQ (λ_ q=> .inl q),iN.uO g w⟩
  .obtain ⟨⟨h1,h2,h3⟩,B,e2⟩:=k;subst B e2 h1;subst hc;exact adU hT h _hf1 hr he u h2 h3
  obtain ⟨E,B,e2⟩:=k;subst B e2
  by_cases h0:n=[]
  .subst h0;obtain ⟨Z,k2⟩:=h.FE (id:=f) (N:=els.length+0) (sz:=r.eV) (t:=e) hf2;refine ⟨_,w,_,S rfl,?_,Z,k2⟩;simp only [List.isEmpty_nil,Bool.and_true,aH];refine .m7 (hp.ka k2.jC) ⟨none,els.length+0,by simp [gX.p7],by simp,λ_=> .inl hc⟩
  .have hpos:0<n.length:=cm.2 h0;obtain ⟨val,w',g',Z,k2,k3,k4⟩:=Lj (ty:=ty) hT h hr he (id:=f) (els:=els) (λbk M hM=>by simp_all) u E om o1 hoc o4 o5 o6;refine ⟨val,w',g',Z,?_,k3,k4⟩;grind [k2.FO]
 |je id=>
  simp only at k;cases A:σ (.eT id) with
  |eU e' sz'' N=>
   simp only [A] at k;cases y:Nat.beq sz'' r.eV with
   |false=>simp only [y] at k;exact k.elim
   |true=>
    cases K:Nat.beq e' e with
    |false=>simp only [y,K] at k;exact k.elim
    |true=>
     simp only [y,K] at k;have ea:=bc y;have eb:=bc K;subst ea eb;obtain ⟨⟨hN,E⟩,B,e2⟩:=k;subst B e2 hN;obtain ⟨bk,l,L⟩:=h.ln id e' r.eV els.length A
     by_cases h0:n=[]
     .subst h0;refine ⟨_,w,g,S rfl,?_,(h.xx (λQ=>?_) (λQ=>?_)).mQ (λ_ q=> .inl q),iN.uO g w⟩
      .simp_all
      .trivial
      .simp only [jP];grind [lX,g9]
     .have hpos:0<n.length:=cm.2 h0
      by_cases m:els.length+n.length<=c
      .obtain ⟨bk',N',t1,t2,t3⟩:=ht;rw [l] at t1;cases t1;rcases t3 rfl with t4|⟨bl,tt,rfl,rfl,hshape⟩
       .omega
       .obtain ⟨a1,a2,a3,a4,a5,d,z,a6,a7⟩:=L bl rfl;have hal:d.length=c*r.eV:=by
         grind [World.shape?]
        have hnl:nv.length=n.length*r.eV:=u.rp.newsLen;have I:=u.rp;rw [<-q3] at I;have hle:els.length*r.eV+nv.length<=d.length:=by rw [hnl,hal,<-cl];exact bI _ m
        obtain ⟨s1,s2,s3,s4⟩:=IN bl (els.length*r.eV) nv a6 hle a7 u.rp.one;have H:=run_append_room_src (P:=P) w t tx ty e' i R q1 bl 0 els.length c xv n.length nv I m (by grind) (by grind);rw [bZ,q3] at H;obtain ⟨h1,B⟩:=h.TM A l s1 (λo U=>by
         rw [ru s2,ru a6,aA,aS (by simp;omega),bq,ak U]) ⟨_,z,s2,λo U=>a7 o (by simp at U;omega)⟩
        have W:(els++n).flatten=els.flatten++n.flatten:=by simp
        have X:=pK r.eV els o4;have hln:=pK r.eV n u.zS;have hold:∀ (j:Nat) x v,els.flatten[j]? =some x->d[j]? =some v->s[j]? =some v:=by
         intro j x v O Y;have hj:j<els.length*r.eV:=by grind
         have hj':j<s.length:=om;grind [ru]
        have F:∀ (j:Nat) x v,(els++n).flatten[j]? =some x->(d.take (els.length*r.eV)++nv++d.drop (els.length*r.eV+nv.length))[j]? =some v->
          (els.flatten[j]? =some x/\s[j]? =some v)\/(n.flatten[j - els.length*r.eV]? =some x/\nv[j - els.length*r.eV]? =some v):=by
         intro j x v O Y;have hj:j<(els++n).flatten.length:=(aB.1 O).1;rw [W,au,X,hln] at hj;rw [W] at O;have mn:min (els.length*r.eV) d.length=els.length*r.eV:=om;grind
        obtain ⟨Z,k2,k3⟩:=h1.DT (id:=id) (c:=bl) (sz:=r.eV) (N:=els.length+n.length) (cap:=c) (t:=e') (z:=z) (els:=els++n) (by simp) (λbk M hM=>by grind) (.inl ⟨_,l⟩) a1 (by grind)
         (λo U=>by grind) a4 (λQ t' sz' N' N'' hne hs' hc'=>hne (a5 Q t' sz' N' N'' hs' hc')) s2 (λo U=>a7 o (by simp at U;omega)) (by simp;omega) m
         (λel hel=>by rcases aF.1 hel with p|p;exact o4 el p;exact u.zS el p)
         (λj x v O Y=>by
          rcases F j x v O Y with ⟨_,p⟩|⟨_,p⟩
          .grind
          .exact u.rp.one v (bh p))
         (λj x v O Y=>by
          rcases F j x v O Y with ⟨p,J⟩|⟨p,J⟩
          .exact (o5 j x v p J).ka B.jC
          .exact (u.FI _ x v p J).ka B.jC)
        refine ⟨_,_,_,H,?_,Z.mQ (λi q=>?_),B.lF k2⟩
        .grind [k3.FO]
        .rcases q with q|rfl
         .exact .inl q
         .exact .inl (h.oF _ _ l)
      .obtain ⟨val,w',g',Z,k2,k3,k4⟩:=Lj (ty:=ty) hT h hr he (id:=id) (els:=els) (λbk' M hM=>by simp_all) u E om o1 hoc o4 o5 o6;refine ⟨val,w',g',Z,?_,k3.mQ (λi q=>?_),k4⟩
       .grind [k2.FO]
       .rcases q with q|rfl
        .exact .inl q
        .exact .inl (h.oF _ _ l)
  |_=>simp only [A] at k;exact k.elim
 |hJ id=>
  simp only at k;cases A:σ (.eT id) with
  |eU e' sz'' N=>
   simp only [A] at k;cases y:Nat.beq sz'' r.eV with
   |false=>simp only [y] at k;exact k.elim
   |true=>
    cases K:Nat.beq e' e with
    |false=>simp only [y,K] at k;exact k.elim
    |true=>
     simp only [y,K] at k;have ea:=bc y;have eb:=bc K;subst ea eb;obtain ⟨⟨hN,E⟩,B,e2⟩:=k;subst B e2 hN;obtain ⟨bk,l,L⟩:=h.ln id e' r.eV els.length A
     by_cases h0:n=[]
     .subst h0;refine ⟨_,w,g,S rfl,?_,(h.xx (λQ=>?_) (λQ=>?_)).mQ (λ_ q=> .inl q),iN.uO g w⟩
      .simp_all
      .trivial
      .simp only [jP];grind [lX,g9]
     .have hpos:0<n.length:=cm.2 h0
      by_cases m:els.length+n.length<=c
      .obtain ⟨bk',N',t1,t2,t3⟩:=ht;rw [l] at t1;cases t1;rcases t3 rfl with ⟨t4,_⟩|⟨bl,tt,rfl,rfl,hshape⟩
       .omega
       .obtain ⟨a1,a2,a3,a4,a5,d,z,a6,a7⟩:=L bl rfl;have hal:d.length=c*r.eV:=by
         grind [World.shape?]
        have hnl:nv.length=n.length*r.eV:=u.rp.newsLen;have I:=u.rp;rw [<-q3] at I;have hle:els.length*r.eV+nv.length<=d.length:=by rw [hnl,hal,<-cl];exact bI _ m
        obtain ⟨s1,s2,s3,s4⟩:=IN bl (els.length*r.eV) nv a6 hle a7 u.rp.one;have H:=run_append_room_src (P:=P) w t tx ty e' i R q1 bl 0 els.length c xv n.length nv I m (by grind) (by grind);rw [bZ,q3] at H;obtain ⟨h1,B⟩:=h.TM A l s1 (λo U=>by
         rw [ru s2,ru a6,aA,aS (by simp;omega),bq,ak U]) ⟨_,z,s2,λo U=>a7 o (by simp at U;omega)⟩
        have W:(els++n).flatten=els.flatten++n.flatten:=by simp
        have X:=pK r.eV els o4;have hln:=pK r.eV n u.zS;have hold:∀ (j:Nat) x v,els.flatten[j]? =some x->d[j]? =some v->s[j]? =some v:=by
         intro j x v O Y;have hj:j<els.length*r.eV:=by grind
         have hj':j<s.length:=om;grind [ru]
        have F:∀ (j:Nat) x v,(els++n).flatten[j]? =some x->(d.take (els.length*r.eV)++nv++d.drop (els.length*r.eV+nv.length))[j]? =some v->
          (els.flatten[j]? =some x/\s[j]? =some v)\/(n.flatten[j - els.length*r.eV]? =some x/\nv[j - els.length*r.eV]? =some v):=by
         intro j x v O Y;have hj:j<(els++n).flatten.length:=(aB.1 O).1;rw [W,au,X,hln] at hj;rw [W] at O;have mn:min (els.length*r.eV) d.length=els.length*r.eV:=om;grind
        obtain ⟨Z,k2,k3⟩:=h1.DT (id:=id) (c:=bl) (sz:=r.eV) (N:=els.length+n.length) (cap:=c) (t:=e') (z:=z) (els:=els++n) (by simp) (λbk M hM=>by grind) (.inl ⟨_,l⟩) a1 (by grind)
         (λo U=>by grind) a4 (λQ t' sz' N' N'' hne hs' hc'=>hne (a5 Q t' sz' N' N'' hs' hc')) s2 (λo U=>a7 o (by simp at U;omega)) (by simp;omega) m
         (λel hel=>by rcases aF.1 hel with p|p;exact o4 el p;exact u.zS el p)
         (λj x v O Y=>by
          rcases F j x v O Y with ⟨_,p⟩|⟨_,p⟩
          .grind
          .exact u.rp.one v (bh p))
         (λj x v O Y=>by
          rcases F j x v O Y with ⟨p,J⟩|⟨p,J⟩
          .exact (o5 j x v p J).ka B.jC
          .exact (u.FI _ x v p J).ka B.jC)
        refine ⟨_,_,_,H,?_,Z.mQ (λi q=>?_),B.lF k2⟩
        .grind
        .rcases q with q|rfl
         .exact .inl q
         .exact .inl (h.oF _ _ l)
      .obtain ⟨val,w',g',Z,k2,k3,k4⟩:=Lj (ty:=ty) hT h hr he (id:=id) (els:=els) (λbk' M hM=>by simp_all) u E om o1 hoc o4 o5 o6;refine ⟨val,w',g',Z,?_,k3.mQ (λi q=>?_),k4⟩
       .grind
       .rcases q with q|rfl
        .exact .inl q
        .exact .inl (h.oF _ _ l)
  |_=>simp only [A] at k;exact k.elim
end
end Go.Am
