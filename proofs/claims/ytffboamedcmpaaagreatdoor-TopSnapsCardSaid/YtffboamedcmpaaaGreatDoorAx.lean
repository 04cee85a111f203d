import Derived.Test.YtffboamedcmpaaaGreatDoorAw
set_option linter.all false
set_option maxHeartbeats 4000000
set_option maxRecDepth 100000
namespace Gw
def qp (x p:List UInt8):Bool:=decide (x.length+1<p.length) && (decide (p.take (x.length+1)=x++[47]) && decide ((47:UInt8)∉p.drop (x.length+1)))
theorem adj {x p}:qp x p=true↔∃ s,s≠[]/\(47:UInt8)∉s/\p=x++47::s:=by
 unfold qp;simp only [az,aM];constructor
 .rintro ⟨a,h,b⟩;refine ⟨p.drop (x.length+1),λe=>?_,b,?_⟩
  .have:=congrArg List.length e;grind
  .have:=bJ (x.length+1) p;simp_all
 .rintro ⟨s,a,h,rfl⟩;have b:0<s.length:=cm.2 a;have e:x++47::s=(x++[47])++s:=by simp
  grind
theorem adk (n s):wb (n++[s])=wb n++47::s:=by
 unfold wb;simp
theorem aqz {l} (g:∀ n∈l,ni n) {a s n} (h:iB l a s=some n):s≠[]/\(47:UInt8)∉s:=by
 obtain ⟨b,c,d⟩:=wX h;have:=((g n b).1 (xq.1 c).2).2;grind [Mn]
theorem aqA {l} (c:gU l=true) (v:∀ n∈l,ni n) {x} (hx:x∈jo l 0) {d} (hp:kV x.fM=some d):
  jR l d=(x.iM,0)/\(JA l x.iM).qZ=x.wW/\(iy x.iM=true->(um l x.iM).length=((jo l 0).filter λj=>qp x.fM j.fM).length):=by
 have w:=apl c;have D:∀ n∈l,n.eM≠0:=λn f e=>by
  obtain ⟨i,A,rfl⟩:=List.mem_iff_getElem.1 f;have:=Qh c A;rw [e] at this;exact absurd this (by decide)
 have b:=hx;rw [w] at b;obtain ⟨names,T,L,k,y⟩:=S6 c v l.length (by decide) x b;rw [bE] at k;have I:d=names:=by
  obtain ⟨n,f,A,r,U,_⟩:=My l.length x b;have H:=And.symm (Mn ((v n f).1 (xq.1 A).2).2)
  match names,T with
  |s::q,_=>
   rw [ab8] at k;have F:x.fM≠[47]:=λe=>by
    simp_all
   grind [kV,S5]
 subst I;refine ⟨y,?_,λhd=>?_⟩
 .obtain ⟨_,_,_,n,o,g,Q⟩:=GP (outs:=[0]) (top:=0) l.length .rF x b;grind [JA,tf]
 .have Z:(((jo l 0).filter λj=>qp x.fM j.fM).map (·.fM)).Nodup:=by
   refine List.Nodup.sublist ((dV).map _) ?_;rw [w];have:=Qs v (outs:=[0]) l.length (dir:=0) (path:=[]);grind
  have hB:((um l x.iM).map λs=>x.fM++47::s).Nodup:=by
   rw [dR,dO];refine (apm l x.iM).imp λz e=>z ?_
   simp_all
  have m:=P1 Z hB λp=>by
   rw [aE,aE];constructor
   .rintro ⟨j,B,rfl⟩;obtain ⟨o,g⟩:=bG.1 B;obtain ⟨s,R,K,S⟩:=adj.1 g;rw [w] at o;obtain ⟨n2,W,X,N,O⟩:=S6 c v l.length (by decide) j o;rw [bE] at N;have J:∀ t∈d++[s],(47:UInt8)∉t:=λt u=>by
     grind
    have E:n2=d++[s]:=by
     rw [<-ab7 W X,<-ab7 (names:=d++[s]) (by simp) J,<-N,S,k,adk]
    grind [To,ab5]
   .rintro ⟨s,hs,rfl⟩;obtain ⟨n,f⟩:=(ab5 c).1 hs;obtain ⟨R,K⟩:=aqz v f;have hf:=Th hd f d 0 y;obtain ⟨j,o,g,Q⟩:=ab4 c (outs:=[0]) (λn f h=>D n f (by simpa using h)) (top:=0) (by simp) (d++[s]) l.length (ids:=[]) (path:=[]) (by simp) .rF (by simp) hf;grind [adj,adk]
  grind [m.length_eq]
theorem Tw {Q:fb->Prop} (f:∀ {T:Nat} {x:fb},j9 x->j4 T x->Q x->∀ p full,Q (nN x p full)):∀ (k i:Nat) (p:Int) {T:Nat} {d:iQ},j9 d.eG->kC d.eG->iJ T d->Q d.eG->Q (rX p k i d).eG
 |0,_,_,_,_,_,_,_,h=>h
 |k+1,i,p,T,d,h,U,c,e=>by
  unfold rX;split
  .exact e
  .have D:=Ky c (p+(i % 7:Nat));rcases KV d (p+(i % 7:Nat)) with ⟨q,_⟩|⟨full,q⟩
   .exact Tw f k (i+1) p (by rw [q];exact h) (by rw [q];exact U) D (by rw [q];exact e)
   .obtain ⟨a,b⟩:=Ok h c.kO.kI U (p+(i % 7:Nat)) full;refine Tw f k (i+1) p ?_ (by rw [q];exact a) D (by grind [c.kO]);grind
def nD:fG:=⟨8,[],[],[],0⟩
structure DM (n:Nat) (m0:fX) (x:fb):Prop where
 Tv:∀ (i:Nat) t,i<n->x.bf.al[i]? =some t->t.gS=true
 On:x.bf.al.length=n+1
 Oo:∃ t,x.bf.al[n]? =some t/\t.fx=nD/\t.fA.al=[]/\((t.g8=false/\x.ep=m0)\/(t.g8=true/\x.ep=(gA m0 nD).1/\t.gu=(gA m0 nD).2.1))
theorem aqD {n p x} (u:DM n p x) {t} (k:x.bf.al[n]? =some t) (B:t.gS=false):DM n p (pd x n (oO x.ep.cy.ec.al t)):=by
 obtain ⟨S,A,b,v,J⟩:=u.Oo;rw [k] at A;cases A;have d:∀ {L:List ft},(∀ i,i≠n->L[i]? =x.bf.al[i]?)->∀ (i:Nat) s,i<n->L[i]? =some s->s.gS=true:=λK i s j E=>by
  rw [K i (by omega)] at E;exact u.Tv i s j E
 rcases J with ⟨g,w⟩|⟨g,w,N⟩
 .have z:oO x.ep.cy.ec.al t=⟨3,0⟩:=by
   unfold oO;rw [ai (by rw [B];decide),ai (by rw [g];decide),b];rfl
  rw [z];show DM n p (od x n ⟨3,0⟩);unfold od;have c:mW x n=nD:=by
   grind [mW]
  rw [c,w];generalize D:gA p nD=r;obtain ⟨m,a,o⟩:=r;simp only;rw [ai (λq=>absurd q.1 (by decide))];obtain ⟨Q,R,F,H,I,h,l,_⟩:=ac1 k g m ⟨(x.eL.gj o.al).ie,(x.eL.gj o.al).al⟩ (λt=>{t with gu:=a,kf:=x.eZ,j8:=(x.eL.gj o.al).al.length}) (λs=>⟨rfl,rfl,rfl,rfl⟩);have f:∃ s,(kA (iC {x with ep:=m,eL:=⟨(x.eL.gj o.al).ie,(x.eL.gj o.al).al⟩} n λt=>{t with gu:=a,kf:=x.eZ,j8:=(x.eL.gj o.al).al.length}) n ⟨3,0⟩).bf.al[n]? =some s/\s.gu=a:=by
   refine ⟨gl {t with gu:=a,kf:=x.eZ,j8:=(x.eL.gj o.al).al.length} ⟨3,0⟩,?_,rfl⟩;show (jh (jh x.bf.al n _) n _)[n]? =_;grind [zL]
  have y:(kA (iC {x with ep:=m,eL:=⟨(x.eL.gj o.al).ie,(x.eL.gj o.al).al⟩} n λt=>{t with gu:=a,kf:=x.eZ,j8:=(x.eL.gj o.al).al.length}) n ⟨3,0⟩).ep=m:=rfl;generalize kA (iC {x with ep:=m,eL:=⟨(x.eL.gj o.al).ie,(x.eL.gj o.al).al⟩} n λt=>{t with gu:=a,kf:=x.eZ,j8:=(x.eL.gj o.al).al.length}) n ⟨3,0⟩=Y at*;refine ⟨d λi j=>by rw [h,ai j],l.trans u.On,Q,by rw [h,ak rfl],H.trans b,by rw [I];exact v, .inr ⟨F,by rw [D];exact y,?_⟩⟩;simp_all
 .have z:oO x.ep.cy.ec.al t=⟨5,0⟩:=by
   unfold oO;rw [ai (by rw [B];decide),ak g,v];simp only;rw [ai (by rw [b];decide)]
  rw [z];show DM n p (w5 x n ⟨5,0⟩);have h:∀ i:Nat,(w5 x n ⟨5,0⟩).bf.al[i]? =if i=n then some {t with gS:=true,nu:=x.eZ} else x.bf.al[i]?:=λi=>by
   show (jh (jh x.bf.al n _) n _)[i]? =_;rw [zL,zL]
   by_cases q:i=n
   .subst q;rw [ak rfl,DI (DI k _)];rfl
   grind
  have l:(w5 x n ⟨5,0⟩).bf.al.length=x.bf.al.length:=by
   exact (FA (jh x.bf.al n λt=>gl t ⟨5,0⟩) n _).trans (FA _ _ _)
  exact ⟨d λi j=>by rw [h,ai j],l.trans u.On,{t with gS:=true,nu:=x.eZ},by rw [h,ak rfl],b,v, .inr ⟨g,w,N⟩⟩
theorem aqB {x n t} (h:oe x n t=true):t.gS=false:=by
 unfold oe at h;simp_all
theorem aqC {n m T x} (h:j9 x) (_:j4 T x) (a:DM n m x) (p full):DM n m (nN x p full):=by
 unfold nN;cases B:pB x p with
 |none=>exact a
 |some y=>
  obtain ⟨E,w⟩:=y;obtain ⟨k,t,rfl,b,v,D⟩:=Tu B;obtain ⟨J,l,u,F,H⟩:=a.Oo;have e:=aqB v;have d:k=n:=by
   have A:=(aB.1 b).1;rw [a.On] at A;rcases bu k n with q|q
   .rw [a.Tv k t q b] at e;cases e
   .omega
  subst d;rw [b] at l;cases l;have j:w=false:=by
   rw [D];cases c:mo x.fm k with
   |false=>rfl
   |true=>
    obtain ⟨g,z,q⟩:=bD.1 c;have q:=ah q;obtain ⟨i,s,I,o,_,_,_,r,_⟩:=h.vo g z;obtain rfl:i=k:=by omega
    rw [b] at o;cases o;rw [u] at r;cases r
  subst j;have f:w6 x k=oO x.ep.cy.ec.al t:=by grind [w6]
  simp only [bA,cK];rw [f];exact aqD (x:={x with eZ:=x.eZ+1}) ⟨a.Tv,a.On,a.Oo⟩ b e
def DN (m a:fX):Prop:=a.iq=m.iq/\m.jg<=a.jg
theorem aqH (d o):DN d.e8 (nU d o).1.e8:=by
 unfold nU;split;split
 .exact ⟨rfl,bL _⟩
 .unfold rI;rename_i s e _ _;generalize jO d.e8.cy (pT o s)=r;obtain ⟨g,a⟩:=r;simp only
  by_cases h:a=0
  .subst h;exact ⟨rfl,bL _⟩
  .simp only [h,ne_eq,not_false_eq_true,du];exact ⟨rfl,bL _⟩
theorem adn:∀ l d,DN d.e8 (pa d l).1.e8
 |[],_=>⟨rfl,bL _⟩
 |o::l,d=>by
  have h:DN d.e8 (rI d o).1.e8:=by
   unfold rI;split;split<;>exact ⟨rfl,bL _⟩
  unfold pa;generalize rI d o=y at*;obtain ⟨a,e⟩:=y;simp only at h ⊢;split
  .exact h
  .have:=adn l a;exact ⟨this.1.trans h.1,Int.le_trans h.2 this.2⟩
theorem aqI {m c f} (w:vI c.gD=some f) (h:c.gD≠9):DN m (f ⟨m,iL 0,c, .g6⟩).1.e8\/((f ⟨m,iL 0,c, .g6⟩).1.e8.iq.al=m.iq.al++[⟨m.jg,m.cy.ec⟩]/\m.jg<(f ⟨m,iL 0,c, .g6⟩).1.e8.jg):=by
 have r:DN m m:=⟨rfl,bL _⟩;have p:∀ o,DN m (nU ⟨m,iL 0,c, .g6⟩ o).1.e8:=λo=>aqH ⟨m,iL 0,c, .g6⟩ o
 rcases Nq w with ⟨_,rfl⟩|⟨_,rfl⟩|⟨_,rfl⟩|⟨_,rfl⟩|⟨_,rfl⟩|⟨_,rfl⟩|⟨_,rfl⟩|⟨q,rfl⟩|⟨_,rfl⟩|⟨_,rfl⟩|⟨_,rfl⟩|⟨_,rfl⟩
 .grind [uq]
 .grind [uv]
 .grind [sC]
 .grind [ur]
 .grind [uu]
 .grind [sB]
 .unfold tA;split
  .exact .inl r
  .exact .inr ⟨rfl,by grind⟩
 .exact absurd q h
 .left;unfold vc;split;split;exact r;split;exact r;split;exact r;exact ⟨rfl,by grind⟩
 .left;unfold vb;split;exact r;exact r
 .exact .inl r
 .left;unfold tB;split
  .exact r
  .rename_i l _;simp only;split
   .exact r
   .have:=adn (l.foldl (l5 m.cy) (m.jk, .g6)).2.al ⟨m,iL 0,c, .g6⟩;generalize pa ⟨m,iL 0,c, .g6⟩ (l.foldl (l5 m.cy) (m.jk, .g6)).2.al=y at*;obtain ⟨d,e⟩:=y;simp only at this ⊢;split
    .exact this
    .exact this
theorem ado (m) {c} (k:c.gD≠9):DN m (gA m c).1\/((gA m c).1.iq.al=m.iq.al++[⟨m.jg,m.cy.ec⟩]/\m.jg<(gA m c).1.jg):=by
 have r:DN m m:=⟨rfl,bL _⟩;unfold gA;split
 .exact .inl r
 cases w:vI c.gD with
 |none=>exact .inl r
 |some f=>
  simp only;have h:=aqI (m:=m) w k;generalize f ⟨m,iL 0,c, .g6⟩=y at*;obtain ⟨d,e⟩:=y;simp only at h ⊢;split
  .exact .inl r
  split
  .exact h
  .exact h
structure Iq (h:Int) (N:List eF) (m:fX):Prop where
 adm:∃ s,m.iq.al.find? (λs=>decide (s.lZ=h))=some s/\s.BN.al=N
theorem Iq.aqF {h N m} (k:Iq h N m) {c} (d:c.gD≠9):Iq h N (gA m c).1:=by
 obtain ⟨s,a,b⟩:=k.adm;rcases ado m d with ⟨q,_⟩|⟨q,_⟩
 .exact ⟨s,by rw [q];exact a,b⟩
 .refine ⟨s,?_,b⟩;simp_all
structure r9 (x y:fb):Prop where
 Ty:∀ (n:Nat) s,y.bf.al[n]? =some s->∃ t,x.bf.al[n]? =some t/\s.fx=t.fx/\(s.g8=false->t.g8=false)
theorem r9.Tx (x):r9 x x:=⟨λn s h=>⟨s,h,rfl,id⟩⟩
theorem r9.vr {x y z} (h:r9 x y) (k:r9 y z):r9 x z:=⟨λn s e=>by
 obtain ⟨t,q,a,b⟩:=k.Ty n s e;obtain ⟨u,r,c,d⟩:=h.Ty n t q;simp_all⟩
theorem wm (x i) {f} (a:∀ t,(f t).fx=t.fx/\((f t).g8=false->t.g8=false)):r9 x (iC x i f):=⟨λn s e=>by
 have e:(jh x.bf.al i f)[n]? =some s:=e;rw [DL] at e;grind⟩
theorem FB (t u):(gl t u).fx=t.fx/\((gl t u).g8=false->t.g8=false):=by
 grind [gl]
theorem Ot {α:Type} {f:fb->α->fb} (h:∀ x a,r9 x (f x a)/\(f x a).ep=x.ep):∀ (l:List α) (x:fb),r9 x (l.foldl f x)/\(l.foldl f x).ep=x.ep
 |[],x=>⟨.Tx x,rfl⟩
 |a::l,x=>by
  obtain ⟨b,c⟩:=Ot h l (f x a);exact ⟨(h x a).1.vr b,c.trans (h x a).2⟩
theorem aqG (x:fb) (who:Int):r9 x (vK x who)/\(vK x who).ep=x.ep:=by
 refine Ot (λy n=>?_) _ x;unfold nW;split
 .exact ⟨.Tx y,rfl⟩
 .split
  .generalize l6 y.fg n=r;obtain ⟨b,p⟩:=r;simp only;have a:r9 y (iC {y with fg:=b} n kY):=(show r9 y {y with fg:=b} from ⟨λn s h=>⟨s,h,rfl,id⟩⟩).vr (wm _ _ λt=>⟨rfl,id⟩);obtain ⟨c,d⟩:=Ot (f:=lT) (λz v=>⟨wm z v.ig λt=>FB t _,rfl⟩) p.al (iC {y with fg:=b} n kY);exact ⟨a.vr c,d⟩
  .exact ⟨.Tx y,rfl⟩
theorem adq (x who u):r9 x (pd x who u)/\((pd x who u).ep=x.ep\/(u.kX=3/\(pd x who u).ep=(gA x.ep (mW x who)).1)):=by
 have c:∀ i,r9 x {x with fg:=i}:=λi=>⟨λn s h=>⟨s,h,rfl,id⟩⟩
 unfold pd;split
 .unfold rM;generalize pc x.fg who u.qI=r;obtain ⟨t,b⟩:=r;simp only;split
  .exact ⟨(c t).vr (wm _ _ λt=>FB t u), .inl rfl⟩
  simp_all
 split
 .unfold rL;generalize kl x.fg who u.qI=r;obtain ⟨t,b⟩:=r;cases b with
  |none=>exact ⟨(c t).vr (wm _ _ λt=>FB t u), .inl rfl⟩
  |some m=>exact ⟨((c t).vr (wm _ who λt=>FB t u)).vr (wm _ m λt=>FB t _), .inl rfl⟩
 split
 .rename_i e;unfold od;generalize gA x.ep (mW x who)=r;obtain ⟨m,a,o⟩:=r;simp only;have d:r9 x (kA (iC {x with ep:=m,eL:=⟨(x.eL.gj o.al).ie,(x.eL.gj o.al).al⟩} who λt=>{t with gu:=a,kf:=x.eZ,j8:=(x.eL.gj o.al).al.length}) who u):=
   ((show r9 x {x with ep:=m,eL:=⟨(x.eL.gj o.al).ie,(x.eL.gj o.al).al⟩} from ⟨λn s h=>⟨s,h,rfl,id⟩⟩).vr (wm _ who (f:=λt=>{t with gu:=a,kf:=x.eZ,j8:=(x.eL.gj o.al).al.length}) λt=>⟨rfl,id⟩)).vr (wm _ who λt=>FB t u)
  split
  .obtain ⟨j,k⟩:=aqG (kA (iC {x with ep:=m,eL:=⟨(x.eL.gj o.al).ie,(x.eL.gj o.al).al⟩} who λt=>{t with gu:=a,kf:=x.eZ,j8:=(x.eL.gj o.al).al.length}) who u) who;exact ⟨d.vr j, .inr ⟨e,k⟩⟩
  .exact ⟨d, .inr ⟨e,rfl⟩⟩
 split
 .unfold sE;generalize yV x.fm who (BP x who)=r;obtain ⟨g,b⟩:=r;have d:r9 x {x with fm:=g}:=⟨λn s h=>⟨s,h,rfl,id⟩⟩;simp only;split
  .exact ⟨d.vr (wm _ who (f:=λt=>{t with gS:=true,nu:=x.eZ}) λt=>⟨rfl,id⟩), .inl rfl⟩
  simp_all
 split
 .exact ⟨(wm x who λt=>FB t u).vr (wm _ who (f:=λt=>{t with nu:=x.eZ}) λt=>⟨rfl,id⟩), .inl rfl⟩
 simp_all
theorem adp (x:fb) (who:Int) (full:Bool):r9 x (pA x who full)/\(pA x who full).ep=x.ep:=by
 unfold pA;split
 .have a:r9 x {x with fm:=⟨x.fm.mC,x.fm.iI.j7 λw=>decide (w.js=who)⟩}:=⟨λn s h=>⟨s,h,rfl,id⟩⟩;exact ⟨(a.vr (wm _ who (f:=λt=>{t with gu:=iL 120}) λt=>⟨rfl,id⟩)).vr (wm _ who (f:=λt=>{t with gS:=true,nu:=x.eZ}) λt=>⟨rfl,id⟩),rfl⟩
 .generalize vJ x.fm x.eL.al.length=r;obtain ⟨g,o⟩:=r;simp only;have a:r9 x {x with fm:=g}:=⟨λn s h=>⟨s,h,rfl,id⟩⟩;obtain ⟨b,c⟩:=Ot (f:=lK) (λz v=>⟨wm z v (f:=λt=>{t with gS:=true,nu:=z.eZ}) λt=>⟨rfl,id⟩,rfl⟩) o.al {x with fm:=g};exact ⟨a.vr b,c⟩
structure yw (h:Int) (N:List eF) (x:fb):Prop where
 Ip:Iq h N x.ep
 Oq:∀ (n:Nat) t,x.bf.al[n]? =some t->t.g8=false->t.fx.gD≠9
theorem yw.adl {h N x y} (k:yw h N x) (m:r9 x y) (q:Iq h N y.ep):yw h N y:=⟨q,λn s a d=>by
 obtain ⟨t,b,c,e⟩:=m.Ty n s a;rw [c];exact k.Oq n t b (e d)⟩
theorem yw.aqE {h N x} (k:yw h N x) (p full):yw h N (nN x p full):=by
 have f:yw h N {x with eZ:=x.eZ+1}:=⟨k.Ip,k.Oq⟩;unfold nN;cases m:pB x p with
 |none=>exact k
 |some y=>
  obtain ⟨o,w⟩:=y;obtain ⟨n,t,rfl,d,i,_⟩:=Tu m;simp only;split
  .obtain ⟨a,b⟩:=adp {x with eZ:=x.eZ+1} n full;exact f.adl a (by rw [b];exact k.Ip)
  .obtain ⟨a,b⟩:=adq {x with eZ:=x.eZ+1} n (w6 x n);refine f.adl a ?_;rcases b with b|⟨c,g⟩
   .rw [b];exact k.Ip
   .rw [g];have l:mW {x with eZ:=x.eZ+1} n=t.fx:=by
     unfold mW;simp_all
    rw [l];refine k.Ip.aqF (k.Oq n t d ?_);have e:w6 x n=oO x.ep.cy.ec.al t:=by grind [w6]
    rw [e] at c;cases j:t.g8 with
    |false=>rfl
    |true=>
     grind [oO]
def sa (m:fX):Prop:=1<=m.jg/\∀ s∈m.iq.al,s.lZ<m.jg
theorem sa.aqJ {m} (h:sa m) (c):sa (gA m c).1:=by
 by_cases k:c.gD=9
 .unfold gA;split
  .exact h
  have w:vI c.gD=some sA:=by rw [k];rfl
  rw [w];simp only;have b:sa (sA ⟨m,iL 0,c, .g6⟩).1.e8:=by
   unfold sA;split
   .exact h
   .exact ⟨h.1,λs a=>h.2 s (bG.1 a).1⟩
  generalize sA ⟨m,iL 0,c, .g6⟩=y at*;obtain ⟨d,e⟩:=y;simp only at b ⊢;split
  .exact h
  split
  .exact b
  .exact b
 .rcases ado m k with ⟨q,f⟩|⟨q,f⟩
  .exact ⟨Int.le_trans h.1 f,λs a=>by rw [q] at a;have:=h.2 s a;omega⟩
  .refine ⟨by have:=h.1;omega,λs a=>?_⟩;rw [q] at a;rcases aF.1 a with a|a
   .have:=h.2 s a;omega
   simp_all
theorem sa.aqL {x} (h:sa x.ep) (p full):sa (nN x p full).ep:=by
 unfold nN;split
 .exact h
 .split
  .grind [adp]
  .rename_i w _ _ _;rcases (adq {x with eZ:=x.eZ+1} w (w6 x w)).2 with b|⟨_,b⟩
   .rw [b];exact h
   grind [sa.aqJ]
theorem sa.adr {d} (h:sa d.eG.ep) (p):sa (rY d p).eG.ep:=by
 rcases KV d p with ⟨q,_⟩|⟨f,q⟩
 .rw [q];exact h
 .rw [q];exact h.aqL p f
theorem adu (r):(nJ r).2=0->sa (nJ r).1.ep:=by
 by_cases a:r<0\/63<r
 .grind [rJ,nJ]
 .have e:rJ r=({Mw with ky:=r,jg:=1},0):=by grind [rJ]
  unfold nJ;rw [e];intro _;exact ⟨bL 1,λs b=>by cases b⟩
theorem adw (d c):(mz d c).1.eG.ep=d.eG.ep:=by
 grind [mz,pC]
theorem sa.aqK {d} (h:sa d.eG.ep) (o):sa (rn d o).1.eG.ep:=by
 unfold rn;split
 .show sa (mz d o.nn).1.eG.ep;rw [adw];exact h
 split
 .exact h.adr o.ym
 split
 .grind [zB]
 split
 .unfold zA;have k:∀ D,(vk d.eG.ep.ky D).2=0->sa (vk d.eG.ep.ky D).1.eG.ep:=λD a=>by
   have b:=adu d.eG.ep.ky;unfold vk at a ⊢;generalize nJ d.eG.ep.ky=y at*;obtain ⟨c,e⟩:=y;simp only at b a ⊢;split at a
   .omega
   rename_i q;rw [ai q];have b:=b (by simpa using q);split at a
   .omega
   rename_i f;rw [ai f];split at a
   .cases a
   .split at a
    .cases a
    .exact ⟨b.1,b.2⟩
  grind
 .exact h
theorem adt:∀ (l:List my) {d:iQ},sa d.eG.ep->sa (rm d l).eG.ep
 |[],_,h=>h
 |o::l,d,h=>adt l (h.aqK o)
theorem adv:∀ (k i:Nat) (p:Int) {d:iQ},sa d.eG.ep->sa (rX p k i d).eG.ep
 |0,_,_,_,h=>h
 |k+1,i,p,d,h=>by
  unfold rX;split
  .exact h
  .exact adv k (i+1) p (h.adr _)
theorem ads (m):(8<=m.iq.al.length/\(gA m nD).2.1.qc≠0/\(gA m nD).1=m)\/(m.iq.al.length<8/\(gA m nD).2.1.qc=0/\(gA m nD).2.1.qd=m.jg/\(gA m nD).1.iq.al=m.iq.al++[⟨m.jg,m.cy.ec⟩]):=by
 unfold gA;rw [ai (by decide)];have w:vI nD.gD=some tA:=rfl;rw [w];simp only;unfold tA;simp only
 by_cases h:8<=m.iq.al.length
 .left;rw [ak h];exact ⟨h,by show (193:Int)≠0;decide,rfl⟩
 .right;rw [ai h];exact ⟨by omega,rfl,rfl,rfl⟩
theorem aqN {m} (h:sa m) {a} (e:a.iq.al=m.iq.al++[⟨m.jg,m.cy.ec⟩]):Iq m.jg m.cy.ec.al a:=by
 refine ⟨⟨m.jg,m.cy.ec⟩,?_,rfl⟩;rw [e,List.find?_append,dp.2 (λs b=>by have:=h.2 s b;simp;omega)];simp
theorem aqO {d l id} (h:tw d.e8 d.kQ.g7=some l) (b:kj l.al d.kQ.fR=(id,0)) (c:iy id=true):sB d=({d with kg:={d.kg with nS:=⟨true,um l.al id⟩}},0):=by
 grind [sB]
theorem aqP {d l id} (h:tw d.e8 d.kQ.g7=some l) (b:kj l.al d.kQ.fR=(id,0)) (c:iy id=false):sC d=({d with kg:={d.kg with BK:=(JA l.al id).qZ}},0):=by
 grind [sC]
def qq (h:Int) (i:jG):fG:=⟨if iy i.iM=true then 7 else 4,i.fM,[],[],h⟩
theorem aqM {h N m} (k:Iq h N m) (p:h≠0) (r:gU N=true) (u:∀ n∈N,ni n) {i} (v:i∈jo N 0) (c:uj (qq h i)=true):
  (gA m (qq h i)).2.1.qc=0/\(iy i.iM=false->(gA m (qq h i)).2.1.BK=i.wW)/\(iy i.iM=true->(gA m (qq h i)).2.1.nS.al.length=((jo N 0).filter λx=>qp i.fM x.fM).length):=by
 obtain ⟨s,z,e⟩:=k.adm;have o:tw m h=some s.BN:=by grind [tw]
 have y:(kV i.fM).isSome=true:=by
  unfold uj at c;unfold qq at c;cases a:iy i.iM with
  |true=>
   rw [a] at c;simp only [du] at c;have:wU 7=some (Ex.mk true false false true):=rfl;rw [this] at c;unfold Ez at c;simp only [az] at c;exact c.1
  |false=>
   rw [a] at c;simp only [bA,cK] at c;have:wU 4=some (Ex.mk true false false true):=rfl;rw [this] at c;unfold Ez at c;simp only [az] at c;exact c.1
 obtain ⟨A,b⟩:=bN.1 y;obtain ⟨f,g,j⟩:=aqA r u v b;have t:kj s.BN.al i.fM=(i.iM,0):=by
  grind [kj]
 unfold gA;rw [ai (by rw [c];decide)];cases a:iy i.iM with
 |true=>
  have w:vI (qq h i).gD=some sB:=by unfold qq;rw [a];rfl
  rw [w];simp only;have l:=aqO (d:=⟨m,iL 0,qq h i, .g6⟩) o t a;rw [l];refine ⟨rfl,λq=>(by cases q),λ_=>?_⟩;grind
 |false=>
  have w:vI (qq h i).gD=some sC:=by unfold qq;rw [a];rfl
  rw [w];simp only;have l:=aqP (d:=⟨m,iL 0,qq h i, .g6⟩) o t a;rw [l];refine ⟨rfl,λ_=>?_,λq=>by cases q⟩;grind
theorem yw.aqQ {h N d} (k:yw h N d.eG) {o} (j:o.vj≠4) (b:o.nn.gD≠9):yw h N (rn d o).1.eG:=by
 unfold rn;split
 .show yw h N (mz d o.nn).1.eG;have m:=adw d o.nn;refine ⟨by rw [m];exact k.Ip,λn t e c=>?_⟩;have y:∀ t∈(mz d o.nn).1.eG.bf.al,t∈d.eG.bf.al\/t.fx=o.nn:=by
   unfold mz pC;split;split
   .simp_all
   .rename_i x _;split at x
    .simp_all
    .cases x;intro t a;rcases aF.1 (show t∈d.eG.bf.al++[_] from a) with q|q
     .exact .inl q
     .rw [aw] at q;rw [q];exact .inr rfl
  rcases y t (bh e) with q|q
  .obtain ⟨i,g⟩:=List.mem_iff_getElem?.1 q;exact k.Oq i t g c
  .rw [q];exact b
 split
 .show yw h N (rY d o.ym).eG;rcases KV d o.ym with ⟨q,_⟩|⟨f,q⟩
  .rw [q];exact k
  .rw [q];exact k.aqE _ _
 grind [zB]
def yx (o:my):Bool:=!decide (o.vj=4) && !decide (o.nn.gD=9)
theorem yw.adx {h N}:∀ (l:List my) {d:iQ},yw h N d.eG->(∀ o∈l,yx o=true)->yw h N (rm d l).eG
 |[],_,k,_=>k
 |o::l,d,k,s=>by
  have:=s o aP;unfold yx at this;simp only [az,bR,dG] at this;exact yw.adx l (k.aqQ this.1 this.2) λp a=>s p (aQ _ a)
theorem aqR {size:Int} (F:size<=255) {k l:List my} (hk:∀ o∈k,wa o) (b:(tU 1 size).2=0) {d1 d2:iQ} (e1:d1=sQ (rm (tU 1 size).1 k) 0) (hlt:d1.eG.bf.al.length<30) (e2:d2=sQ (mz d1 nD).1 0):
  (mz d1 nD).2.1=d1.eG.bf.al.length/\∃ t,d2.eG.bf.al[d1.eG.bf.al.length]? =some t/\(t.gu.qc≠0->d2.eG.ep.iq.al.length=8)/\
   (t.gu.qc=0->∀ a∈jo d1.eG.ep.cy.ec.al 0,uj (qq t.gu.qd a)=true->
    (gA (rm d2 (l.filter yx)).eG.ep (qq t.gu.qd a)).2.1.qc=0/\(iy a.iM=false->(gA (rm d2 (l.filter yx)).eG.ep (qq t.gu.qd a)).2.1.BK=a.wW)/\
    (iy a.iM=true->(gA (rm d2 (l.filter yx)).eG.ep (qq t.gu.qd a)).2.1.nS.al.length=((jo d1.eG.ep.cy.ec.al 0).filter λx=>qp a.fM x.fM).length)):=by
 have j:=NS F b;have r:(tU 1 size).1.eG=(nJ 1).1/\(nJ 1).2=0:=by
  grind [tU]
 obtain ⟨O,W⟩:j9 (tU 1 size).1.eG/\kC (tU 1 size).1.eG:=by grind [aqy]
 have Q:sa (tU 1 size).1.eG.ep:=by grind [adu]
 obtain ⟨P,X⟩:=adh k O W j hk;have I:=NR k j hk;have R:=adt k Q;obtain ⟨v,A,D,d,_⟩:=adf P X I 0;have N:sa d1.eG.ep:=by rw [e1];exact adv _ 0 0 R
 rw [<-e1] at v A D d;have g:mz d1 nD=({d1 with eG:={d1.eG with eZ:=d1.eG.eZ+1,bf:=d1.eG.bf.lR (w4 nD (d1.eG.eZ+1))}},(d1.eG.bf.al.length:Int),(0:Int)):=by
  grind [mz,pC]
 have m:=H4 D nD (by decide) (by decide) (by decide);obtain ⟨L,U⟩:=adi v A nD;have Y:(mz d1 nD).1.eG=(pC d1.eG nD).1:=by
  grind [pC]
 rw [<-Y] at L U;have n:∀ t∈d1.eG.bf.al,t.gS=true:=bi.1 d;have S:DM d1.eG.bf.al.length d1.eG.ep (mz d1 nD).1.eG:=by
  rw [g];refine ⟨λi t hi H=>?_,?_,w4 nD (d1.eG.eZ+1),?_,rfl,rfl, .inl ⟨rfl,rfl⟩⟩
  .have H:(d1.eG.bf.al++[w4 nD (d1.eG.eZ+1)])[i]? =some t:=H;grind
  .show (d1.eG.bf.al++[_]).length=_;rw [au];rfl
  .show (d1.eG.bf.al++[_])[_]? =_;simp_all
 obtain ⟨f,hU4,J,h,_⟩:=adf L U m 0;have T:DM d1.eG.bf.al.length d1.eG.ep d2.eG:=by
  rw [e2];exact Tw (λh1 h2 h3 p u=>aqC h1 h2 h3 p u) _ 0 0 L U m S
 rw [<-e2] at f J h;obtain ⟨t,t1,t2,t3,t4⟩:=T.Oo;have htd:t.g8=true:=by
  have:=bi.1 h t (bh t1);exact ((f.pn _ t t1).Fs this).1
 obtain ⟨m1,m2⟩:d2.eG.ep=(gA d1.eG.ep nD).1/\t.gu=(gA d1.eG.ep nD).2.1:=by
  simp_all
 refine ⟨by rw [g],t,t1,λE=>?_,λh0 a Z B=>?_⟩
 .rcases ads d1.eG.ep with ⟨q1,_,q3⟩|⟨_,q2,_⟩
  .grind [D.kO.kI.AK]
  simp_all
 .rcases ads d1.eG.ep with ⟨_,q2,_⟩|⟨_,_,q3,q4⟩
  .simp_all
  .have hn:t.gu.qd=d1.eG.ep.jg:=by rw [m2,q3]
   have hK:yw d1.eG.ep.jg d1.eG.ep.cy.ec.al d2.eG:=by
    refine ⟨aqN N (by rw [m1];exact q4),λi s F hd=>?_⟩;have:=bi.1 h s (bh F);rw [((f.pn i s F).Fs this).1] at hd;cases hd
   have K:=yw.adx (l.filter yx) hK λo ho=>(bG.1 ho).2
   rw [hn] at B ⊢;exact aqM K.Ip (by have:=N.1;omega) D.kO.kI.lq.qK.zc D.kO.kI.lq.SD Z B
end Gw
namespace Go.Proofs.YtffboamedcmpaaaGreatDoor
open Gw
open Go.Am
open Go.Proofs.Tryz Tryz
theorem aqS (nil:Bool) (I:List jG) (p:List UInt8) (hI:I.length<=1048576) (hp:p.length<=1048576) (hi:∀ it∈I,it.fM.length<=1048576):er prog 19 [.a8 nil 3 (mv I) .dm, .cp p] (.ax .i64 ((I.filter λit=>qp p it.fM).length:Nat)):=by
 have hel:=EJ I;refine fS func19 ?_
 conv=>whnf
 refine iE.gY (λi:Nat=>[(.ct 0, .bg (.a8 nil 3 (mv I) .dm)),(.ct 1, .bg (.cp p)),(.ct 5, .bg (.ax .i64 (((I.take i).filter λit=>qp p it.fM).length:Nat))),(.ct 6, .bg (.ax .i64 i))]) 0
  (λi=>i<=I.length) (λi=>I.length - i) dd 0 (Nat.zero_le _) ⟨rfl,rfl,rfl,rfl,rfl,rfl,rfl,rfl,trivial⟩ ?_
 intro i hk;refine gk ?_;rw [hel];refine ab (λh=>?_) λh=>?_
 .have hlt:i<I.length:=om;have hgi:=BV hlt;have hpl:=hi _ (aI hlt);generalize hit:I[i]=it at*;have w1:IntKind.i64.wrap ((p.length:Int)+1)=((p.length+1:Nat):Int):=by grind [fq]
  refine cx ?_;rw [w1];have hsucc:(I.take (i+1)).filter (λit=>qp p it.fM)=(I.take i).filter (λit=>qp p it.fM)++(if qp p it.fM=true then [it] else []):=by
   rw [aD hlt,eh,hit];congr 1;cases hd:qp p it.fM<;>simp [hd]
  have hcnt:((I.take i).filter λit=>qp p it.fM).length<=1048576:=av (bn _ _) (by rw [aT];omega);refine ab (λh1=>?_) λh1=>?_
  .refine cx ?_;refine ⟨by show p.length+1<_;omega,?_⟩;refine cx ?_;refine iE.gY (X:=Nat×Bool) (λx=>[(.ct 0, .bg (.a8 nil 3 (mv I) .dm)),(.ct 1, .bg (.cp p)),(.ct 5, .bg (.ax .i64 (((I.take i).filter λit=>qp p it.fM).length:Nat))),(.ct 6, .bg (.ax .i64 i)),(.ct 7, .bg (.cp it.fM)),(.ct 8, .bg (.eD x.2)),(.ct 9, .bg (.ax .i64 x.1))]) 0
    (λx=>p.length+1<=x.1/\x.1<=it.fM.length/\x.2=(decide (it.fM.take (p.length+1)=p++[47]) && decide ((47:UInt8)∉(it.fM.drop (p.length+1)).take (x.1 - (p.length+1))))) (λx=>it.fM.length - x.1) dd (p.length+1,decide (it.fM.take (p.length+1)=p++[47])) ⟨aq _,by omega,by simp⟩ ⟨rfl,rfl,rfl,rfl,rfl,rfl,rfl,rfl,rfl,rfl,?_,rfl,congrArg (λz=>gC.bg (b9.ax .i64 z)) w1,rfl,ae⟩ ?_
   .conv=>lhs;whnf
    rw [w1];rfl
   rintro ⟨k,b⟩ ⟨k1,k2,k3⟩;simp only at k1 k2 k3;refine gk ?_;have hdir:qp p it.fM=(decide (it.fM.take (p.length+1)=p++[47]) && decide ((47:UInt8)∉it.fM.drop (p.length+1))):=by
    unfold qp;rw [aO (by omega),bo]
   cases b with
   |false=>
    have hdf:qp p it.fM=false:=by
     rw [hdir,bW];intro q;simp only [az,aM] at q;rw [aO q.1,bo,eq_comm,dG] at k3;exact k3 λz=>q.2 (cX z)
    rw [hdf,ai (by decide),aH] at hsucc;refine kw ?_;refine ⟨i+1,om,(by show I.length - (i+1)<I.length - i;omega),rfl,rfl,rfl,rfl,?_,rfl,ix,rfl,ae⟩;rw [hsucc];rfl
   |true=>
    refine kw ?_;refine ab (λh2=>?_) λh2=>?_
    .have hk2:k<it.fM.length:=om;refine kw ?_;refine ⟨it.fM[k],⟨om,by simp [hk2]⟩,?_⟩;refine kw ?_;refine ⟨(k+1,decide (it.fM[k]≠47)),⟨by show p.length+1<=k+1;omega,by show k+1<=_;omega,?_⟩,(by show it.fM.length - (k+1)<it.fM.length - k;omega),rfl,rfl,rfl,rfl,rfl,rfl,rfl,rfl,rfl,rfl,?_,rfl,?_,rfl,ae⟩
     .show decide (it.fM[k]≠47)=_;have hkt:(it.fM.drop (p.length+1)).take (k+1 - (p.length+1))=(it.fM.drop (p.length+1)).take (k - (p.length+1))++[it.fM[k]]:=by
       rw [show k+1 - (p.length+1)=k - (p.length+1)+1 by omega,aD (by rw [aV];omega),List.getElem_drop];congr 3;omega
      rw [hkt];have k3:=k3.symm;simp only [az,aM] at k3;simp only [k3.1,decide_true,bo,aF,aw,k3.2,false_or];congr 1;rw [ne_comm]
     .conv=>lhs;whnf
      refine congrArg (λb=>gC.bg (b9.eD b)) ?_;show ((it.fM[k].toNat:Int) !=47)=decide (it.fM[k]≠47);rw [bne,df];simp only [bR,cL,aM,ne_eq,<-jY];show (¬(it.fM[k].toNat:Int)=47)↔¬it.fM[k].toNat=47;omega
     .exact ix
    .obtain rfl:k=it.fM.length:=om;have hdt:qp p it.fM=true:=by
      rw [hdir,k3];congr 2;rw [bj (by rw [aV];omega)]
     rw [hdt,ak rfl] at hsucc;refine kw ?_;refine ⟨i+1,om,(by show I.length - (i+1)<I.length - i;omega),rfl,rfl,rfl,rfl,?_,rfl,ix,rfl,ae⟩;rw [hsucc,au];exact ix
  .have hdf:qp p it.fM=false:=by
    unfold qp;rw [aJ (by omega)];rfl
   rw [hdf,ai (by decide),aH] at hsucc;refine cx ?_;refine iE.gY (λ_:Unit=>[(.ct 0, .bg (.a8 nil 3 (mv I) .dm)),(.ct 1, .bg (.cp p)),(.ct 5, .bg (.ax .i64 (((I.take i).filter λit=>qp p it.fM).length:Nat))),(.ct 6, .bg (.ax .i64 i)),(.ct 7, .bg (.cp it.fM)),(.ct 8, .bg .fD),(.ct 9, .bg (.ax .i64 (p.length+1:Nat)))]) 0
    (λ_=>True) (λ_=>0) dd () trivial ⟨rfl,rfl,rfl,rfl,rfl,rfl,rfl,rfl,rfl,rfl,rfl,rfl,congrArg (λz=>gC.bg (b9.ax .i64 z)) w1,rfl,ae⟩ ?_
   intro _ _;refine gk ?_;refine kw ?_;refine ⟨i+1,om,(by show I.length - (i+1)<I.length - i;omega),rfl,rfl,rfl,rfl,?_,rfl,ix,rfl,ae⟩;rw [hsucc];rfl
 .obtain rfl:i=I.length:=om;rw [aN]
  conv=>whnf
structure Cw where
 ady:Int
 aqT:Int
 xw:Int
 aqU:Int
 KW:fG
 FC:oM
def qO (p:Cw):List b9:=[.ax .i64 p.ady, .ax .i64 p.aqT, .ax .i64 p.xw, .ax .i64 p.aqU, .ax .i64 p.KW.gD, .cp p.KW.fR, .cp p.KW.kE, .cp p.KW.lS, .ax .i64 p.KW.g7,
 .ax .i64 p.FC.qc, .cp p.FC.BK,gE 1 nk p.FC.nS, .ax .i64 p.FC.qd,gE 2 kL p.FC.qH]
def Ou (p:Cw):b9:= .eN (qO p)
theorem aqW (a b:Int):er prog 54 [.ax .i64 a, .ax .i64 b] (.ax .i64 (if a<b then -1 else if b<a then 1 else 0)):=by
 have n:∀ z:Int,er prog 110 [.ax .i64 z] (.eD false):=λz=>by
  refine fS func110 ?_
  conv=>whnf
  simp
 have c:=n a;have d:=n b;refine fS func54 ?_;refine cx ?_;refine ⟨λh=>?_,λh=>?_⟩
 .conv=>whnf
  simp_all
 .have h:=ag h
  conv=>whnf
  refine ⟨λg=>?_,λg=>?_⟩
  .conv=>whnf
   simp_all
  .conv=>whnf
   grind
theorem aqX (p q:Cw):er prog 53 [Ou p,Ou q] (.ax .i64 (if p.xw<q.xw then -1 else if q.xw<p.xw then 1 else 0)):=by
 have h:=aqW p.xw q.xw;generalize (if p.xw<q.xw then (-1:Int) else if q.xw<p.xw then 1 else 0)=z at*;refine ic func53 ?_;exact fu
theorem aqV (a:oM) (h:a.nS.al.length<=1048576) (b:a.qH.al.length<=1048576):er prog 51 [Hc a] (Hc a):=by
 have S:=MW a.nS.gg (a.nS.al.map nk) Rw (by simp_all);have E:=QX a.qH.gg (a.qH.al.map kL) Rw (by simp_all);refine ic func51 ?_;exact fu
def Tz (E:List Cw):Prop:=∀ (k:Nat) (h:k+1<E.length),¬(E[k+1].xw<E[k].xw)
theorem adz {E:List Cw} {k:Nat} (h:k<E.length):(E.map qO)[k]? =some (qO E[k]):=by
 simp_all
theorem aqZ (n:Bool) (E:List Cw) (f:Tz E) (d:0<E.length) (o:E.length<=1000):
  er prog 180 [.a8 n 14 (E.map qO) .dm, .ax .i64 0, .ax .i64 E.length, .eW 53 [] []] (.dn []):=by
 refine fS func180 ?_
 conv=>whnf
 refine iE.gY (λk:Nat=>[(.ct 0, .bg (.a8 n 14 (E.map qO) .dm)),(.ct 1, .bg (.ax .i64 0)),(.ct 2, .bg (.ax .i64 E.length)),(.ct 3, .bg (.eW 53 [] [])),(.ct 8, .bg (.ax .i64 (k+1:Nat)))]) 0
  (λk=>k<E.length) (λk=>E.length - k) dd 0 d ⟨rfl,rfl,rfl,rfl,rfl,rfl,rfl,rfl,rfl,rfl,trivial⟩ ?_
 intro k j;refine gk ?_;refine ⟨λh=>?_,λh=>?_⟩
 .have h:=ah h;have l:k+1<E.length:=om;have i:=adz l;have g:=adz j;have c:=aqX E[k+1] E[k];have e:=f k l;rw [ai e] at c;obtain ⟨z,p,c⟩:∃ z:Int,0<=z/\er prog 53 [Ou E[k+1],Ou E[k]] (.ax .i64 z):=⟨_,by split<;>decide,c⟩;have m:IntKind.i64.wrap (((k+1:Nat):Int)+1)=((k+1+1:Nat):Int):=by grind [fq]
  have w:IntKind.i64.wrap (((k+1:Nat):Int) - 1)=(k:Int):=by grind [fq]
  conv=>whnf
  refine iE.gY (X:=Unit) (λ_=>[(.ct 0, .bg (.a8 n 14 (E.map qO) .dm)),(.ct 1, .bg (.ax .i64 0)),(.ct 2, .bg (.ax .i64 E.length)),(.ct 3, .bg (.eW 53 [] [])),(.ct 8, .bg (.ax .i64 (k+1:Nat))),(.ct 9, .bg (.ax .i64 (k+1:Nat)))]) 0
   (λ_=>True) (λ_=>0) dd () trivial ⟨rfl,rfl,rfl,rfl,rfl,rfl,rfl,rfl,rfl,rfl,rfl,rfl,trivial⟩ ?_
  intro _ _;refine gk ?_;refine GC om ?_;refine cx ?_;refine ⟨_,⟨by rw [w];omega,(by rw [w,aC];exact g)⟩,?_⟩;generalize E[k+1]=a at*;generalize E[k]=b at*;refine cx ?_;refine kD om ?_
  conv=>whnf
  refine ⟨k+1,l,by grind,⟨rfl,rfl,rfl,rfl,rfl,rfl,rfl,rfl,?_,rfl,ae⟩⟩;exact congrArg (λv=>gC.bg (.ax .i64 v)) m
 .conv=>whnf
theorem aq0 (n:Bool) (E:List Cw) (b:Tz E) (a:0<E.length) (l:E.length<=19):
  er prog 52 [.a8 n 14 (E.map qO) .dm, .eW 53 [] []] (.dn []):=by
 have i:=aqZ n E b a om;have h:(E.map qO).length=E.length:=ap _;have s:er prog 109 [.a8 n 14 (E.map qO) .dm, .ax .i64 E.length, .eW 53 [] []] (.dn []):=by
  refine fS func109 ?_
  conv=>whnf
  refine iE.gY (X:=Unit) (λ_=>[(.ct 0, .bg (.a8 n 14 (E.map qO) .dm)),(.ct 1, .bg (.ax .i64 E.length)),(.ct 2, .bg (.eW 53 [] [])),(.ct 6, .bg (.ax .i64 20)),(.ct 7, .bg (.ax .i64 0)),(.ct 8, .bg (.ax .i64 20))]) 0
   (λ_=>True) (λ_=>0) dd () trivial ⟨rfl,rfl,rfl,rfl,rfl,rfl,rfl,rfl,rfl,rfl,rfl,rfl,trivial⟩ ?_
  intro _ _;refine gk ?_;refine kD om ?_;refine cx ?_;refine iE.gY (X:=Unit) (λ_=>[(.ct 1, .bg (.ax .i64 E.length)),(.ct 6, .bg (.ax .i64 20))]) 0
   (λ_=>True) (λ_=>0) dd () trivial ⟨rfl,rfl,rfl,rfl,trivial⟩ ?_
  intro _ _;refine gk ?_;refine kD om ?_
  conv=>whnf
 refine ic func52 ?_
 conv=>whnf
 rw [h];exact fu
def tY (i:Nat) (t:ft):Cw:=⟨i,t.Mv,t.kf,if t.gS=true then t.nu else 0,t.fx,t.gu⟩
theorem aqY (x:fb) (j:∀ t∈x.bf.al,t.g8=true) (E:Tz (x.bf.al.mapIdx tY)) (o:0<x.bf.al.length) (s:x.bf.al.length<=19)
  (i:∀ t∈x.bf.al,t.gu.nS.al.length<=1048576/\t.gu.qH.al.length<=1048576):
  er prog 26 [pU x] (.a8 false 14 ((x.bf.al.mapIdx tY).map qO) .dm):=by
 have d:(x.bf.al.map gx).length=x.bf.al.length:=ap _;refine ic func26 ?_
 conv=>whnf
 refine iE.CI 3 98 14 rfl rfl (.inr rfl) ?_;have f:∀ k,k<=x.bf.al.length->(((x.bf.al.take k).mapIdx tY).map qO).length=k:=λk g=>by
  simp_all
 refine iE.gY (X:=Nat) (λk=>[(.ct 1, .bg (.c8 0 0)),(.ct 3, .bg (.a8 (decide (k=0)) 14 (((x.bf.al.take k).mapIdx tY).map qO) (.je 7))),(.eT 7, .eU 98 14 k),(.ct 9, .bg (.ax .i64 x.bf.al.length)),(.ct 10, .bg (.ax .i64 k)),(.ay 0, .dc 41 (Ha x))]) 8
  (λk=>k<=x.bf.al.length) (λk=>x.bf.al.length - k) dd 0 (ar _) ⟨rfl,rfl,rfl,rfl,rfl,rfl,?_,af⟩ ?_
 .show gC.bg (b9.ax .i64 ((x.bf.al.map gx).length:Nat))=_;rw [d]
 intro k g;have a:=f k g;refine gk ?_;refine ab (λh=>?_) λh=>?_
 .have l:k<x.bf.al.length:=om;have r:(x.bf.al.map gx)[k]? =some (gx x.bf.al[k]):=by simp_all
  have e:=j _ (aI l);have n:=i _ (aI l);have A:=aqV x.bf.al[k].gu n.1 n.2;have c:((x.bf.al.take (k+1)).mapIdx tY).map qO=((x.bf.al.take k).mapIdx tY).map qO++[qO (tY k x.bf.al[k])]:=by
   grind [List.take_succ_eq_append_getElem]
  have w:IntKind.i64.wrap ((k:Int)+1)=((k+1:Nat):Int):=by grind [fq]
  generalize x.bf.al[k]=t at*;refine cx ?_;refine ⟨λq=>absurd q (by rw [e];decide),λ_=>?_⟩
  conv=>whnf
  refine ⟨λm=>?_,λm=>?_⟩
  .refine cx ?_;refine ⟨⟨a.symm,ji (by grind) dd⟩,?_⟩
   conv=>whnf
   refine ⟨eI,?_⟩
   conv=>whnf
   refine ⟨k+1,l,by grind,⟨rfl,rfl,?_,rfl,?_,rfl,rfl,rfl,?_,af⟩⟩
   .show gC.bg (b9.a8 (decide (k=0) && false) 14 _ _)=gC.bg (b9.a8 (decide (k+1=0)) 14 _ _);have b:tY k t=⟨k,t.Mv,t.kf,0,t.fx,t.gu⟩:=by grind [tY]
    rw [cf,aJ (p:=k+1=0) om,c,b];rfl
   .show gC.eU _ 14 ((((x.bf.al.take k).mapIdx tY).map qO).length+1)=gC.eU _ 14 (k+1);rw [a]
   .exact congrArg (λv=>gC.bg (.ax .i64 v)) w
  .refine cx ?_;refine ⟨⟨a.symm,ji (by grind) dd⟩,?_⟩
   conv=>whnf
   refine ⟨eI,?_⟩
   conv=>whnf
   refine ⟨k+1,l,by grind,⟨rfl,rfl,?_,rfl,?_,rfl,rfl,rfl,?_,af⟩⟩
   .show gC.bg (b9.a8 (decide (k=0) && false) 14 _ _)=gC.bg (b9.a8 (decide (k+1=0)) 14 _ _);have b:tY k t=⟨k,t.Mv,t.kf,t.nu,t.fx,t.gu⟩:=by grind [tY]
    rw [cf,aJ (p:=k+1=0) om,c,b];rfl
   .show gC.eU _ 14 ((((x.bf.al.take k).mapIdx tY).map qO).length+1)=gC.eU _ 14 (k+1);rw [a]
   .exact congrArg (λv=>gC.bg (.ax .i64 v)) w
 .obtain rfl:k=x.bf.al.length:=om;rw [aN];have S:=aq0 false (x.bf.al.mapIdx tY) E (by simp_all) (by simp_all);rw [aJ om];exact fu
theorem aq3 (x0 b c d e x a:iQ) (n m f o g:Int) (r p s:Cw) (i:jG) (w:p.ady=1) (u:p.FC.nS.al.length=1) (hp:i.fM=[47,97])
  (N:er prog 7 [.ax .i64 1, .ax .i64 60] (.dn [nA x0, .ax .i64 0]))
  (S:er prog 15 [nA x0,yc ⟨2,[47,97],[],[],0⟩] (.dn [nA b, .ax .i64 n, .ax .i64 0]))
  (k:er prog 15 [nA b,yc ⟨7,[47],[],[],0⟩] (.dn [nA c, .ax .i64 m, .ax .i64 f]))
  (Q:er prog 14 [nA c, .ax .i64 0] (nA d))
  (l:er prog 15 [nA d,yc ⟨12,[],[],[],0⟩] (.dn [nA e, .ax .i64 o, .ax .i64 g]))
  (j:er prog 14 [nA e, .ax .i64 0] (nA x))
  (t:er prog 25 [nA x, .cp []] (.dn [nA a, .ax .i64 0]))
  (H:er prog 26 [pU x.eG] (.a8 false 14 [qO r,qO p,qO s] .dm))
  (I:er prog 23 [.a8 a.eG.ep.cy.ec.gg 8 (ib a.eG.ep.cy.ec.al) .dm, .ax .i64 0] (.a8 false 3 [JI i] .dm))
  (D:er prog 27 [pU x.eG] (.eD true)):er prog 6 [] (.eD true):=by
 have h:(p.FC.nS.al.map nk).length=1:=by simp_all
 refine ic func6 ?_;refine gI ?_;refine ⟨_,⟨dd,rfl⟩,?_⟩
 conv=>whnf
 refine ⟨λ_=>?_,λq=>absurd (ag q) (by rw [h];decide)⟩
 conv=>whnf
 refine ⟨_,⟨dd,rfl⟩,?_⟩
 conv=>whnf
 refine ⟨λ_=>?_,λq=>absurd (ag q) (by rw [w];decide)⟩
 conv=>whnf
 refine ⟨_,⟨dd,rfl⟩,?_⟩
 conv=>whnf
 refine ⟨λ_=>?_,λq=>absurd (ag q) (by rw [hp];decide)⟩;exact fu
theorem aq4 {α c:Type} {f:α->c} {l:List α} {b:c} (h:l.map f=[b]):∃ a,l=[a]/\f a=b:=by
 simp_all
theorem aq5 {α:Type} {l:List α} (h:l.length=3):∃ a b c,l=[a,b,c]:=by
 match l,h with
 |[a,b,c],_=>simp_all
theorem aq1 (x0:iQ×Int) (e b c:iQ×Int×Int) (p x:iQ) (f:iQ×Int)
  (J:tU 1 60=x0) (K:mz x0.1 ⟨2,[47,97],[],[],0⟩=e) (L:mz e.1 ⟨7,[47],[],[],0⟩=b) (O:sQ b.1 0=p)
  (P:mz p ⟨12,[],[],[],0⟩=c) (R:sQ c.1 0=x) (U:zA x []=f)
  (A:iJ 0 x0.1) (B:iJ 1 e.1) (k2:iJ 2 b.1) (E:iJ 362 p) (k4:iJ 363 c.1) (k5:iJ 1173 x) (k6:iJ 1173 f.1)
  (hf:x0.2=0/\e.2.2=0/\b.1.eG.bf.al.length=2/\c.1.eG.bf.al.length=3/\x.eG.bf.al.length=3/\
  (x.eG.bf.al.all λt=>t.g8 && (decide (t.gu.nS.al.length<=1000) && decide (t.gu.qH.al.length<=1000)))=true/\
  ((x.eG.bf.al.map (·.kf))[0]?.getD 0<=(x.eG.bf.al.map (·.kf))[1]?.getD 0)/\((x.eG.bf.al.map (·.kf))[1]?.getD 0<=(x.eG.bf.al.map (·.kf))[2]?.getD 0)/\
  (x.eG.bf.al.map λt=>t.gu.nS.al.length)[1]? =some 1/\vL x.eG=true/\f.2=0/\(jo f.1.eG.ep.cy.ec.al 0).map (·.fM)=[[47,97]]):
  er prog 6 [] (.eD true):=by
 obtain ⟨W,X,Y,Z,q,l,m,g,w,fd,fe,fp⟩:=hf;have s:∀ {T:Nat} {d:iQ},iJ T d->T<=900000->d.eG.bf.al.length<=1000/\0<=d.eG.eZ/\d.eG.eZ<1000000:=λh _=>by
  grind [h.kO.lm.pD,h.kO.tL]
 have N:=S0 1 60;rw [J,W] at N;have S:=KF x0.1 ⟨2,[47,97],[],[],0⟩ (s A dd).1 (s A dd).2;rw [K,X] at S;have j:=KF e.1 ⟨7,[47],[],[],0⟩ (s B dd).1 (s B dd).2;rw [L] at j;have Q:=N2 b.1 k2 0 dd (by rw [Y];decide);rw [O] at Q;have o:=KF p ⟨12,[],[],[],0⟩ (s E dd).1 (s E dd).2;rw [P] at o;have i:=N2 c.1 k4 0 dd (by rw [Z];decide);rw [R] at i;have y:=abU x k5 [] dd;rw [U,fe] at y;have D:=Zj x.eG (by rw [q];decide);rw [fd] at D;have n:=AF k6.kO.kI.lq;have z:=MK f.1.eG.ep.cy.ec.gg f.1.eG.ep.cy.ec.al 0 n.xc (by have:=n.B3;omega) n.Hr;have r:=λt a=>bi.1 l t a
 obtain ⟨t0,F,t2,a⟩:=aq5 q;rw [a] at w m g;have H:=aqY x.eG (λt a=>(Bool.and_eq_true_iff.1 (r t a)).1) (by
   rw [a];intro k v;have v:k+1<3:=v
   match k,v with
   |0,_=>exact Int.not_lt.2 m
   |1,_=>exact Int.not_lt.2 g) (by rw [q];decide) (by rw [q];decide) (λt a=>by
   grind)
 obtain ⟨it,I,u⟩:=aq4 fp;rw [I] at z;rw [a] at H;exact aq3 x0.1 e.1 b.1 p c.1 x f.1 e.2.1 b.2.1 b.2.2 c.2.1 c.2.2 (tY 0 t0) (tY 1 F) (tY 2 t2) it rfl (show F.gu.nS.al.length=1 by simpa using w) u N S j Q o i y H z D
theorem aq2:er prog 6 [] (.eD true):=
 aq1 KX KY KZ K0 Ov yy K1 rfl rfl rfl rfl rfl rfl rfl TA TB TC TD TE TF adA K2
theorem aq6 {T:Nat} {d:iQ} (h:iJ T d):(jo d.eG.ep.cy.ec.al 0).length<=200/\∀ i∈jo d.eG.ep.cy.ec.al 0,i.fM.length<=1048576/\jv i.iM:=by
 have e:=AF h.kO.kI.lq;have g:=e.B3;have k:∀ (f:Nat) (o:List Int) (r:Int) (p:List UInt8),∀ i∈mL d.eG.ep.cy.ec.al o f r p,i.fM.length<=p.length+1001*f/\jv i.iM:=by
  intro f
  induction f with
  |zero=>exact λ_ _ _ i a=>by cases a
  |succ f j=>
   intro o r p i a;obtain ⟨s,_,b⟩:=List.mem_flatMap.1 a;unfold tl at b;split at b
   .cases b
   .rename_i n c;have q:=e.Hr n (x3 c).1;rw [(x3 c).2.2.1] at q;have l:(rG p s).length<=p.length+1001:=by
     unfold rG;rw [au,au];show p.length+1+_<=_;omega
    obtain rfl|b:=aK.1 b
    .exact ⟨av l om,e.xc n (x3 c).1⟩
    .split at b
     .have:=j _ _ _ i b;exact ⟨om,this.2⟩
     .cases b
 refine ⟨av (abZ h.kO.kI.lq.qK.zc h.kO.kI.lq.SD) g,λi a=>?_⟩;unfold jo at a;split at a
 .have:=k _ _ _ _ i a;have m:([]:List UInt8).length=0:=rfl;exact ⟨om,this.2⟩
 .cases a
theorem aq7 (z:Int) (hz:0<=z/\z<=255) (O P:Bool) (k l:List my) (hkl:k.length<=9223372036854775807) (hll:l.length<=9223372036854775807):er prog 4 [.ax .u8 z, .a8 O 8 (xo k) .dm, .a8 P 8 (xo l) .dm] (.eD true):=by
 have hFk:=S3 O k hkl;have hFl:=S3 P l hll;have hN:=S0 1 z;have hno:= @NS 1 z om;have w:=λh1 h2=> @aqR z om k l h1 h2
 have wz:IntKind.i64.wrap z=z:=fq om om;generalize tU 1 z=y at*;obtain ⟨d,e⟩:=y;dsimp only at*;refine ic func4 ?_
 conv=>whnf
 refine fF.kc aq2 rfl ?_;refine cx ?_;rw [wz];refine cx ?_;cases hfk:Ia k with
 |false=>
  refine kw ?_;exact mR.fC _
 |true=>
  refine cx ?_;cases hfl:Ia l with
  |false=>
   exact fu
  |true=>
   refine cx ?_;refine ⟨λhe=>?_,λhe=>?_⟩
   .exact fu
   .have he:e=0:=by simpa using he
    obtain ⟨hk80,hko⟩:=S4 hfk;obtain ⟨hl80,hlo⟩:=S4 hfl;have b:=hno he;have hA:=abX O k d b hko om;have ha:=NR k b hko;have w:= @w hko he;generalize rm d k=D at*;have ht:=ha.kO.lm.pD;generalize K:D.eG.bf.al.length=nt at*;have hQ:=N2 D ha 0 om (by rw [K];have:=dQ (cz 45 ht) ht;omega);have B:iJ 144160 (sQ D 0):=(Ow ha 0).rZ (by rw [K];have:=dQ (cz 45 ht) ht;omega);generalize sQ D 0=j at*;have hcl:(j.eG.bf.al.map gx).length=j.eG.bf.al.length:=ap _;refine cx ?_;refine ⟨λY=>?_,λY=>?_⟩
    .exact fu
    .have Y:=ag Y;have p:j.eG.bf.al.length<30:=om;have w:= @w j;have hI:=abY j B;have ht1:=B.kO.lm.pD;have hti:=B.kO.tL;have hS:er prog 15 [nA j, .eN [.ax .i64 8, .cp [], .cp [], .cp [], .ax .i64 0]] (.dn [nA (mz j nD).1, .ax .i64 (mz j nD).2.1, .ax .i64 (mz j nD).2.2]):=KF j nD om om;obtain ⟨hil,hip⟩:=aq6 B;have hso:=H4 B nD dd dd dd;have Q:(mz j nD).1.eG.bf.al.length<=30:=by
      unfold mz pC;rw [ai om];show (j.eG.bf.al++[_]).length<=30;rw [au];show j.eG.bf.al.length+1<=30;omega
     generalize jo j.eG.ep.cy.ec.al 0=I at*;generalize mz j nD=y at*;obtain ⟨S,n,e3⟩:=y;dsimp only at*;generalize K:S.eG.bf.al.length=ns at*;have hQ:=N2 S hso 0 om (by rw [K];have:=dQ (cz 45 Q) Q;omega);have hd2:iJ 225161 (sQ S 0):=(Ow hso 0).rZ (by rw [K];have:=dQ (cz 45 Q) Q;omega);generalize sQ S 0=T at*;clear hso;obtain ⟨rfl,t,ht,L,f⟩:=w rfl p rfl;refine cx ?_;clear hA hQ hS hN hFk hFl;have hcl2:(T.eG.bf.al.map gx).length=T.eG.bf.al.length:=ap _;have hlt2:j.eG.bf.al.length<T.eG.bf.al.length:=(aB.1 ht).1;have hgt:(T.eG.bf.al.map gx)[((j.eG.bf.al.length:Int)).toNat]? =some (gx t):=by
      rw [aC,bU,ht];rfl
     refine kD om ?_;refine cx ?_;refine ⟨λE=>?_,λE=>?_⟩
     .have h8:=L (by simpa using E);clear w f;have h8m:(T.eG.ep.iq.al.map mw).length=8:=by rw [ap,h8]
      refine cx ?_;rw [h8m];exact mR.fC _
     .have f:=f (by simpa using E);clear w L hgt;obtain ⟨b,hh⟩:∃ b,t.gu.qd=b:=⟨_,rfl⟩;obtain ⟨F,hF⟩:∃ F,rm T (l.filter yx)=F:=⟨_,rfl⟩;rw [hh,hF] at f;refine cx ?_;refine iE.gY (X:=Nat×iQ) (λy=>[(.ct 2, .bg (.a8 P 8 (xo l) .dm)),(.ct 7, .bg (.eD true)),(.ct 8, .bg (.c8 7 0)),(.ct 10, .bg (.a8 (decide (I=[])) 3 (mv I) .dm)),(.ct 14, .bg (.ax .i64 b)),(.ct 15, .bg (.ax .i64 y.1)),(.ay 7, .dc 49 (Cq y.2))]) 37
       (λy=>y.1<=l.length/\iJ (225161+2*y.1) y.2/\rm y.2 ((l.drop y.1).filter yx)=F) (λy=>l.length - y.1) dd (0,T) ⟨ar _,hd2,hF⟩ ⟨rfl,rfl,rfl,rfl,rfl,rfl,rfl,rfl,?_,af⟩ ?_
      .exact congrArg (λv=>gC.bg (.ax .i64 v)) hh
      rintro ⟨k,D⟩ ⟨hk,hD,q⟩;dsimp only at hk hD q ⊢;refine gk ?_;rw [S2];refine ab (λh=>?_) λh=>?_
      .have p:k<l.length:=om;have hg:=S1 p;have s:=aY p;have hoo:=hlo l[k] (aI p);rw [s,List.filter_cons] at q;generalize l[k]=o at*;have hdo:=abW D hD o om hoo.aaX;have hok:=Kx hD hoo;have wk:IntKind.i64.wrap ((k:Int)+1)=((k+1:Nat):Int):=by grind [fq]
       refine cx ?_;refine ⟨λZ=>?_,λZ=>?_⟩
       .have Z:o.vj≠4:=by simpa using Z
        refine cx ?_;refine ⟨λh9=>?_,λh9=>?_⟩
        .have h9:o.nn.gD≠9:=by simpa using h9
         rw [ak (by simp [yx,Z,h9])] at q;have q:rm (rn D o).1 _=F:=q;generalize rn D o=z at*;obtain ⟨e1,e2⟩:=z;dsimp only at*
         conv=>whnf
         refine ⟨_,⟨om,hg⟩,?_⟩
         conv=>whnf
         refine ⟨_,rfl,hdo,?_⟩
         conv=>whnf
         refine ⟨eI,?_⟩
         conv=>whnf
         refine ⟨(k+1,e1),⟨om,hok.rZ om,q⟩,by grind,⟨rfl,rfl,rfl,rfl,rfl,rfl,rfl,rfl,rfl,rfl,?_,af⟩⟩;exact congrArg (λv=>gC.bg (.ax .i64 v)) wk
        .have h9:o.nn.gD=9:=by simpa using h9
         rw [ai (by simp [yx,h9])] at q;refine kw ?_;refine ⟨(k+1,D),⟨om,hD.rZ om,q⟩,by grind,⟨rfl,rfl,rfl,rfl,rfl,rfl,rfl,rfl,rfl,rfl,?_,af⟩⟩;exact congrArg (λv=>gC.bg (.ax .i64 v)) wk
       .have Z:o.vj=4:=by simpa using Z
        rw [ai (by simp [yx,Z])] at q;refine kw ?_;refine ⟨(k+1,D),⟨om,hD.rZ om,q⟩,by grind,⟨rfl,rfl,rfl,rfl,rfl,rfl,rfl,rfl,rfl,rfl,?_,af⟩⟩;exact congrArg (λv=>gC.bg (.ax .i64 v)) wk
      .obtain rfl:k=l.length:=om;rw [cR] at q;have q:D=F:=q;subst q;clear hlo hfl hfk;have hx:=hD.kO;have hm:=λc h1 h2 h3=>YY D.eG.ep c (Z2 hx.kI om) h1 h2 h3
       conv=>whnf
       have hel:=EJ I;refine iE.gY (X:=Nat) (λi=>[(.ct 7, .bg (.eD true)),(.ct 8, .bg (.c8 7 0)),(.ct 10, .bg (.a8 (decide (I=[])) 3 (mv I) .dm)),(.ct 14, .bg (.ax .i64 b)),(.ct 18, .bg (.ax .i64 i)),(.ay 7, .dc 49 (Cq D))]) 37
        (λi=>i<=I.length) (λi=>I.length - i) dd 0 (Nat.zero_le _) ⟨rfl,rfl,rfl,rfl,rfl,rfl,rfl,rfl,rfl,rfl,rfl,rfl,trivial⟩ ?_
       intro i hi;refine gk ?_;rw [hel];refine ⟨λh=>?_,λh=>?_⟩
       .have h:=ah h;have p:i<I.length:=om;have H:=BV p;have J:=aI p;obtain ⟨hpl,hid⟩:=hip _ J;have R:=f _ J;have hbe:=aqS (decide (I=[])) I I[i].fM om (hip _ J).1 λx hx=>(hip x hx).1
        have wi:IntKind.i64.wrap ((i:Int)+1)=((i+1:Nat):Int):=by grind [fq]
        generalize I[i]=g at*;have s:=w7 g.iM hid;have a:=QN (qq b g) hpl (ar _);have u:=hm (qq b g) hpl (ar _) (ar _);cases r:iy g.iM with
        |false=>
         have A:qq b g=⟨4,g.fM,[],[],b⟩:=by
          unfold qq;rw [r];rfl
         rw [A] at a u R;rw [r] at s;generalize gA D.eG.ep ⟨4,g.fM,[],[],b⟩=y at*;obtain ⟨m,⟨r1,U,N,nn1,W⟩,o1⟩:=y;dsimp only at*;have a:er prog 17 [.eN [.ax .i64 4, .cp g.fM, .cp [], .cp [], .ax .i64 b]] (.eD (uj ⟨4,g.fM,[],[],b⟩)):=a;have u:er prog 18 [ye D.eG.ep, .eN [.ax .i64 4, .cp g.fM, .cp [], .cp [], .ax .i64 b]] (.dn [ye m,Hc ⟨r1,U,N,nn1,W⟩,gE 7 gV o1]):=u;cases hc:uj ⟨4,g.fM,[],[],b⟩ with
         |false=>
          rw [hc] at a
          conv=>whnf
          refine ⟨_,⟨om,H⟩,?_⟩
          conv=>whnf
          refine ⟨_,⟨om,H⟩,?_⟩
          conv=>whnf
          refine fF.kc s rfl ?_
          conv=>whnf
          refine kw ?_;refine fF.kc a rfl ?_;refine kw ?_;refine ⟨i+1,om,(by show I.length - (i+1)<I.length - i;omega),rfl,rfl,rfl,rfl,rfl,rfl,rfl,rfl,?_,af⟩;exact congrArg (λv=>gC.bg (.ax .i64 v)) wi
         |true=>
          rw [hc] at a;obtain ⟨rfl,t2,_⟩:=R hc;obtain rfl:=t2 r;refine cx ?_;refine ⟨λh=>absurd h (by simp),λ_=>?_⟩;refine gI ?_;refine ⟨λh=>absurd h (by simp),λ_=>?_⟩;refine kw ?_;refine ⟨eI,?_⟩;refine kw ?_;refine ⟨i+1,om,(by show I.length - (i+1)<I.length - i;omega),rfl,rfl,rfl,rfl,rfl,rfl,rfl,rfl,?_,af⟩;exact congrArg (λv=>gC.bg (.ax .i64 v)) wi
        |true=>
         have A:qq b g=⟨7,g.fM,[],[],b⟩:=by
          unfold qq;rw [r];rfl
         rw [A] at a u R;rw [r] at s;generalize gA D.eG.ep ⟨7,g.fM,[],[],b⟩=y at*;obtain ⟨m,⟨r1,U,N,nn1,W⟩,o1⟩:=y;dsimp only at*;have a:er prog 17 [.eN [.ax .i64 7, .cp g.fM, .cp [], .cp [], .ax .i64 b]] (.eD (uj ⟨7,g.fM,[],[],b⟩)):=a;have u:er prog 18 [ye D.eG.ep, .eN [.ax .i64 7, .cp g.fM, .cp [], .cp [], .ax .i64 b]] (.dn [ye m,Hc ⟨r1,U,N,nn1,W⟩,gE 7 gV o1]):=u;cases hc:uj ⟨7,g.fM,[],[],b⟩ with
         |false=>
          rw [hc] at a
          conv=>whnf
          refine ⟨_,⟨om,H⟩,?_⟩
          conv=>whnf
          refine ⟨_,⟨om,H⟩,?_⟩
          conv=>whnf
          refine fF.kc s rfl ?_;refine kw ?_;refine fF.kc a rfl ?_;refine kw ?_;refine ⟨i+1,om,(by show I.length - (i+1)<I.length - i;omega),rfl,rfl,rfl,rfl,rfl,rfl,rfl,rfl,?_,af⟩;exact congrArg (λv=>gC.bg (.ax .i64 v)) wi
         |true=>
          rw [hc] at a;obtain ⟨rfl,_,t3⟩:=R hc;have t3:=t3 r;have hnl:(N.al.map nk).length=N.al.length:=ap _;refine cx ?_;refine ⟨λh=>absurd h (by simp),λ_=>?_⟩;refine gI ?_;refine ⟨λh=>?_,λh=>?_⟩
          all_goals
           refine kw ?_;refine ⟨_,⟨om,H⟩,?_⟩
           conv=>whnf
           refine ⟨_,rfl,hbe,?_⟩
           conv=>whnf
           rw [hnl,t3];refine kw ?_;refine ⟨eI,?_⟩
           conv=>whnf
           refine ⟨λh=>absurd h (by simp),λ_=>?_⟩;refine kw ?_;refine ⟨i+1,om,(by show I.length - (i+1)<I.length - i;omega),rfl,rfl,rfl,rfl,rfl,rfl,rfl,rfl,?_,af⟩;exact congrArg (λv=>gC.bg (.ax .i64 v)) wi
       .exact fu
end Go.Proofs.YtffboamedcmpaaaGreatDoor
