import Derived.ScopeJumps
import Derived.Deep.RegionWith
import Derived.Test.YtffboamedcmpaaaGreatDoorAr
set_option linter.all false
set_option maxHeartbeats 4000000
set_option maxRecDepth 100000
namespace Gw
structure pk where
 iu:kJ
 xm:Bool
 v8:Bool
structure iQ where
 eG:fb
 pj:pk
 Cj:Int
def anw:pk:=⟨H0,true,true⟩
def Dx:iQ:=⟨Qp,anw,0⟩
def Ck (b:pk) (o:e7):pk×Int:=
 if g4 o=false then (b,50)
 else if 40000<(jD o).length\/1000000<b.iu.hZ then (b,130)
 else (⟨(sO b.iu (jD o)).1,b.xm,false⟩,0)
def Dz:pk->List e7->pk
 |b,[]=>b
 |b,o::l=>match Ck b o with
  |(a,e)=>if e≠0 then a else Dz a l
def Dy (l:List e7):List UInt8:=l.flatMap jD
def xn (b:pk) (l:List e7):pk×Int:=
 if l.all g4=false then (b,50)
 else if b.iu.lD=0/\b.iu.im<200/\40000<(lE b.iu.hZ (Dy l)).length then (b,130)
 else match nL b.iu (Dy l) with
  |(w,e)=>if e≠0 then (b,e) else match qN (oB w) with
   |(w',a)=>if a≠0 then (b,a) else (⟨w',false,b.v8⟩,0)
def Dw (b:pk) (l:List e7):pk×Int:=match ol b.iu with
 |(w,e)=>if e≠0 then xn b l else (⟨oB w,true,if b.iu.gM=[] then b.v8 else true⟩,0)
def tU (replica size:Int):iQ×Int:=match nJ replica with
 |(c,e)=>if e≠0 then (Dx,e) else match tR size with
  |(w,a)=>if a≠0 then (Dx,a) else (⟨c,⟨w,true,true⟩,0⟩,0)
def mz (d:iQ) (c:fG):iQ×Int×Int:=match pC d.eG c with
 |(x,n,e)=>if e≠0 then (d,0,e) else ({d with eG:=x},n,0)
def SB (s:Int) (l:List e7):List e7:=l.drop (min (max s 0) l.length).toNat
def rY (d:iQ) (p:Int):iQ:=match pB d.eG p with
 |none=>d
 |some (_,true)=>match Dw d.pj d.eG.eL.al with
  |(b,e)=>⟨nN d.eG p (decide (e≠0)),b,d.Cj⟩
 |some (_,false)=>
  ⟨nN d.eG p false,Dz d.pj (SB d.Cj (nN d.eG p false).eL.al),(nN d.eG p false).eL.al.length⟩
def zB (d:iQ):iQ×Int:=match xn d.pj d.eG.eL.al with
 |(b,e)=>if e≠0 then (d,e) else ({d with pj:=b},0)
def AU:List (List UInt8)->List e7->Option (List e7)
 |[],acc=>some acc
 |r::l,acc=>match pb r with
  |some (o,[])=>AU l (acc++[o])
  |_=>none
def SA (c:fb) (ops:List e7):fb:={c with ep:=Mx c.ep ops,eL:=⟨true,ops⟩,fm:=⟨ops.length,c.fm.iI⟩}
def vk (replica:Int) (d:lb):iQ×Int:=match nJ replica with
 |(c,e)=>if e≠0 then (Dx,e) else if (mY d).Cf≠0 then (Dx,(mY d).Cf) else match ux (mY d).Cg with
  |none=>(Dx,140)
  |some l=>match AU (mY d).ph l with
   |none=>(Dx,140)
   |some ops=>(⟨SA c ops,⟨(mY d).yj,false,true⟩,ops.length⟩,0)
def zA (d:iQ) (p:List UInt8):iQ×Int:=match vk d.eG.ep.ky (nX d.pj.iu.fi (jK p)) with
 |(n,e)=>if e≠0 then (d,e) else (n,0)
structure my where
 vj:Int
 nn:fG
 ym:Int
 Ff:List UInt8
def rn (d:iQ) (o:my):iQ×Int:=
 if o.vj=1 then ((mz d o.nn).1,(mz d o.nn).2.2)
 else if o.vj=2 then (rY d o.ym,0)
 else if o.vj=3 then zB d
 else if o.vj=4 then zA d o.Ff
 else (d,0)
def rm (d:iQ) (l:List my):iQ:=l.foldl (λd o=>(rn d o).1) d
def rX (p:Int):Nat->Nat->iQ->iQ
 |0,_,d=>d
 |k+1,i,d=>if vL d.eG=true then d else rX p k (i+1) (rY d (p+(i % 7:Nat)))
def sQ (d:iQ) (p:Int):iQ:=rX p (45*d.eG.bf.al.length*d.eG.bf.al.length) 0 d
section
theorem aaU (d):(pX d).fN=d.fN:=by grind [pX]
theorem aaV (w):(lV w).fi.fN=w.fi.fN:=by
 grind [lV,aaU]
theorem anA (w p):(sO w p).1.fi=w.fi:=by grind [sO]
theorem anC (w):(ol w).1.fi.fN=w.fi.fN:=by
 grind [ol,Ss,aaV]
theorem aaW (w):(oB w).fi.fN=w.fi.fN:=by
 grind [oB,aaU]
theorem anB (w s):(nL w s).1.fi.fN=w.fi.fN:=by
 grind [nL,Ss,aaV]
theorem anD (w):(qN w).1.fi.fN=w.fi.fN:=by
 grind [qN,Ss]
variable {w:kJ}
theorem SC (h:nm w):(oB w).fi.gT=[]:=by
 have:(oB w).fi=pX w.fi:=by grind [oB]
 grind [pX,h.uK]
end
structure pF (b:pk):Prop where
 Cm:nm b.iu
 H2:b.iu.fi.gT.length<=2000
 H3:b.xm=true->b.iu.fi.gT=[]
 anx:b.v8=true->b.iu.gM=[]
 Kw:b.iu.fi.fN<=255
theorem aaT {b} (h:pF b) (o):pF (Ck b o).1:=by
 unfold Ck;split
 .exact h
 rename_i c;split
 .exact h
 .have d:=anA b.iu (jD o);refine ⟨h.Cm.ank (av (Yw (by simpa using c)) dd),?_,?_,λe=>(by cases e),?_⟩
  .show (sO b.iu _).1.fi.gT.length<=_;rw [d];exact h.H2
  .show b.xm=true->(sO b.iu _).1.fi.gT=[];rw [d];exact h.H3
  .show (sO b.iu _).1.fi.fN<=_;rw [d];exact h.Kw
theorem aaS:∀ (l:List e7) {b:pk},pF b->pF (Dz b l)
 |[],_,h=>h
 |o::l,b,h=>by
  have p:=aaT h o;show pF (match Ck b o with|(a,e)=>if e≠0 then a else Dz a l);generalize Ck b o=y at*;obtain ⟨a,e⟩:=y;dsimp only at*;split
  .exact p
  .exact aaS l p
theorem aaR {b} (h:pF b) (l):pF (xn b l).1:=by
 have m:=anB b.iu (Dy l);have a:=h.Cm.aaE (Dy l);have t:(nL b.iu (Dy l)).2=0->(nL b.iu (Dy l)).1.gM.length<=(nL b.iu (Dy l)).1.rl:=by grind [nL,lV]
 unfold xn;split
 .exact h
 split
 .exact h
 generalize nL b.iu (Dy l)=y at*;obtain ⟨w,e⟩:=y;dsimp only at*;split
 .exact h
 have s:=SC a;have c:=aaW w;have f:=anD (oB w);have o:=a.NJ.ano;have g:=a.NJ.ann;have d:(qN (oB w)).2=0->(qN (oB w)).1.gM=w.gM.drop w.rl:=by grind [qN,oB]
 generalize qN (oB w)=z at*;obtain ⟨i,j⟩:=z;dsimp only at*;split
 .exact h
 refine ⟨g,by simp_all,λq=>(by cases q),λ_=>by simp_all,?_⟩;show i.fi.fN<=_;have:=h.Kw;omega
theorem anz {b} (h:pF b) (l):pF (Dw b l).1:=by
 have z:=h.Kw;have c:=aaR h l;have f:=anC b.iu;have a:=h.Cm.aaF;have t:(ol b.iu).2=0->(ol b.iu).1.gM=[]:=by grind [ol]
 unfold Dw;generalize ol b.iu=y at*;obtain ⟨w,e⟩:=y;dsimp only at*;split
 .exact c
 have s:=SC a;have d:=aaW w;have g:(oB w).gM=w.gM:=by grind [oB]
 refine ⟨a.NJ,by simp_all,λ_=>s,λ_=>by simp_all,?_⟩;show (oB w).fi.fN<=_;omega
theorem anK {g} (h:l8 g) (r:oz (jl g)) (o):oz (jl (jO g o).1)/\∀ p∈jl (jO g o).1,p∈jl g\/(p=o/\g4 o=true):=by
 by_cases a:g4 o=true
 .by_cases b:oy g o.fa=true
  .grind [jO]
  .by_cases c:g.fZ.al.length<200
   .have:=(RP h r a (by simpa using b) c).2;exact ⟨this.Di,λp d=>((this.zi p).1 d).imp id λq=>⟨aw.1 q,a⟩⟩
   grind [jO]
 grind [jO]
def NT (x:li×Int) (o:e7):li×Int:=((jO x.1 o).1,if (jO x.1 o).2≠0 then x.2+1 else x.2)
theorem aa3:∀ (l:List e7) (x:li×Int),l8 x.1->oz (jl x.1)->l8 (l.foldl NT x).1/\oz (jl (l.foldl NT x).1)/\∀ p∈jl (l.foldl NT x).1,p∈jl x.1\/(p∈l/\g4 p=true)
 |[],x,h,r=>⟨h,r,λp f=> .inl f⟩
 |o::l,x,h,r=>by
  obtain ⟨a,b⟩:=anK h r o;obtain ⟨c,d,e⟩:=aa3 l (NT x o) (h.Hl o) a;rw [bw];refine ⟨c,d,λp f=>?_⟩;rcases e p f with q|⟨q,k⟩
  .rcases b p q with q|⟨rfl,k⟩
   .exact .inl q
   simp_all
  simp_all
def Fg (s:Int) (o:e7):Int:=if g4 o=true then ra s o.fa else s
theorem aa4:∀ (l:List e7) (s:Int),s<=l.foldl Fg s/\∀ o∈l,g4 o=true->o.fa.iH<=l.foldl Fg s
 |[],s=>⟨bL _,λo h=>(by cases h)⟩
 |o::l,s=>by
  obtain ⟨a,b⟩:=aa4 l (Fg s o);have c:s<=Fg s o/\(g4 o=true->o.fa.iH<=Fg s o):=by
   unfold Fg;split
   .rename_i d;obtain ⟨q,e⟩:=ZE s o.fa;grind [ZO]
   simp_all
  grind
theorem anL {T:Nat} {m:fX} (h:kM T m) (l:List e7):kM T (Mx m l):=by
 obtain ⟨a,b,c⟩:=aa3 l (m.cy,0) h.lq h.zj;obtain ⟨d,e⟩:=aa4 l m.jk;refine ⟨a,b,λo f=>?_,h.vg,h.AK,h.zk,h.B8,h.zm⟩;show o.fa.iH<=l.foldl Fg m.jk;rcases c o f with q|⟨q,k⟩
 .have:=h.Dj o q;omega
 .exact e o q k
theorem j4.anE {T U x} (h:j4 T x) (k:T<=U):j4 U x:=by
 obtain ⟨d,rfl⟩:=Nat.exists_eq_add_of_le k
 induction d with
 |zero=>exact h
 |succ d i=>exact (i om).vU
structure iJ (T:Nat) (d:iQ):Prop where
 kO:j4 T d.eG
 yn:pF d.pj
theorem iJ.rZ {T U d} (h:iJ T d) (k:T<=U):iJ U d:=⟨h.kO.anE k,h.yn⟩
theorem aa2:∀ (R:List (List UInt8)) {a l:List e7},AU R a=some l->(∀ o∈a,g4 o=true)->(∀ o∈l,g4 o=true)/\l.length=a.length+R.length
 |[],a,l,h,b=>by
  cases h;exact ⟨b,rfl⟩
 |r::R,a,l,h,b=>by
  unfold AU at h;split at h
  .rename_i o t;obtain ⟨c,d⟩:=M6 t;obtain ⟨e,f⟩:=aa2 R h λp g=>by
    grind
   grind
  .cases h
theorem aa1 {b l} (h:ux b=some l):l.length<=b.length/\∀ o∈l,g4 o=true:=by
 obtain ⟨a,c⟩:=YE h;refine ⟨?_,bi.1 a⟩;rw [c];clear h a c
 induction l with
 |nil=>exact aq _
 |cons o l i=>
  grind [List.length_pos_iff,Yv]
theorem anJ {c} (h:j4 0 c) {ops} (l:ops.length<=1300) (a:∀ o∈ops,g4 o=true):j4 0 (SA c ops):=
 ⟨anL h.kI ops,h.lm.Cb rfl rfl,h.uG,h.tL,by show ops.length<=_+1300;omega,a,λ_=>rfl⟩
theorem aaZ {b} (h:pF b) (i) (j:(mY (nX b.iu.fi (jK i))).Cf=0):pF ⟨(mY (nX b.iu.fi (jK i))).yj,false,true⟩/\
  (mY (nX b.iu.fi (jK i))).Cg.length<=1008/\(mY (nX b.iu.fi (jK i))).ph.length<=255/\∀ p∈(mY (nX b.iu.fi (jK i))).ph,p.length<=40000:=by
 obtain ⟨k,l,a⟩:=aaK h.Cm.uK (jK i);have s:=h.Kw;obtain ⟨c,d,m,f,n,o,g⟩:=ant om a j;have e:kB (nX b.iu.fi (jK i))<=63:=by unfold kB;omega
 exact ⟨⟨c,f,λe=>(by cases e),λ_=>d,by show (mY _).yj.fi.fN<=_;omega⟩,om,om,g⟩
theorem aa0 {b} (h:pF b) (r p) (f:(vk r (nX b.iu.fi (jK p))).2=0):iJ 0 (vk r (nX b.iu.fi (jK p))).1:=by
 have g:=aaZ h p;have n:= @R7 r;unfold vk at*;generalize mY (nX b.iu.fi (jK p))=O at*;generalize nJ r=y at*;obtain ⟨c,e⟩:=y;dsimp only at*
 by_cases a:e=0
 .subst a
  by_cases d:O.Cf=0
  .obtain ⟨j,o,q,_⟩:=g d;rw [ai dd,ai (by rw [d];decide)] at f ⊢;cases i:ux O.Cg with
   |none=>simp_all
   |some l=>
    rw [i] at f;obtain ⟨s,k⟩:=aa1 i;cases t:AU O.ph l with
    |none=>simp_all
    |some ops=>
     obtain ⟨m,u⟩:=aa2 O.ph t k;simp only [t];exact ⟨anJ (n rfl) om m,j⟩
  .simp_all
 simp_all
theorem aaY {T d} (h:iJ T d) (p):iJ T (zA d p).1:=by
 have o:=aa0 h.yn d.eG.ep.ky p;unfold zA;generalize vk d.eG.ep.ky (nX d.pj.iu.fi (jK p))=y at*;obtain ⟨n,e⟩:=y;dsimp only at*;split
 .exact h
 .rename_i a;exact (o (by simpa using a)).rZ (ar _)
theorem anI {T d} (h:iJ T d):iJ T (zB d).1:=by
 have a:=aaR h.yn d.eG.eL.al;unfold zB;generalize xn d.pj d.eG.eL.al=y at*;obtain ⟨b,e⟩:=y;dsimp only at*;split
 .exact h
 .exact ⟨h.kO,a⟩
theorem H4 {T d} (h:iJ T d) (c) (a:c.fR.length<=1000) (b:c.kE.length<=1000) (f:c.lS.length<=5000):iJ (T+1) (mz d c).1:=by
 have s:=amh h.kO c a b f;unfold mz;generalize pC d.eG c=y at*;obtain ⟨x,n,e⟩:=y;dsimp only at*;split
 .exact h.rZ (aZ _)
 .exact ⟨s,h.yn⟩
theorem Ky {T d} (h:iJ T d) (p):iJ (T+2) (rY d p):=by
 unfold rY;split
 .exact h.rZ om
 .have k:=anz h.yn d.eG.eL.al;generalize Dw d.pj d.eG.eL.al=y at*;obtain ⟨b,e⟩:=y;exact ⟨R8 h.kO p _,k⟩
 .exact ⟨R8 h.kO p false,aaS _ h.yn⟩
structure wa (o:my):Prop where
 anG:o.nn.fR.length<=1000
 anH:o.nn.kE.length<=1000
 anF:o.nn.lS.length<=5000
 aaX:o.Ff.length<=1000
theorem Kx {T d} (h:iJ T d) {o} (a:wa o):iJ (T+2) (rn d o).1:=by
 unfold rn;split
 .exact (H4 h o.nn a.anG a.anH a.anF).rZ om
 split
 .exact Ky h o.ym
 split
 .exact (anI h).rZ om
 split
 .exact (aaY h o.Ff).rZ om
 .exact h.rZ om
theorem NR:∀ (l:List my) {T:Nat} {d:iQ},iJ T d->(∀ o∈l,wa o)->iJ (T+2*l.length) (rm d l)
 |[],_,_,h,_=>h
 |o::l,T,d,h,a=>by
  have:=NR l (Kx h (a o aP)) λp b=>a p (aQ _ b)
  exact this.rZ (by grind)
theorem NS {r size} (s:size<=255) (h:(tU r size).2=0):iJ 0 (tU r size).1:=by
 have i:= @R7 r;have j:(tR size).2=0->pF ⟨(tR size).1,true,true⟩:=λe=>by
  obtain ⟨k,g,b,l⟩:=anq (size:=size) om e;exact ⟨k,by simp_all,λ_=>l,λ_=>g,by rw [b];omega⟩
 unfold tU at*;generalize nJ r=y at*;obtain ⟨c,e⟩:=y;generalize tR size=z at*;obtain ⟨w,a⟩:=z;dsimp only at*
 by_cases d:e=0
 .subst d;rw [ai dd] at h ⊢
  by_cases f:a=0
  .subst f;rw [ai dd];exact ⟨i rfl,j rfl⟩
  simp_all
 simp_all
theorem ow.aa8 {l outs top ids dir} (h:ow l outs top ids dir):(ids=[]/\dir=top)\/∃ a,ids=a++[dir]:=by
 cases h with
 |rF=>simp_all
 |q9 _ _ _ _=>simp_all
theorem ow.anQ {l} (m:gU l=true) {outs top} (t:jN l top=none) (c:top≠-1) {ids dir} (h:ow l outs top ids dir):∀ f,ids.length<=f->∀ a,ids=a++[dir]->iZ l f dir=a.reverse++[top]:=by
 induction h with
 |rF=>simp_all
 |q9 h q hp u v=>
  rename_i s d n;intro f o a i;rw [au,cQ] at o;obtain ⟨f,rfl⟩:∃ g,f=g+1:=⟨f - 1,om⟩;obtain ⟨i,_⟩:=List.append_inj' i rfl;subst i;have p:n.jj≠-1:=by
   rw [hp];cases h with
   |rF=>exact c
   |q9 _ r _ _=>
    grind [EF,mK]
  have e:iZ l (f+1) n.eM=n.jj::iZ l f n.jj:=by
   rw [iZ,tf m q];simp_all
  rw [e,hp];rcases h.aa8 with ⟨j,k⟩|⟨b,j⟩
  .subst j k;have:iZ l f d=[]:=by
    cases f with
    |zero=>rfl
    |succ f=>rw [iZ,t]
   rw [this];rfl
  simp_all
structure aa5 (l:List eF) (it:jG) (n:eF) (A:List Int):Prop where
 aa7:jN l it.iM=some n
 anM:mT l it.iM=A++[0]
 anP:(A++[0]).head? =some n.jj
 aa6:iy n.jj=true
 anO:it.iM≠0
 anN:∀ a∈A,a≠it.iM/\a≠0
theorem aa9 {l} (c:gU l=true) (p:∀ n∈l,ni n) {i} (D:i<(jo l 0).length):∃ n A,aa5 l (jo l 0)[i] n A:=by
 have r:∀ n∈l,128<=n.eM:=λn L=>by
  grind [EF,mK]
 have j:jN l 0=none:=by
  grind [jN]
 have z:mT l 0=[]:=by
  unfold mT;rw [ak c];cases l.length with
  |zero=>rfl
  |succ k=>rw [iZ,j]
 have t:jo l 0=mL l [0] l.length 0 []:=by
  grind [jo,C3]
 have m:(jo l 0)[i]∈mL l [0] l.length 0 []:=by simp_all
 have s:=WK l [0] l.length 0 [] [];rw [<-t] at s;obtain ⟨n,w,N,I,_,_⟩:=WM _ _ s i D;obtain ⟨x,J,h,_⟩:=GP l.length (.rF (l:=l) (outs:=[0]) (top:=0)) _ m;rw [bE] at h;generalize (jo l 0)[i]=g at*;have F:=h.Ws c aP;have d:=h.GN c aP;have H:=h.Wq;rcases h.aa8 with ⟨e,_⟩|⟨a,e⟩
 .cases e
 have B:=h.anQ c j dd l.length d a e;have f:jN l g.iM=some n:=by grind [tf]
 obtain ⟨O,y,_⟩:=BQ I;have o:g.iM≠0:=by simp_all
 refine ⟨n,a.reverse,f,by grind [mT],?_,((p n w).1 y).1,o,λb K=>?_⟩
 .have u:l.length≠0:=by grind
  have v:n.jj≠-1:=by
   intro q;have:=((p n w).1 y).1;rw [q] at this;trivial
  have:iZ l l.length g.iM=n.jj::iZ l (l.length - 1) n.jj:=by
   obtain ⟨k,E⟩:∃ k,l.length=k+1:=⟨l.length - 1,om⟩;rw [E,iZ,f,Nat.add_sub_cancel];simp_all
  grind
 grind
theorem aba {l} (h:gU l=true) (g:∀ n∈l,ni n) {i k} (f:i<(jo l 0).length) (j:k<i):(jo l 0)[k].fM≠(jo l 0)[i].fM/\(jo l 0)[k].iM≠(jo l 0)[i].iM:=by
 have e:jo l 0=mL l (C3 l 0) l.length 0 []:=by grind [jo]
 have c:(jo l 0).Pairwise λa b=>a.fM≠b.fM:=by grind [Qs]
 have d:(jo l 0).Pairwise λa b=>a.iM≠b.iM:=by rw [e];exact Qm h (by grind [C3]) _ .rF
 grind [List.pairwise_iff_getElem]
theorem anR {es l} (h:pe es l) (m:∀ e∈es,g4 e.gN=true):∀ n∈l,ni n:=by
 induction h with
 |AD=>simp_all
 |zd h o i=>exact agL (i λe a=>m e (bO _ a)) o (av (Q6 (m ⟨o,_⟩ (cP _ (aw.2 rfl)))).1 dd)
theorem l8.SD {g} (h:l8 g):∀ n∈g.ec.al,ni n:=anR h.qK h.B1
def l9 (x:fb):List fG:=x.bf.al.map (·.fx)
theorem an0 {f:ft->ft} (h:∀ t,(f t).fx=t.fx) (l:List ft) (n:Nat):(l.modify n f).map (·.fx)=l.map (·.fx):=by
 induction l generalizing n with
 |nil=>simp_all
 |cons t l i=>
  grind
theorem Fh (x:fb) (n:Int) (f:ft->ft) (h:∀ t,(f t).fx=t.fx):l9 (iC x n f)=l9 x:=by
 show (jh x.bf.al n f).map (·.fx)=_;unfold jh;split
 .rfl
 .exact an0 h _ _
theorem abb (u t):(gl t u).fx=t.fx:=by
 grind [gl]
theorem Kz (x who u):l9 (kA x who u)=l9 x:=Fh x who _ λt=>abb u t
theorem abe (x h):l9 (lT x h)=l9 x:=Fh x _ _ λt=>abb _ t
theorem SF (x n):l9 (lK x n)=l9 x:=Fh x n _ λ_=>rfl
theorem NU {α:Type} {f:fb->α->fb} (h:∀ x a,l9 (f x a)=l9 x):∀ (l:List α) (x:fb),l9 (l.foldl f x)=l9 x
 |[],_=>rfl
 |a::l,x=>(NU h l (f x a)).trans (h x a)
theorem abh (x who u):l9 (rM x who u)=l9 x:=by
 unfold rM;split;split
 .exact Kz _ who u
 .rfl
theorem abd (x who u):l9 (rL x who u)=l9 x:=by
 unfold rL;split
 .exact Kz _ who u
 .exact (abe _ _).trans (Kz _ who u)
theorem anX (who:Int) (x:fb) (n:Nat):l9 (nW who x n)=l9 x:=by
 unfold nW;split
 .rfl
 .split
  .split;rename_i t p _;exact (NU abe p.al (iC {x with fg:=t} n kY)).trans (Fh {x with fg:=t} n kY λ_=>rfl)
  .rfl
theorem anW (x:fb) (who:Int):l9 (vK x who)=l9 x:=NU (anX who) _ x
theorem abc (x who u):l9 (od x who u)=l9 x:=by
 unfold od;split;rename_i m a ops _;have e:l9 (kA (iC {x with ep:=m,eL:=⟨(x.eL.gj ops.al).ie,(x.eL.gj ops.al).al⟩} who λt=>{t with gu:=a,kf:=x.eZ,j8:=(x.eL.gj ops.al).al.length}) who u)=l9 x:=
  (Kz _ who u).trans (Fh {x with ep:=m,eL:=⟨(x.eL.gj ops.al).ie,(x.eL.gj ops.al).al⟩} who _ λ_=>rfl)
 grind [anW]
theorem abi (x who):l9 (sE x who)=l9 x:=by
 unfold sE;split;split
 .exact SF _ who
 .rfl
theorem abg (x who u):l9 (w5 x who u)=l9 x:=(Fh (kA x who u) who (λt=>{t with nu:=x.eZ}) λ_=>rfl).trans (Kz x who u)
theorem abf (x:fb) (who:Int) (full:Bool):l9 (pA x who full)=l9 x:=by
 unfold pA;split
 .exact (SF _ who).trans (Fh _ who _ λ_=>rfl)
 .split;exact NU SF _ _
theorem anY (x p full):l9 (nN x p full)=l9 x:=by
 unfold nN;split
 .rfl
 .split
  .exact abf _ _ _
  .unfold pd;split
   .exact abh _ _ _
   split
   .exact abd _ _ _
   split
   .exact abc _ _ _
   split
   .exact abi _ _
   split
   .exact abg _ _ _
   .rfl
end Gw
namespace Go.Proofs.YtffboamedcmpaaaGreatDoor
open Gw
open Go.Am
open Go.Proofs.Tryz Tryz
theorem an4 {T:Nat} (x:fb) (p:Int) (full:Bool) (b:T<=400000) (a:j4 T x) (k:Nat) (d:k<x.bf.al.length) (hp:pB x p=some ((k:Int),true)) (Y:fb) (n:Y.bf.al≠[])
  (c:fF prog 121 [.c8 16 0, .eD full] (eJ (ll {x with eZ:=x.eZ+1} k ⟨0,0⟩)) 32 (gP 32 (λr es=>r= .gO (.dn [])/\es=ll Y k ⟨0,0⟩))):er prog 71 [pU x, .ax .i64 p, .eD full] (pU Y):=by
 have t:=a.lm.pD;have e:=a.lm.rS;have g:=a.uG;have m:=a.tL;have h:=Nk x p om om om;rw [hp] at h;have h:er prog 69 [pU x, .ax .i64 p] (.dn [.ax .i64 (k:Int), .eD true, .eD true]):=h;have w:IntKind.i64.wrap (x.eZ+1)=x.eZ+1:=fq om om;have l:(x.bf.al.map gx).length=x.bf.al.length:=ap _;have s:rE prog 74 [.a8 x.bf.gg 18 (x.bf.al.map gx) .dm] 78 18 x.bf.al.length (x.bf.al.map gx).flatten:=by
  have f:x.bf.gg=false:=by
   unfold gp.gg;grind
  grind [QY]
 refine er.Hy jy (fn:=f71) eI rfl eI rfl rfl ?_;refine gk ?_;refine cx ?_;refine fF.Bv s rfl ?_;refine kw ?_;refine fF.xS (es:=ll {x with eZ:=x.eZ+1} k ⟨0,0⟩) (es':=ll Y k ⟨0,0⟩) ⟨?_,af⟩ rfl rfl (yQ rfl rfl rfl) dd rfl rfl c ?_
 .exact congrArg (λz=>gC.dc 235 (ri {x with eZ:=z} k ⟨0,0⟩ x.bf.al.length)) w
 conv=>whnf
 exact Z7 Y n rfl
theorem an5 {T:Nat} (x:fb) (p:Int) (full:Bool) (b:T<=400000) (a:j4 T x) (hp:pB x p=none):er prog 71 [pU x, .ax .i64 p, .eD full] (pU x):=by
 have t:=a.lm.pD;have e:=a.lm.rS;have g:=a.uG;have h:=Nk x p om om om;rw [hp] at h;have h:er prog 69 [pU x, .ax .i64 p] (.dn [.ax .i64 0, .eD false, .eD false]):=h;refine ic func71 ?_;exact fu
theorem abm {x y:fb} (h:l9 y=l9 x) {k:Nat} (a:k<x.bf.al.length):y.bf.al≠[]:=λe=>by
 grind [l9,List.length_nil]
theorem an3 {T:Nat} {x:fb} (h:j4 T x) (k:Nat) (u:iX) (a:u.kX≠1):la (T+1) (Dp x k u):=by
 have d:=Nt h.kI (mW x k);unfold Dp;refine HI k u ?_ a;refine E5 ?_ k _ (λt q=>⟨q.vT,q.yg,q.zr,q.zq,d.RU⟩) (λ_=>aq _) λ_=>aq _
 exact (h.lm.ZP (aZ _)).Cb rfl rfl
theorem abl {T:Nat} (x:fb) (p:Int) (full:Bool) (A:T<=399000) (e:j4 T x):er prog 71 [pU x, .ax .i64 p, .eD full] (pU (nN x p full)):=by
 have h:nN x p full=match pB x p with
  |none=>x
  |some (o,w)=>if w=true then pA {x with eZ:=x.eZ+1} o full else pd {x with eZ:=x.eZ+1} o (w6 x o):=rfl
 have d:=anY x p full;cases c:pB x p with
 |none=>
  rw [h,c];exact an5 x p full om e c
 |some y=>
  obtain ⟨o,w⟩:=y;rw [c] at h;obtain ⟨k,rfl,b,i,v⟩:=amM c;have B:=e.tL;have f:=e.vU;have g:j4 (T+1) {x with eZ:=x.eZ+1}:=⟨f.kI,f.lm.Cb rfl rfl,f.uG,⟨by grind,by simp_all⟩,f.xg,f.xf,f.yh⟩;have z:=g.uG;cases w with
  |true=>
   have h:nN x p full=pA {x with eZ:=x.eZ+1} k full:=h;rw [h] at d ⊢;refine an4 x p full om e k b c _ (abm d b) ?_;cases full with
   |false=>exact amz {x with eZ:=x.eZ+1} k ⟨0,0⟩ om
   |true=>
    cases q:x.fm.iI.al with
    |nil=>
     unfold mo at v;rw [q] at v;cases v
    |cons a r=>
     refine amA {x with eZ:=x.eZ+1} k ⟨0,0⟩ a r q ?_ b;grind
  |false=>
   have h:nN x p full=pd {x with eZ:=x.eZ+1} k (w6 x k):=h;have t:w6 x k=oO x.ep.cy.ec.al x.bf.al[k]:=by
    grind [w6]
   rw [t] at h;rw [h] at d ⊢;have s:x.bf.al[k].gS=false:=by
    unfold oe at i;simp_all
   have j:=amK x.ep.cy.ec.al x.bf.al[k] s;have n:=abm d b;generalize m:oO x.ep.cy.ec.al x.bf.al[k]=u at*;obtain ⟨D,l⟩:=u;dsimp only at j;rcases j with rfl|rfl|rfl|rfl|rfl
   .exact Kf x p full om e k b c 1 l m 198 rfl _ n (amp {x with eZ:=x.eZ+1} k ⟨1,l⟩ om g.lm b rfl)
   .exact Kf x p full om e k b c 2 l m 199 rfl _ n (amm {x with eZ:=x.eZ+1} k ⟨2,l⟩ om g.lm b rfl)
   .refine Kf x p full om e k b c 3 l m 200 rfl _ n (amr {x with eZ:=x.eZ+1} k ⟨3,l⟩ om g b rfl (amC (T:=T+2) (Dp {x with eZ:=x.eZ+1} k ⟨3,l⟩) k ⟨3,l⟩ om ?_));grind [an3]
   .exact Kf x p full om e k b c 4 l m 201 rfl _ n (amq {x with eZ:=x.eZ+1} k ⟨4,l⟩ om b)
   .exact Kf x p full om e k b c 5 l m 202 rfl _ n (amo {x with eZ:=x.eZ+1} k ⟨5,l⟩ om g.lm b rfl)
def ma (p:Int×ByteArray):List b9:=[.ax .i64 p.1, .cp p.2.data.toList]
def oo (n:Bool) (d:lb):b9:= .eN [.ax .i64 d.fN, .cp d.nK.data.toList, .a8 n 2 (d.gT.map ma) .dm]
def nQ (x:Int):Prop:=-9223372036854775808<=x/\x<=9223372036854775807
theorem SG {l:List (Int×ByteArray)} {k:Nat} (h:k<l.length):(l.map ma)[k]? =some (ma l[k]):=by simp_all
theorem abq (s:List UInt8) (h:s.length<=1048576):er prog 185 [.cp s] (.ax .i64 ((s.length+15) / 16:Nat)):=by
 refine fS func185 ?_
 conv=>whnf
 rw [fq (x:=(s.length:Int)+16) om om,fq (x:=(s.length:Int)+16 - 1) om om,PE om,fq om om];congr 1;omega
theorem H6 (n:Bool) (d:lb) (z:nQ d.fN) (w:d.gT.length<=1048576):er prog 170 [oo n d] (.eD (jE d)):=by
 obtain ⟨s,f,l⟩:=d;have z:nQ s:=z;unfold nQ at z;have w:l.length<=1048576:=w;have D:f.size=f.data.toList.length:=rfl;show er prog _ [.eN [.ax .i64 s, .cp f.data.toList, .a8 n 2 (l.map ma) .dm]] _;refine fS func170 ?_
 conv=>whnf
 refine ⟨λg=>?_,λg=>?_⟩
 .conv=>whnf
  grind [jE]
 have g:=ag g
 conv=>whnf
 refine ⟨λi=>?_,λi=>?_⟩
 .conv=>whnf
  grind [jE]
 have i:=ag i
 conv=>whnf
 rw [fq (x:=s*16) om om];refine ⟨λj=>?_,λj=>?_⟩
 .conv=>whnf
  have j:¬((f.size:Int)=s*16):=by simp_all
  grind [jE]
 have j:(f.size:Int)=s*16:=by simp_all
 conv=>whnf
 have c:jE ⟨s,f,l⟩=l.all (zy s):=by
  grind [jE]
 rw [c];refine iE.gY (λk:Nat=>[(.ct 1, .bg (.c8 0 0)),(.ct 23, .bg (.a8 n 2 (l.map ma) .dm)),(.ct 24, .bg (.ax .i64 (l.map ma).length)),(.ct 25, .bg (.ax .i64 k)),
  (.ay 0, .dc 44 [.ax .i64 s, .cp f.data.toList, .a8 n 2 (l.map ma) .dm])]) 1 (λk=>k<=l.length/\(l.take k).all (zy s)=true) (λk=>l.length - k) dd 0 ⟨ar _,rfl⟩
  ⟨rfl,rfl,rfl,rfl,rfl,rfl,rfl,rfl,rfl,rfl,trivial⟩ ?_
 rintro k ⟨E,v⟩;refine gk ?_;refine ab (λm=>?_) λm=>?_
 .rw [ap] at m;have t:k<l.length:=om;have u:l.take (k+1)=l.take k++[l[k]]:=aD t;have r:zy s l[k]=false->l.all (zy s)=false:=λh=>by
   grind
  obtain ⟨⟨e,a⟩,y⟩:∃ p,l[k]=p:=⟨_,rfl⟩;have B:(l.map ma)[k]? =some [.ax .i64 e, .cp a.data.toList]:=by rw [SG t,y];rfl
  rw [y] at u r;refine cx ?_;have A:a.size=a.data.toList.length:=rfl
  conv=>whnf
  refine ⟨λo=>?_,λo=>?_⟩
  .conv=>whnf
   grind [zy]
  have o:=ag o
  conv=>whnf
  refine ⟨λq=>?_,λq=>?_⟩
  .conv=>whnf
   grind [zy]
  have q:=ag q
  conv=>whnf
  refine ⟨λb=>?_,λb=>?_⟩
  .conv=>whnf
   have b:¬a.size=16:=by simp at b;omega
   grind [zy]
  have b:a.size=16:=by simp at b;omega
  conv=>whnf
  refine ⟨k+1,⟨om,?_⟩,by grind,rfl,rfl,rfl,rfl,rfl,rfl,?_,af⟩
  .grind [zy]
  .exact ix
 .rw [ap] at m
  conv=>whnf
  grind
theorem abo (n:Bool) (els:List (List b9)) (a:n=true->els=[]) (l:els.length<=4294967296):er prog 174 [.a8 n 2 els .dm] (.a8 n 2 els .dm):=by
 refine ic func174 ?_
 conv=>whnf
 refine ⟨λh=>?_,λh=>?_⟩
 .conv=>whnf
  grind [mR.kd]
 .conv=>whnf
  refine ⟨ji (by simpa using l) dd,?_⟩
  conv=>whnf
  grind [mR.fC]
theorem SJ (n:Bool) (d:lb) (a:n=true->d.gT=[]) (b:d.gT.length<=4294967296):er prog 179 [oo n d] (oo n d):=by
 obtain ⟨s,f,l⟩:=d;have a:n=true->l=[]:=a;show er prog _ [.eN [.ax .i64 s, .cp f.data.toList, .a8 n 2 (l.map ma) .dm]] _;refine fS func179 ?_
 conv=>whnf
 refine fF.kc (abo n _ (λh=>by rw [a h];rfl) (by simp_all)) rfl ?_;exact fu
theorem an9 (size:Int):oo true (ql size)= .eN [.ax .i64 (min (max size 0) 65536), .cp (List.replicate ((min (max size 0) 65536).toNat*16) 0), .a8 true 2 [] .dm]:=by
 trivial
theorem aob (size:Int):er prog 58 [.ax .i64 size] (oo true (ql size)):=by
 rw [an9];refine ic func58 ?_
 conv=>whnf
 have h:IntKind.i64.wrap (min (max size 0) 65536*16)=min (max size 0) 65536*16:=fq om om;refine ⟨⟨by grind,rfl,ji (by grind) dd⟩,?_⟩
 conv=>whnf
 refine ⟨List.replicate (min (max size 0) 65536*16).toNat 0,?_,?_⟩
 .show 0+(IntKind.i64.wrap (min (max size 0) 65536*16)).toNat<=(jM (IntKind.i64.wrap (min (max size 0) 65536*16)).toNat [b9.ax .u8 0]).length/\((jM (IntKind.i64.wrap (min (max size 0) 65536*16)).toNat [b9.ax .u8 0]).drop 0).take (IntKind.i64.wrap (min (max size 0) 65536*16)).toNat=_;rw [Px,h];exact LQ (by simp)
 conv=>whnf
 refine mR.rA (.fj (.qy ?_) (.fj (.qy ?_) (.fj (.kd _ _ _) .kv)))
 .rfl
 grind
theorem an6 {l t:List UInt8} {i len off n:Nat} (a:len=l.length - i) (o:off=i) (b:n=t.length) (h:i+t.length<=l.length):
  (ir l).take off++(ir t).take (min n len*1)++(ir l).drop (off+min n len*1)=ir (rV l i t):=by
 subst a o b;have e:min t.length (l.length - off)*1=t.length:=om;grind [rs,rV,LR,LU,LS]
theorem abt (o:Bool) (d:lb) (at_ n:Nat) (I:jE d=true) (h:((at_+n:Nat):Int)<=d.fN) (N:d.gT.length<=1048576):er prog 187 [oo o d, .ax .i64 at_, .ax .i64 n] (.cp (Fc d at_ n)):=by
 have x:=rk I;obtain ⟨z,f,l⟩:=d;simp only at x h N;obtain ⟨T,U,W,B⟩:=x;have L:f.data.toList.length=f.size:=rfl;show er prog _ [.eN [.ax .i64 z, .cp f.data.toList, .a8 o 2 (l.map ma) .dm], .ax .i64 at_, .ax .i64 n] (.cp (l.foldl (tO at_ n) ((f.data.toList.drop (at_*16)).take (n*16))));refine fS func187 ?_
 conv=>whnf
 have O:IntKind.i64.wrap ((at_:Int)*16)=(at_:Int)*16:=fq om om;have A:IntKind.i64.wrap ((at_:Int)+n)=(at_:Int)+n:=fq om om;have P:IntKind.i64.wrap (((at_:Int)+n)*16)=((at_:Int)+n)*16:=fq om om;rw [A,P,O];refine cx ?_;have H:(f.data.toList.take (((at_:Int)+n)*16).toNat).drop ((at_:Int)*16).toNat=(f.data.toList.drop (at_*16)).take (n*16):=by
  grind [List.drop_take]
 have g:((f.data.toList.drop (at_*16)).take (n*16)).length=n*16:=by grind
 rw [H];generalize (f.data.toList.drop (at_*16)).take (n*16)=b at g ⊢
 conv=>whnf
 refine iE.gY (λk:Nat=>[(.ct 1, .bg (.ax .i64 at_)),(.ct 2, .bg (.ax .i64 n)),(.ct 7, .bg (.eP 11 0 1 (n*16) true)),(.ct 21, .bg (.a8 o 2 (l.map ma) .dm)),(.ct 22, .bg (.ax .i64 l.length)),(.ct 23, .bg (.ax .i64 k)),
  (.ay 11, .eY 5 (ir ((l.take k).foldl (tO at_ n) b)))]) 12 (λk=>k<=l.length) (λk=>l.length - k) dd 0 (ar _)
  ⟨rfl,rfl,rfl,rfl,?_,rfl,rfl,rfl,?_,af⟩ ?_
 .show gC.bg (b9.eP 11 0 1 b.length true)=_;rw [g]
 .show gC.bg (b9.ax .i64 ((l.map ma).length:Nat))=_;simp_all
 rintro k S;have j:((l.take k).foldl (tO at_ n) b).length=n*16:=aay at_ n _ b g (λp r=>(B p (cX r)).2.2);refine gk ?_;refine ab (λE=>?_) λE=>?_
 .have m:k<l.length:=om;have v:l.take (k+1)=l.take k++[l[k]]:=aD m;have y:=B _ (aI m);obtain ⟨⟨q,a⟩,r⟩:∃ p,l[k]=p:=⟨_,rfl⟩;have K:(l.map ma)[k]? =some [.ax .i64 q, .cp a.data.toList]:=by rw [SG m,r];rfl
  rw [r] at v y;simp only at y;have J:a.size=a.data.toList.length:=rfl;have s:(l.take (k+1)).foldl (tO at_ n) b=tO at_ n ((l.take k).foldl (tO at_ n) b) (q,a):=by grind
  generalize (l.take k).foldl (tO at_ n) b=D at j s ⊢;have t:∀ c:gC,c=gC.bg (b9.ax .i64 (IntKind.i64.wrap ((k:Int)+1)))->c=gC.bg (b9.ax .i64 ((k+1:Nat):Int)):=λc e=>by grind [fq]
  refine cx ?_;refine ab (λw=>?_) λw=>?_
  .conv=>whnf
   rw [A];refine ab (λF=>?_) λF=>?_
   .conv=>whnf
    have Q:IntKind.i64.wrap (q - at_)=q - at_:=fq om om;have R:IntKind.i64.wrap ((q - at_)*16)=(q - at_)*16:=fq om om;rw [Q,R];refine cx ?_;refine ⟨by rw [rs];omega,?_⟩
    conv=>whnf
    refine ⟨eI,?_⟩
    conv=>whnf
    refine ⟨k+1,om,by grind,rfl,rfl,rfl,rfl,rfl,rfl,rfl,rfl,rfl,rfl,t _ rfl,rfl,?_,rfl,ae⟩;show gC.eY _ _=gC.eY _ _;congr 1;rw [s,tO,ak ⟨w,om⟩];refine an6 (i:=(q.toNat - at_)*16) ?_ ?_ ?_ ?_
    .omega
    .omega
    .rfl
    .omega
   .conv=>whnf
    refine ⟨k+1,om,by grind,rfl,rfl,rfl,rfl,rfl,rfl,rfl,rfl,rfl,rfl,t _ rfl,rfl,?_,rfl,ae⟩;rw [s,tO,ai (by simp only;omega)];rfl
  .conv=>whnf
   refine ⟨k+1,om,by grind,rfl,rfl,rfl,rfl,rfl,rfl,rfl,rfl,rfl,rfl,t _ rfl,rfl,?_,rfl,ae⟩;rw [s,tO,ai (by simp only;omega)];rfl
 .have u:l.take k=l:=bj om;rw [u] at j ⊢
  conv=>whnf
  exact ⟨_,LQ j.symm,rfl⟩
theorem SI (i:Bool) (d:lb) (at_ n:Int) (z:nQ d.fN) (u:nQ at_) (v:nQ n) (p:d.gT.length<=1048576):er prog 172 [oo i d, .ax .i64 at_, .ax .i64 n] (.dn [.cp (uJ d at_ n), .ax .i64 (Fb d at_ n)]):=by
 have k:=H6 i d z p;have g:=λ(a m:Nat) j h=>abt i d a m j h p
 have t:=λj=>rk (d:=d) j
 have r:Kn d at_ n=(jE d && (decide (0<=at_) && (decide (0<=n) && decide (n<=d.fN - at_)))):=rfl;unfold nQ at u v;unfold uJ Fb;generalize jE d=q at k g t r;obtain ⟨s,o,l⟩:=d;refine fS func172 ?_;refine cx ?_;refine ⟨λb=>?_,λb=>?_⟩
 .have b:q=false:=by simpa using b
  conv=>whnf
  rw [r,b];rfl
 have b:q=true:=by simpa using b
 obtain ⟨x,y,A,B⟩:=t b;simp only at x y A B r
 conv=>whnf
 refine ⟨λc=>?_,λc=>?_⟩
 .have c:=ah c
  conv=>whnf
  grind
 have c:=ag c
 conv=>whnf
 refine ⟨λe=>?_,λe=>?_⟩
 .have e:=ah e
  conv=>whnf
  grind
 have e:=ag e;have w:IntKind.i64.wrap (s - at_)=s - at_:=fq om om
 conv=>whnf
 rw [w];refine ⟨λf=>?_,λf=>?_⟩
 .have f:=ah f
  conv=>whnf
  grind
 have f:=ag f;obtain ⟨a,rfl⟩:=de (by omega:0<=at_);obtain ⟨m,rfl⟩:=de (by omega:0<=n)
 conv=>whnf
 refine fF.kc (g a m b (by simp only;omega)) rfl ?_
 conv=>whnf
 simp_all
theorem abp (n:Bool) (d:lb) (o:n=true->d.gT=[]) (z:nQ d.fN) (e:d.gT.length<=1048576):er prog 118 [oo n d] (oo (if jE d=true then true else n) (pX d)):=by
 have k:=H6 n d z e;have p:=SJ n d o om;have s:=λ(a m:Nat) c h=>abt n d a m c h e
 have g:=λc=>rk (d:=d) c
 unfold pX;generalize jE d=q at k s g ⊢;obtain ⟨i,f,l⟩:=d;refine ic func118 ?_;refine cx ?_;refine ⟨λb=>?_,λb=>?_⟩
 .have b:q=false:=by simpa using b
  refine cx ?_;rw [b];exact mR.fC _
 have b:q=true:=by simpa using b
 obtain ⟨j,r,t,u⟩:=g b;simp only at j r t u;obtain ⟨m,rfl⟩:=de j
 conv=>whnf
 refine ⟨_,rfl,s 0 m b (by simp only;omega),?_⟩;refine cx ?_;rw [b];exact mR.rA (.fj (.qy rfl) (.fj (.qy rfl) (.fj (.kd _ _ _) .kv)))
theorem abr:∀ (s:List UInt8),kT (ir s)=true
 |[]=>rfl
 |_::s=>abr s
theorem abn (n:Nat) (f:Nat->List UInt8):((List.range n).map λi=>ir (f i)).flatten=ir (rU n f):=by
 unfold rU ir;rw [List.map_flatMap];rfl
theorem aoc (n:Nat):jM n (jM 16 [b9.ax .u8 0])=ir (List.replicate (n*16) 0):=by
 rw [Px];unfold jM ir
 induction n with
 |zero=>rfl
 |succ n i=>
  rw [List.replicate_succ,jS,i,show (n+1)*16=16+n*16 by omega,<-List.replicate_append_replicate,aU]
def zD (s:ByteArray):List (List b9):=(List.range (kN s)).map λi=>ir (((zz s).drop (i*16)).take 16)
theorem an8 (s:ByteArray) (o:s.size<=1048576):er prog 186 [.cp s.data.toList] (.a8 false 16 (zD s) .dm):=by
 have f:s.data.toList.length=s.size:=rfl;have c:(s.data.toList.length+15) / 16=kN s:=rfl;have m:=abq s.data.toList om;rw [c] at m;have d:kN s<=65537:=om;refine fS func186 ?_;refine cx ?_;refine ⟨⟨om,rfl,ji om dd⟩,?_⟩
 conv=>whnf
 refine iE.gY (λk:Nat=>[(.ct 0, .bg (.cp s.data.toList)),(.ct 3, .bg (.eP 2 0 16 (kN s) true)),(.ct 9, .bg (.ax .i64 (kN s))),(.ct 10, .bg (.ax .i64 k)),
  (.ay 2, .eY 324 (ir (vY s k)))]) 3 (λk=>k<=kN s) (λk=>kN s - k) dd 0 (ar _)
  ⟨rfl,rfl,?_,rfl,?_,rfl,rfl,rfl,?_,rfl,ae⟩ ?_
 .rfl
 .rfl
 .show gC.eY _ (jM (kN s:Int).toNat (jM 16 [b9.ax .u8 0]))=_;grind [aoc,ane]
 rintro k n;refine gk ?_;refine ab (λa=>?_) λa=>?_
 .have l:k<kN s:=om;have h:=Sq s k;have b:k*16<s.data.toList.length:=om;refine cx ?_;have w:IntKind.i64.wrap ((k:Int)*16)=(k:Int)*16:=fq om om;rw [w];refine cx ?_;refine ⟨by grind [rs],?_⟩
  conv=>whnf
  refine ⟨eI,?_⟩
  conv=>whnf
  refine ⟨k+1,om,by grind,rfl,rfl,rfl,rfl,rfl,rfl,?_,rfl,?_,rfl,ae⟩
  .exact ix
  .show gC.eY _ ((ir (vY s k)).take (0+(k:Int).toNat*16)++(ir (s.data.toList.drop ((k:Int)*16).toNat)).take (min (s.data.toList.drop ((k:Int)*16).toNat).length 16*1)++(ir (vY s k)).drop (0+(k:Int).toNat*16+min (s.data.toList.drop ((k:Int)*16).toNat).length 16*1))=_;grind [anc,ir,LU,List.take_length,LS]
 .obtain rfl:k=kN s:=om
  conv=>whnf
  have h:=Sq s (kN s);rw [NH] at h;refine .CJ (cells:=ir (vY s (kN s))) rfl ?_ ?_ ?_ ?_ ?_
  .simp [zD]
  .intro g e;obtain ⟨i,j,rfl⟩:=aE.1 e;grind [rs]
  .rw [rs,NH];omega
  .rw [NH,List.drop_zero,bj (by rw [rs];omega),zD,abn,<-aax _ _ h]
  .rw [zD,abn];exact abr _
theorem aoa {l:List UInt8} (h:l.length=16):∃ g i j k m n o p q r a b c d e f,l=[g,i,j,k,m,n,o,p,q,r,a,b,c,d,e,f]:=by
 match l,h with
 |[g,i,j,k,m,n,o,p,q,r,a,b,c,d,e,f],_=>simp_all
theorem abu (n:Bool) (d:lb) (at_:Int) (s:ByteArray) (X:n=true->d.gT=[]) (B:nQ d.fN) (S:nQ at_) (Q:d.gT.length<=1048576) (Y:s.size<=1048576):
  er prog 117 [oo n d, .ax .i64 at_, .cp s.data.toList] (.dn [oo (if vZ d at_ s=0 then false else n) (oh d at_ s), .ax .i64 (vZ d at_ s)]):=by
 have y:=H6 n d B Q;have Z:=SJ n d X om;have w:=λT=>rk (d:=d) T
 have P:=an8 s Y;have hsl:s.data.toList.length=s.size:=rfl;have A:=abq s.data.toList om;rw [show (s.data.toList.length+15) / 16=kN s from rfl] at A;have W:kN s<=65537:=by unfold kN;omega
 have h:vZ d at_ s=if jE d=false\/at_<0 then 121 else if d.fN - (kN s:Int)<at_ then 120 else 0:=rfl
 unfold nQ at S;unfold oh;generalize jE d=q at y w h;obtain ⟨i,f,l⟩:=d;simp only at Q;refine ic func117 ?_;refine cx ?_;refine ⟨λb=>?_,λb=>?_⟩
 .have b:q=false:=by simpa using b
  refine cx ?_;have e:vZ ⟨i,f,l⟩ at_ s=121:=by simp_all
  rw [e,ai dd,ai dd];exact mR.fC _
 have b:q=true:=by simpa using b
 obtain ⟨z1,z2,z3,z4⟩:=w b;simp only at z1 z2 z3 z4 h
 conv=>whnf
 refine ⟨λr=>?_,λr=>?_⟩
 .have r:=ah r;refine cx ?_;have e:vZ ⟨i,f,l⟩ at_ s=121:=by simp_all
  rw [e,ai dd,ai dd];exact mR.fC _
 have r:=ag r;rw [ai (by simp_all)] at h;refine cx ?_;have w1:IntKind.i64.wrap (i - (kN s:Int))=i - (kN s:Int):=fq om om
 conv=>whnf
 rw [w1];refine cx ?_;refine ⟨λa=>?_,λa=>?_⟩
 .have a:=ah a;refine cx ?_;have e:vZ ⟨i,f,l⟩ at_ s=120:=by rw [h,ak a]
  rw [e,ai dd,ai dd];exact mR.fC _
 have a:=ag a;rw [ai a] at h;rw [h,ak rfl,ak rfl];refine cx ?_;have t:(zD s).length=kN s:=by simp [zD]
 have w2:IntKind.i64.wrap (((l.map ma).length:Int)+((zD s).length:Int))=((l.length+kN s:Nat):Int):=by
  grind [fq]
 rw [w2];refine ⟨⟨om,ji om dd⟩,?_⟩
 conv=>whnf
 refine ⟨⟨rfl,ji (by grind) dd⟩,?_⟩
 conv=>whnf
 refine iE.gY (λk:Nat=>[(.ct 1, .bg (.ax .i64 at_)),(.ct 3, .bg (.c8 0 0)),(.ct 6, .bg (.c8 1 0)),(.ct 7, .bg (.ax .i64 0)),(.ct 9, .bg (.a8 false 2 ((l++tP at_ s k).map ma) (.je 25))),(.ct 43, .bg (.a8 false 16 (zD s) .dm)),(.ct 44, .bg (.ax .i64 (kN s))),(.ct 45, .bg (.ax .i64 k)),
  (.eT 25, .eU 305 2 (l.length+k)),(.ay 0, .dc 44 [.ax .i64 i, .cp f.data.toList, .a8 n 2 (l.map ma) .dm]),(.ay 1, .dc 44 [.ax .i64 0, .cp [], .a8 true 1 [] .fW])]) 26 (λk=>k<=kN s) (λk=>kN s - k) dd 0 (ar _)
  ⟨rfl,rfl,rfl,rfl,rfl,rfl,rfl,rfl,?_,rfl,rfl,rfl,?_,rfl,rfl,rfl,?_,af⟩ ?_
 .show gC.bg (b9.a8 _ 2 ([]++l.map ma) _)=_;simp [tP]
 .show gC.bg (b9.ax .i64 ((zD s).length:Nat))=_;rw [t]
 .show gC.eU _ 2 ([].length+(l.map ma).length)=_;simp_all
 rintro k hk;refine gk ?_;refine ab (λR=>?_) λR=>?_
 .have U:k<kN s:=om;have x:=aaC at_ s k;have hwl:=Su at_ s k;have v:(((zz s).drop (k*16)).take 16).length=16:=by
   grind [aaA]
  have z:(zD s)[(k:Int).toNat]? =some (ir (((zz s).drop (k*16)).take 16)):=by
   grind [zD]
  generalize ((zz s).drop (k*16)).take 16=ch at x v z;obtain ⟨D,E,F,H,I,J,K,L,N,O,c,g,j,m,o,p,rfl⟩:=aoa v;refine cx ?_;refine ⟨[D,E,F,H,I,J,K,L,N,O,c,g,j,m,o,p],⟨aq _,rfl⟩,?_⟩;have w3:IntKind.i64.wrap (at_+(k:Int))=at_+(k:Int):=fq om om
  conv=>whnf
  rw [w3];have u:((l++tP at_ s k).map ma).length=l.length+k:=by simp_all
  refine ⟨⟨by rw [u],ji (by grind) dd⟩,?_⟩
  conv=>whnf
  refine ⟨k+1,om,by grind,rfl,rfl,rfl,rfl,rfl,rfl,rfl,rfl,?_,rfl,rfl,rfl,rfl,rfl,?_,rfl,?_,af⟩
  .show gC.bg (b9.a8 _ 2 ((l++tP at_ s k).map ma++[[.ax .i64 (at_+(k:Int)), .cp [D,E,F,H,I,J,K,L,N,O,c,g,j,m,o,p]]]) _)=_;rw [x,<-aA,aU (l₁:=l++_)];rfl
  .exact ix
  .show gC.eU _ 2 (((l++tP at_ s k).map ma).length+1)=_;rw [u];rfl
 .obtain rfl:k=kN s:=om;exact fu
theorem SH {L:List b9} {l t:List UInt8} {i len off n:Nat} (b:L=ir l) (o:off=i) (c:n=t.length) (a:t.length<=len) (h:i+t.length<=l.length):
  L.take off++(ir t).take (min n len*1)++L.drop (off+min n len*1)=ir (rV l i t):=by
 subst b o c;have e:min t.length len*1=t.length:=om;grind [rs,rV,LR,LU,LS]
theorem an7 (n:Bool) (d:lb) (s:ByteArray) (U:n=true->d.gT=[]) (H:nQ d.fN) (K:d.gT.length<=1048576) (hs:s.size<=1048576):er prog 106 [oo n d, .cp s.data.toList] (oo (if jE d=true then true else n) (nX d s)):=by
 have v:=H6 n d H K;have A:=SJ n d U om;have B:=λD=>rk (d:=d) D
 have W:s.data.toList.length=s.size:=rfl;unfold nX;generalize jE d=q at v B ⊢;obtain ⟨z,f,o⟩:=d;have v:er prog _ [.eN [.ax .i64 z, .cp f.data.toList, .a8 n 2 (o.map ma) .dm]] _:=v;have A:er prog _ [.eN [.ax .i64 z, .cp f.data.toList, .a8 n 2 (o.map ma) .dm]] (.eN [.ax .i64 z, .cp f.data.toList, .a8 n 2 (o.map ma) .dm]):=A;show er prog _ [.eN [.ax .i64 z, .cp f.data.toList, .a8 n 2 (o.map ma) .dm], .cp s.data.toList] _;simp only at K;refine ic func106 ?_;refine cx ?_;refine ⟨λr=>?_,λr=>?_⟩
 .have r:q=false:=by simpa using r
  refine cx ?_;rw [r];exact mR.fC _
 have r:q=true:=by simpa using r
 rw [r];obtain ⟨Y,Z,z3,O⟩:=B r;simp only at Y Z z3 O;have T:f.data.toList.length=f.size:=rfl
 conv=>whnf
 refine iE.gY (λk:Nat=>[(.ct 1, .bg (.cp s.data.toList)),(.ct 2, .bg (.c8 0 0)),(.ct 4, .bg (.c8 1 0)),(.ct 5, .bg (.eP 6 0 1 f.data.toList.length true)),(.ct 20, .bg (.ax .i64 (o.map ma).length)),(.ct 21, .bg (.ax .i64 k)),
  (.ay 0, .dc 44 [.ax .i64 z, .cp f.data.toList, .a8 n 2 (o.map ma) .dm]),(.ay 1, .dc 44 [.ax .i64 0, .cp [], .a8 true 1 [] .fW]),
  (.ay 6, .eY 5 (ir (xk s o k f.data.toList)))]) 7 (λk=>k<=o.length) (λk=>o.length - k) dd 0 (ar _)
  ⟨rfl,rfl,rfl,rfl,rfl,rfl,rfl,rfl,rfl,rfl,rfl,rfl,rfl,rfl,rfl,rfl,rfl,rfl,trivial⟩ ?_
 rintro k J;have m:∀ k,k<=o.length->(xk s o k f.data.toList).length=f.data.toList.length:=λk J=>Sm s o k _ (λi hi=>by
   grind)
 have m:=m k J;refine gk ?_;refine ab (λh=>?_) λh=>?_
 .rw [ap] at h;have x:k<o.length:=om;have I:=O _ (aI x);have g:=Sn s o k f.data.toList;rw [bH (l:=o),aj x,Option.getD_some] at g;obtain ⟨⟨X,e⟩,L⟩:∃ p,o[k]=p:=⟨_,rfl⟩;have S:(o.map ma)[k]? =some [.ax .i64 X, .cp e.data.toList]:=by rw [SG x,L];rfl
  rw [L] at I g;simp only at I;have R:e.size=e.data.toList.length:=rfl;obtain ⟨a,rfl⟩:=de I.1;generalize xk s o k f.data.toList=u at m g;have N:IntKind.i64.wrap ((a:Int)*16)=(a:Int)*16:=fq om om;have F:Fa s k=if k<s.size then (s.data.toList.getD k 0).toNat % 3 else 0:=rfl
  refine cx ?_;refine ab (λP=>?_) λP=>?_
  .have E:k<s.data.toList.length:=om;obtain ⟨c,D⟩:∃ c,s.data.toList[k]? =some c:=⟨_,aj E⟩;rw [ak om,bH,D,Option.getD_some] at F;have Q:=c.toNat_lt;have w:(IntKind.i64.wrap ((c.toNat:Nat):Int)).tmod 3=((c.toNat % 3:Nat):Int):=by grind [fq]
   conv=>whnf
   refine ⟨c,⟨om,D⟩,?_⟩
   conv=>whnf
   rw [N];refine cx ?_;refine ⟨λj=>?_,λj=>?_⟩
   .rw [w] at j;have j:c.toNat % 3=1:=by grind
    have b:Fa s k=1:=om;refine cx ?_;refine ⟨by rw [rs];omega,?_⟩;refine cx ?_;refine ⟨by grind [rs],?_⟩
    conv=>whnf
    refine ⟨k+1,om,by grind,rfl,rfl,rfl,rfl,rfl,rfl,rfl,rfl,rfl,rfl,?_,rfl,rfl,rfl,rfl,rfl,?_,rfl,ae⟩
    .exact ix
    .rw [g,b];show gC.eY _ _=gC.eY _ (ir (rV u (a*16) e.data.toList));rw [<-anb u (a*16) e.data.toList om om];congr 1;refine SH (i:=a*16) (SH (i:=a*16+8) (t:=e.data.toList.drop 8) rfl ?_ ?_ ?_ ?_) ?_ ?_ ?_ ?_
     .omega
     .rfl
     .simp_all
     .grind
     .omega
     .rfl
     .simp_all
     grind [NG]
   .rw [w] at j;have j:c.toNat % 3≠1:=by
     grind
    conv=>whnf
    refine ⟨λy=>?_,λy=>?_⟩
    .rw [w] at y;have y:c.toNat % 3=2:=by grind
     have b:Fa s k=2:=om;refine cx ?_;refine ⟨by rw [rs];omega,?_⟩
     conv=>whnf
     refine ⟨k+1,om,by grind,rfl,rfl,rfl,rfl,rfl,rfl,rfl,rfl,rfl,rfl,?_,rfl,rfl,rfl,rfl,rfl,?_,rfl,ae⟩
     .exact ix
     .rw [g,b];show gC.eY _ _=gC.eY _ (ir (rV u (a*16) (e.data.toList.take 8)));grind [SH]
    .rw [w] at y;have y:c.toNat % 3≠2:=by
      grind
     have b:Fa s k=0:=om
     conv=>whnf
     refine ⟨k+1,om,by grind,rfl,rfl,rfl,rfl,rfl,rfl,rfl,rfl,rfl,rfl,?_,rfl,rfl,rfl,rfl,rfl,?_,rfl,ae⟩
     .exact ix
     .rw [g,b];rfl
  .have b:Fa s k=0:=by simp_all
   conv=>whnf
   rw [N];refine ⟨om,?_⟩
   conv=>whnf
   refine ⟨om,?_⟩
   conv=>whnf
   refine ⟨λj=>absurd j dd,λj=>?_⟩
   conv=>whnf
   refine ⟨λj=>absurd j dd,λj=>?_⟩
   conv=>whnf
   refine ⟨k+1,om,by grind,rfl,rfl,rfl,rfl,rfl,rfl,rfl,rfl,rfl,rfl,?_,rfl,rfl,rfl,rfl,rfl,?_,rfl,ae⟩
   .exact ix
   .rw [g,b];rfl
 .rw [ap] at h;obtain rfl:k=o.length:=om
  conv=>whnf
  refine ⟨xk s o o.length f.data.toList,LQ m.symm,?_⟩
  conv=>whnf
  exact mR.rA (.fj (.qy rfl) (.fj (.qy rfl) (.fj (.kd _ _ _) .kv)))
open Go.RowKit
theorem aok {w:World} (a:w.cell? ⟨0,0,none⟩=some (.int .u32 0)) (b:w.cell? ⟨0,1,none⟩=some (.int .u32 79764919)) (x:Nat) (c:x<4294967296):
  ∃ T:Int,w.cell? ⟨0,x / 2147483648,none⟩=some (.int .u32 T)/\bits .xor .u32 ((x:Int)*2 % 4294967296) T=((AN x:Nat):Int):=by
 have e:((x:Int)*2 % 4294967296)=((x*2 % 4294967296:Nat):Int):=om
 by_cases h:x<2147483648
 .rw [show x / 2147483648=0 from om,amO h,e];refine ⟨0,a,?_⟩;rw [show (0:Int)=((0:Nat):Int) from rfl,u32_xor_nat _ _ om om,Nat.xor_zero]
 .rw [show x / 2147483648=1 from om,amN h,e];refine ⟨79764919,b,?_⟩;rw [show (79764919:Int)=((79764919:Nat):Int) from rfl,u32_xor_nat _ _ om om]
def zE (w:World):Prop:=0<w.heap.size/\w.cell? ⟨0,0,none⟩=some (.int .u32 0)/\w.cell? ⟨0,1,none⟩=some (.int .u32 79764919)
theorem zE.abw {w w' n} (h:zE w) (b:nP n w w') (a:w.heap.size<=n):zE w':=
 ⟨aX h.1 b.size,(b.cell (p:=⟨_,0,none⟩) (aX h.1 a)).trans h.2.1,(b.cell (p:=⟨_,1,none⟩) (aX h.1 a)).trans h.2.2⟩
theorem zE.aod {w} (h:zE w):zE w.drew:=h.abw ((nP.vP _ _).MO) (aq _)
theorem zE.abv {w} (h:zE w) (o):zE (w.alloc o):=h.abw ((nP.vP _ _).Az (aq _) o) (aq _)
theorem aoe (n c:Nat) (hn:n<4294967296) (hc:c<256) (w:World) (h0:w.cell? ⟨0,0,none⟩=some (.int .u32 0)) (h1:w.cell? ⟨0,1,none⟩=some (.int .u32 79764919)):
  Calls prog 227 #[.int .u32 (n:Int), .int .u8 (c:Int)] w λe w'=>e= .returned (.int .u32 (Kg n c))/\w=w':=by
 have hstep:=aok h0 h1;clear h0 h1;have H:=Lib.hid hstep;clear hstep;have hxo:bits .xor .u32 (n:Int) ((c:Int)*16777216)=((n^^^c*16777216:Nat):Int):=by
  rw [show (c:Int)*16777216=((c*16777216:Nat):Int) from om,u32_xor_nat _ _ hn om]
 have hlt:n^^^c*16777216<4294967296:=Nat.xor_lt_two_pow (n:=32) hn om;have hadd:Kg n c=NB 8 (n^^^c*16777216):=rfl;have HA:=Lib.hid hadd;clear hadd
 go_enter func227,ntmps227
 go_wp2
 generalize hX:n^^^c*16777216=X at*;have HX:=Lib.hid hX;clear hX;refine wp_scope_jumps 0 (λa' w'=>w'=w/\∃ (k:Nat) (x:Nat) (u1 u4 u6 u7 u8 u9 u10 u11 u12 u13 u14 u15 u16 u17 u18 u19 u20 u21:Value),a'={tmps:=#[.int .u32 x,u1,undef,undef,u4, .int .i64 k,u6,u7,u8,u9,u10,u11,u12,u13,u14,u15,u16,u17,u18,u19,u20,u21,undef],defers:=[]}/\1<=k/\k<=7/\x=NB (8 - k) X/\x<4294967296) (λa' _=>(intOf (a'.tmps.getD 5 undef)).toNat) rfl ?_ ?_
 .go_wp2
  go_step3
  clear hxo;obtain ⟨T,hT,hb⟩:=H.out X hlt
  go_wp2
  go_step3
  exact ⟨rfl,rfl,7,AN X,_,_,_,_,_,_,_,_,_,_,_,_,_,_,_,_,_,_,rfl,om,om,rfl,Sb _⟩
 .rintro a' w' ⟨rfl,k,x,u1,u4,u6,u7,u8,u9,u10,u11,u12,u13,u14,u15,u16,u17,u18,u19,u20,u21,rfl,hk1,hk2,hx,hxlt⟩;have HK:=Lib.hid hx;clear hx;clear hxo;obtain ⟨T,hT,hb⟩:=H.out x hxlt
  by_cases hk:1<k
  .obtain ⟨j,rfl⟩:∃ j,k=j+1:=⟨k - 1,om⟩
   go_wp2
   go_step3
   refine ⟨rfl,⟨rfl,j,AN x,_,_,_,_,_,_,_,_,_,_,_,_,_,_,_,_,_,_,rfl,om,om,?_,Sb _⟩,?_⟩
   .rw [HK.out,show 8 - j=(8 - (j+1))+1 from by omega];rfl
   .simp [intOf]
  .obtain rfl:k=1:=om
   go_wp2
   simp only [Exit.jump]
   go_ret
   refine ⟨?_,rfl⟩;rw [HA.out,HK.out];rfl
def Fi (a:List ByteArray):List UInt8:=(a.map λs=>s.data.toList).flatten
theorem aof (s:List ByteArray) (k:Nat) (h:k<s.length):Fi (s.take (k+1))=Fi (s.take k)++(s.getD k ByteArray.empty).data.toList:=by
 grind [Fi,List.take_succ_eq_append_getElem]
theorem aom (s:ByteArray) (k:Nat) (h:k<s.size):s.data.toList.take (k+1)=s.data.toList.take k++[s[k]]:=by
 rw [aD (by simpa using h)];rfl
theorem aol (ss:List ByteArray) (b off cap:Nat) (hss:∀ s∈ss,s.size<=maxLen) (hlen:ss.length<=maxLen) (w:World) (h0:w.cell? ⟨0,0,none⟩=some (.int .u32 0)) (h1:w.cell? ⟨0,1,none⟩=some (.int .u32 79764919))
  (hc:∀ i,i<ss.length->w.cell? ⟨b,off+i,none⟩=some (.string (ss.getD i ByteArray.empty))):
  Calls prog 183 #[.slice (some ⟨b,off,none⟩) ss.length cap] w λe w'=>e= .returned (.int .u32 (vX (Fi ss)))/\w=w':=by
 unfold maxLen at hss hlen;have HS:=Lib.hid hss;clear hss;have HC:=Lib.hid hc;clear hc;have HA0:=Lib.hid h0;have HA1:=Lib.hid h1;clear h0 h1
 go_enter func183,ntmps183
 go_wp2
 go_loop [3,9] (λn i=>∃ k x:Nat,k<=ss.length/\i= .int .i64 k/\n= .int .u32 x/\x=zt 4294967295 (Fi (ss.take k))/\x<4294967296) (λ_ i=>ss.length - (intOf i).toNat)
 case atStart=>exact ⟨0,4294967295,Nat.zero_le _,rfl,rfl,rfl,om⟩
 case round=>
  obtain ⟨k,x,hk,rfl,rfl,hx,hxlt⟩:=hrel;have HX:=Lib.hid hx;clear hx
  by_cases hlt:k<ss.length
  .have hcell:=HC.out k hlt;have hsz:=HS.out (ss.getD k ByteArray.empty) (by simp_all);have HFS:=Lib.hid (aof ss k hlt);generalize ss.getD k ByteArray.empty=s at*
   go_wp2
   go_loop [3,15] (λn i=>∃ j y:Nat,j<=s.size/\i= .int .i64 j/\n= .int .u32 y/\y=zt x (s.data.toList.take j)/\y<4294967296) (λ_ i=>s.size - (intOf i).toNat)
   case atStart=>exact ⟨0,x,ar _,rfl,rfl,rfl,hxlt⟩
   case round=>
    obtain ⟨j,y,hj,rfl,rfl,hy,hylt⟩:=hrel;have HY:=Lib.hid hy;clear hy
    by_cases hjt:j<s.size
    .have HT:=Lib.hid (aom s j hjt)
     go_wp2_with (go_at_call 227;refine (aoe _ _ hylt (ca _) _ HA0.out HA1.out).mono ?_;rintro e w' ⟨rfl,rfl⟩)
     grind [HT.out,amR,HY.out,aaa,intOf]
    .go_wp2
     go_round
     case rel=>exact ⟨k+1,y,om,by go_num,rfl,by rw [HFS.out,amP,<-HX.out,HY.out,bj (by simp;omega)],hylt⟩
     grind [intOf]
  .go_wp2
   go_ret
   refine ⟨?_,rfl⟩;rw [HX.out,bj om];rfl
theorem abx (n:Nat) (hn:n<4294967296) (w:World):
  Calls prog 182 #[.int .u32 (n:Int)] w λe w'=>e= .returned (.string ⟨(vW n).toArray⟩)/\nP w.heap.size w w':=by
 have hcv:=ahV (P:=prog) w 126 5 9 5 underlying126 underlying5 underlying9 [(n:Int) / 16777216,(n:Int) / 65536 % 256,(n:Int) / 256 % 256,(n:Int) % 256] 4;simp only [aL,cv,bp,cJ] at hcv;have hfin:strOfNums [(n:Int) / 16777216,(n:Int) / 65536 % 256,(n:Int) / 256 % 256,(n:Int) % 256]=⟨(vW n).toArray⟩:=by
  unfold strOfNums vW;simp only [bp,cJ];rw [show ((n:Int) / 16777216).toNat=n / 16777216 from om,show ((n:Int) / 65536 % 256).toNat=n / 65536 % 256 from om,show ((n:Int) / 256 % 256).toNat=n / 256 % 256 from om,show ((n:Int) % 256).toNat=n % 256 from om,QJ,QJ,QJ]
 generalize strOfNums [(n:Int) / 16777216,(n:Int) / 65536 % 256,(n:Int) / 256 % 256,(n:Int) % 256]=S at*;have HF:=Lib.hid hfin;clear hfin
 go_enter func182,ntmps182
 go_wp2
 go_ret
 exact ⟨by rw [HF.out];rfl,(nP.vP _ _).Az (aq _) _⟩
theorem aby (s) (a:s.size<=maxLen) (w b c) (S:zE w) (d:w.cell? ⟨b,0,none⟩=some (.string s)):
  Calls prog 183 #[.slice (some ⟨b,0,none⟩) 1 c] w λe w'=>e= .returned (.int .u32 (vX s.data.toList))/\w=w':=by
 have h:=aol [s] b 0 c (by simpa using a) (by unfold maxLen;simp) w S.2.1 S.2.2 (by simp_all);have e:Fi [s]=s.data.toList:=by simp [Fi]
 simp_all
def AV (s:ByteArray):ByteArray:=⟨(vW (vX s.data.toList)).toArray⟩
theorem aoj (s:ByteArray) (hs:s.size<1000000000) (w:World) (S:zE w):
  Calls prog 113 #[.string s] w λe w'=>e= .returned (.string (s++AV s))/\nP w.heap.size w w':=by
 have hlt:=aab s.data.toList;have hm:s.size<=maxLen:=by unfold maxLen;omega
 have h1:=aby s hm;have hsz:(AV s).size<=4:=by simp [AV,vW,ByteArray.size]
 have hb:=λw=>abx (vX s.data.toList) hlt w
 have hdef:(⟨(vW (vX s.data.toList)).toArray⟩:ByteArray)=AV s:=rfl;rw [hdef] at hb;generalize AV s=B at*;generalize vX s.data.toList=n at*;have H1:=Lib.hid h1;have HB:=Lib.hid hb;clear h1 hb hm hdef
 go_enter func113,ntmps113
 go_wp2_with fail
 refine (H1.out _ _ _ (S.abv _) (by simp)).mono ?_;rintro e w' ⟨rfl,rfl⟩
 go_wp2_with fail
 refine (HB.out _).mono ?_;rintro e w' ⟨rfl,hb⟩
 go_wp2_with fail
 go_ret
 exact ⟨rfl,((nP.vP _ _).Az (aq _) _).MQ (hb.MP (by simp))⟩
def vl (s:ByteArray):ByteArray:=s.extract 0 (s.size - 4)
def SK (s:ByteArray):ByteArray:=s.extract (s.size - 4) s.size
theorem aoi (s:ByteArray) (hs:s.size<4) (w:World):
  Calls prog 262 #[.string s] w λe w'=>e= .returned (.tuple #[.string ⟨#[]⟩, .bool false])/\w=w':=by
 go_enter func262,ntmps262
 go_wp2_with fail
 go_ret2
 trivial
def DC (s:ByteArray):Bool:=(AV (vl s)).toList==(SK s).toList
def KA (c:Bool) (s:ByteArray):Value:=if c=true then .tuple #[.string (vl s), .bool true] else .tuple #[.string ⟨#[]⟩, .bool false]
theorem aoh (s:ByteArray) (hs:s.size<1000000000) (h4:4<=s.size) (w:World) (S:zE w):
  Calls prog 262 #[.string s] w λe w'=>e= .returned (KA (DC s) s)/\nP w.heap.size w w':=by
 have hm:(vl s).size<=maxLen:=by grind [maxLen,vl,ByteArray.size_extract]
 have hlt:=aab (vl s).data.toList;have h1:=aby (vl s) hm;have hb:=λw=>abx (vX (vl s).data.toList) hlt w
 have hdef:(⟨(vW (vX (vl s).data.toList)).toArray⟩:ByteArray)=AV (vl s):=rfl;rw [hdef] at hb;have HO:Hid (DC s=((AV (vl s)).toList==(s.extract (s.size - 4) s.size).toList)):=Lib.hid rfl;generalize AV (vl s)=B at*;generalize vX (vl s).data.toList=n at*;have H1:=Lib.hid h1;have HB:=Lib.hid hb;clear h1 hb hm hdef;unfold vl at H1;have hlo:(4:Int)<=(s.size:Int):=om;have hwr:IntKind.i64.wrap ((s.size:Int) - 4)=(s.size:Int) - 4:=IntWalk.i64_in _ om;obtain ⟨q,hq⟩:∃ q,(B.toList==(s.extract (s.size - 4) s.size).toList)=q:=⟨_,rfl⟩;have HF:Hid (DC s=q):=Lib.hid (HO.out.trans hq);clear HO
 go_enter func262,ntmps262
 go_wp2_with fail
 go_region_with (first|(go_at_call 183;refine (H1.out _ _ _ ?_ ?_).mono ?_;exact (S.abv _).aod;simp;rintro e w' ⟨rfl,rfl⟩)|(go_at_call 182;refine (HB.out _).mono ?_;rintro e w' ⟨rfl,hb⟩))
 all_goals
  cases q
  .go_wp2
   go_ret2
   exact ⟨by rw [HF.out];rfl,(((nP.vP _ _).Az (aq _) _).MO).MQ (hb.MP (by simp))⟩
  .go_wp2
   go_ret2
   exact ⟨by rw [HF.out];rfl,(((nP.vP _ _).Az (aq _) _).MO).MQ (hb.MP (by simp))⟩
theorem aog (s) (a:s.size<1000000000) (w) (S:zE w):
  Calls prog 262 #[.string s] w λe w'=>e= .returned (KA (decide (4<=s.size) && DC s) s)/\nP w.heap.size w w':=by
 by_cases h:4<=s.size
 .grind [aoh]
 .refine (aoi s om w).mono ?_;grind [KA,nP.vP]
theorem abz {w:World} (h:sX prog w):zE w:=by
 have g:prog.globalNamed "gunwale/sums.steps" =some 0:=by kernel_rfl
 have c:=h _ (aw.2 rfl) _ g 0 0 rfl;have a:=h _ (aw.2 rfl) _ g 1 79764919 rfl;exact ⟨ON c,c,a⟩
theorem aop (s:List UInt8) (c:s.length<1000000000):er prog 113 [.cp s] (.cp (rj s)):=
 .D8 (pL (fn:=f113) (by kernel_rfl) rfl (by kernel_rfl)) rfl (λw b=>(aoj ⟨s.toArray⟩ c w (abz b)).mono λ_ _ ⟨h,a⟩=>⟨h,a.G6⟩) (λ_ _=> .lW (by
  trivial))
def KB (s:List UInt8):b9:=if 4<=s.length/\vW (vX (s.take (s.length - 4)))=s.drop (s.length - 4) then .dn [.cp (s.take (s.length - 4)), .eD true] else .dn [.cp [], .eD false]
theorem abA (s:List UInt8):(vl ⟨s.toArray⟩).data.toList=s.take (s.length - 4):=by
 unfold vl;rw [Lib.extract_data,Nat.sub_zero];rfl
theorem aoq (s:List UInt8):(SK ⟨s.toArray⟩).data.toList=s.drop (s.length - 4):=by
 unfold SK;rw [Lib.extract_data];rw [bj (by simp;exact aq _)];rfl
theorem aon (s:List UInt8) (w:World) (F:Nat->Nat->Prop):gb w F (KB s) (KA (decide (4<=(⟨s.toArray⟩:ByteArray).size) && DC ⟨s.toArray⟩) ⟨s.toArray⟩):=by
 have b:(DC ⟨s.toArray⟩=true)↔vW (vX (s.take (s.length - 4)))=s.drop (s.length - 4):=by
  grind [DC,ahU,aoq,AV,abA]
 unfold KB KA
 by_cases a:4<=s.length
 .rw [aO (show 4<=(⟨s.toArray⟩:ByteArray).size from a),bo]
  by_cases o:DC ⟨s.toArray⟩=true
  .rw [ak ⟨a,b.1 o⟩,ak o];exact .LJ (.lW (abA s)) (.rq true)
  .rw [ai (λh=>o (b.2 h.2)),ai o];exact .LJ (.lW rfl) (.rq false)
 .rw [aJ (show ¬4<=(⟨s.toArray⟩:ByteArray).size from a),cC,ai (λh=>a h.1),ai dd];exact .LJ (.lW rfl) (.rq false)
theorem aoo (s:List UInt8) (c:s.length<1000000000):er prog 262 [.cp s] (KB s):=
 .D8 (pL (fn:=f262) (by kernel_rfl) rfl (by kernel_rfl)) rfl (λw b=>(aog ⟨s.toArray⟩ c w (abz b)).mono λ_ _ ⟨h,a⟩=>⟨h,a.G6⟩) (aon s)
end Go.Proofs.YtffboamedcmpaaaGreatDoor
