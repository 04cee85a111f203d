import Derived.Laws.MakeOwn
import Derived.Scope
import Derived.TacticsIn
import Derived.OrdersIn
import Derived.RangeFuncCalls
import Derived.RangeFuncRecord
import Derived.Test.YtffboamedcmpaaaGreatDoorAd
set_option linter.all false
set_option maxHeartbeats 4000000
set_option maxRecDepth 100000
namespace Go.Am
open Go.RowKit
section
variable {P:Program} {T:iw} {b:jL P} {σ:eK} {D:Nat->Prop} {g:gX} {a:Act} {w:World}
theorem fl.Un (h:fl b σ D g w) (id):fl b (fc σ (.ay id) .fB) D g w:=h.xy _
theorem ae5 (hT:jc P T) (h:fl b σ D g w) {f:Nat} (_hf1:g.fk f=none) (hf2:g.gF f=none) {t tx ty e} {n0 b0:Nat} {z0:List b9} (hr:hU T t=some ⟨.jn e,n0,b0,z0⟩) {r:xB} (he:hU T e=some r)
  {id len:Nat} {els n:List (List b9)} {nv:List Value} {xv sv} (hs:eH w g (.eP id 0 r.eV len true) sv) (y:A8 P w g.fP r.eV tx xv n nv) (l:σ (.ay id)= .eY e els.flatten) (Q:els.length=len) (F:∀ Y∈els,Y.length=r.eV)
  (hpu:kT els.flatten=true) (L:ua (els.length+n.length) r.Bd):
  ∃ val w' g',(Builtin.append_ #[t,tx] ty #[sv,xv]).run P w= .ok val w'/\eH w' g' (.a8 false r.eV (els++n) (.je f)) val/\
   fl b (fc (fc σ (.ay id) .fB) (.eT f) (.eU e r.eV (els.length+n.length))) (λi=>D i\/i=f) g' w'/\iN g w g' w':=by
 obtain ⟨i,zv,q1,q2,q3,q3',q4,q5,q6,_⟩:=xB.ud hT he;have A:=(hT t _ hr).1;simp only at A;obtain ⟨c,cap,ad,U,rfl,p3,p4,p5,p6⟩:=hs.qS;obtain ⟨_,rfl,tt,hshape⟩:=p6 rfl;subst Q;obtain ⟨c',l1,l2,l3,l4⟩:=h.iR id (by rw [l];rfl);rw [U] at l1;cases l1;obtain ⟨k,z,m1,m2,m3,m4⟩:=h.sY id e els.flatten c l U;have hal:k.length=cap*r.eV:=by
  grind [World.shape?]
 have hfle:=pK r.eV els F;have hnl:nv.length=n.length*r.eV:=y.rp.newsLen;have E:=y.rp;rw [<-q3] at E;have hfl:(els++n).flatten=els.flatten++n.flatten:=by simp
 have hln:=pK r.eV n y.zS;have I:∀ (i:Nat) x v,els.flatten[i]? =some x->k[i]? =some v->v.oneCell'=true:=λi x v K J=>xF (.fJ (m4 i x v K J)) (CG hpu i x K)
 have R:∀ d,((fc σ (.ay id) .fB) (.ay d)).jb=true->g.fk d≠some c:=λd Z hc=>by
  by_cases O:d=id
  .subst O;rw [lX] at Z;cases Z
  .rw [g9 (by simp_all)] at Z;exact O (h.np d id c Z (by rw [l];rfl) hc U)
 have H:∀ d t sz N N',d≠f->(fc σ (.ay id) .fB) (.eT d)= .eU t sz N->g.gF d≠some (some c,N'):=λd t sz N N' _ S hc=>by
  rw [g9 (by intro e;cases e)] at S;obtain ⟨bk,b1,b2⟩:=h.ln d t sz N S;have hbb:bk=some c:=by simp_all
  exact (b2 c hbb).2.2.2.1 id (by rw [l];rfl) U
 by_cases m:els.length+n.length<=cap
 .have hle:els.length*r.eV+nv.length<=k.length:=by rw [hnl,hal,<-cl];exact bI _ m
  obtain ⟨s1,s2,s3,s4⟩:=IN c (els.length*r.eV) nv m1 hle m3 y.rp.one;have B:=run_append_room_src (P:=P) w t tx ty e i A q1 c 0 els.length cap xv n.length nv E m (by simp_all) (by simp_all);rw [bZ,q3] at B;obtain ⟨h1,e1⟩:=h.ot (X:= .fB) (by rw [l];rfl) U s1 (λh=>by cases h);have mn:min (els.length*r.eV) k.length=els.length*r.eV:=om;have s:∀ (j:Nat) x v,(els++n).flatten[j]? =some x->(k.take (els.length*r.eV)++nv++k.drop (els.length*r.eV+nv.length))[j]? =some v->
    (els.flatten[j]? =some x/\k[j]? =some v)\/(n.flatten[j - els.length*r.eV]? =some x/\nv[j - els.length*r.eV]? =some v):=by
   grind
  obtain ⟨k1,k2,k3⟩:=h1.DT (id:=f) (c:=c) (sz:=r.eV) (N:=els.length+n.length) (cap:=cap) (t:=e) (z:=z) (els:=els++n) (by simp) (λbk M hM=>by simp_all) (.inr l4) l2 (by grind)
   (λo ho=>absurd ho (l4 o)) R H s2 (λo ho=>m3 o (by simp at ho;omega)) (by simp;omega) m
   (λY hel=>by rcases aF.1 hel with p|p;exact F Y p;exact y.zS Y p)
   (λj x v K J=>by
    rcases s j x v K J with ⟨p,q⟩|⟨_,p⟩
    .grind
    .exact y.rp.one v (bh p))
   (λj x v K J=>by
    rcases s j x v K J with ⟨p,q⟩|⟨p,q⟩
    .exact (m4 j x v p q).ka e1.jC
    .exact (y.FI _ x v p q).ka e1.jC)
  exact ⟨_,_,_,B,k3.FO,k1,e1.lF k2⟩
 .have hle2:els.length*r.eV<=k.length:=om;obtain ⟨val,w',g',k1,k2,k3,k4⟩:=Lj (ty:=ty) (c:=cap) (ad:=some ⟨c,0,none⟩) hT (h.xy (.ay id)) hr he (id:=f) (els:=els) (λbk M hM=>by simp_all) y L om (olds:=k.take (els.length*r.eV)) (by simp_all)
   (λw' hw=>FU P (w:=w) (by simp_all) (λh0=>⟨c,0,rfl,λi v J=>by
    grind [ru]⟩) w' hw) F (λi x v K J=>by
    grind) (λu hu=>by
    obtain ⟨i,hi,rfl⟩:=bC hu;have hi2:i<els.flatten.length:=by grind
    rw [List.getElem_take];exact I i _ _ (aj hi2) (aj om))
  grind [k2.FO]
theorem ae4 (S:jc P T) (h:fl b σ D g w) {f:Nat} {t tx ty e} {n0 b0:Nat} {z0:List b9} (hr:hU T t=some ⟨.jn e,n0,b0,z0⟩) {r:xB} (he:hU T e=some r)
  {id len:Nat} {cells:List b9} {n:List (List b9)} {nv:List Value} {R sv} (hs:eH w g (.eP id 0 r.eV len true) sv) (E:A8 P w g.fP r.eV tx R n nv) (k:σ (.ay id)= .eY e cells) (B:(len+n.length)*r.eV<=cells.length) (F:0<r.eV):
  ∃ val w' g',(Builtin.append_ #[t,tx] ty #[sv,R]).run P w= .ok val w'/\eH w' g' (.eP id 0 r.eV (len+n.length) true) val/\
   fl b (fc σ (.ay id) (.eY e (cells.take (len*r.eV)++n.flatten++cells.drop ((len+n.length)*r.eV)))) (λi=>D i\/i=f) g' w'/\iN g w g' w':=by
 obtain ⟨i,zv,q1,q2,Z,q3',q4,q5,q6,_⟩:=xB.ud S he;have m:=(S t _ hr).1;simp only at m;obtain ⟨c,q,ad,Q,rfl,p3,p4,p5,p6⟩:=hs.qS;obtain ⟨_,rfl,tt,J⟩:=p6 rfl;obtain ⟨d,z,m1,m2,Y,m4⟩:=h.sY id e cells c k Q;have hal:d.length=q*r.eV:=by
  grind [World.shape?]
 have l:len+n.length<=q:=Nat.le_of_mul_le_mul_right (av B om) F;have hnl:nv.length=n.length*r.eV:=E.rp.newsLen;have O:=pK r.eV n E.zS;have s:=E.rp;rw [<-Z] at s;have U:(len+n.length)*r.eV=len*r.eV+n.length*r.eV:=cl _ _ _;have N:len*r.eV+nv.length<=d.length:=om;obtain ⟨K,s2,s3,s4⟩:=IN c (len*r.eV) nv m1 N Y E.rp.one;have u:=run_append_room_src (P:=P) w t tx ty e i m q1 c 0 len q R n.length nv s l (by simp_all) (by simp_all);rw [bZ,Z] at u;have y:(cells.take (len*r.eV)++n.flatten++cells.drop ((len+n.length)*r.eV)).length<=(d.take (len*r.eV)++nv++d.drop (len*r.eV+nv.length)).length:=by
  grind
 have A:∀ (p:Nat) x v,(cells.take (len*r.eV)++n.flatten++cells.drop ((len+n.length)*r.eV))[p]? =some x->(d.take (len*r.eV)++nv++d.drop (len*r.eV+nv.length))[p]? =some v->gb (w.setCells c (len*r.eV) nv) g.fP x v:=by
  intro p x v I H;have m4':∀ (j:Nat) x v,cells[j]? =some x->d[j]? =some v->gb (w.setCells c (len*r.eV) nv) g.fP x v:=λj x v I H=>(m4 j x v I H).ka (iN.tZ (g:=g) K (h.iR id (by rw [k];rfl)|>.elim λc' L=>by
   simp_all)).jC
  have hnr:∀ (j:Nat) x v,n.flatten[j]? =some x->nv[j]? =some v->gb (w.setCells c (len*r.eV) nv) g.fP x v:=λj x v I H=>(E.FI j x v I H).ka (iN.tZ (g:=g) K (h.iR id (by rw [k];rfl)|>.elim λc' L=>by
   simp_all)).jC
  have t1:(cells.take (len*r.eV)).length=len*r.eV:=by grind
  have t2:(d.take (len*r.eV)).length=len*r.eV:=by simp_all
  by_cases hp1:p<len*r.eV
  .grind
  .by_cases hp2:p<len*r.eV+nv.length
   .grind
   .rw [aW (by simp_all),au,t1,O,br] at I;rw [aW (by simp_all),au,t2,br] at H;grind
 obtain ⟨h1,e1⟩:=h.ot (X:= .eY e (cells.take (len*r.eV)++n.flatten++cells.drop ((len+n.length)*r.eV))) (by rw [k];rfl) Q K (λ_=>⟨_,z,s2,y,λo ho=>Y o (by simp at ho;omega),A⟩);exact ⟨_,_,_,u, .oV Q (λ_=>rfl) rfl l (λ_=>⟨rfl,rfl,tt,by grind [K.II]⟩),h1.mQ (λi hi=> .inl hi),e1⟩
theorem ae6 (E:jc P T) (h:fl b σ D g w) {f} (n:g.fk f=none) (o:g.gF f=none) {t tx ty s x R U} (I:eH w g s R) (hx:eH w g x U) {v us} (d:(F2 σ T f t tx s x).ld v us):
  ∃ val w' g',(Builtin.append_ #[t,tx] ty #[R,U]).run P w= .ok val w'/\eH w' g' v val/\fl b (jP σ us) (λi=>D i\/i=f) g' w'/\iN g w g' w':=by
 simp only [F2,iv] at d;cases u:hU T t with
 |none=>simp only [u] at d;exact d.elim
 |some r=>
  obtain ⟨ti,n0,b0,z0⟩:=r;simp only [u] at d;cases ti with
  |jn e=>
   simp only at d;cases p:hU T e with
   |none=>simp only [p] at d;exact d.elim
   |some r=>
    obtain ⟨tie,S,J,ze⟩:=r;simp only [p] at d;obtain ⟨Q,nv,H,q⟩:=aef E h hx d;clear d;cases s with
    |a8 O z K tk=>
     simp only at q;cases l:Nat.beq z S with
     |true=>
      simp only [l] at q;have j:=bc l;subst j;exact TS E h n o u p I H q
     |false=>
      simp only [l] at q;obtain ⟨j,q⟩:=q;subst j;refine TS E h n o u p (tk:=D4 tk) ?_ H q;obtain ⟨ad,c,y,A,Y⟩:=I.nq;rw [y];refine .m7 (Ln A) ?_;cases tk with
      |dm=>trivial
      |fW=>exact Y
      |je id=>trivial
      |hJ id=>trivial
    |eP id F z len B=>
     cases F with
     |succ F=>exact q.elim
     |zero=>
      cases B with
      |false=>exact q.elim
      |true=>
       simp only at q;cases l:Nat.beq z S with
       |false=>simp only [l] at q;exact q.elim
       |true=>
        simp only [l] at q;have j:=bc l;subst j;cases k:σ (.ay id) with
        |eY X cells=>
         simp only [k] at q;cases m:Nat.beq X e with
         |false=>simp only [m] at q;exact q.elim
         |true=>
          simp only [m] at q;have j:=bc m;subst j;split at q
          .obtain ⟨⟨L,N⟩,y,A⟩:=q;subst y A;exact ae4 E h u p I H k L N
          obtain ⟨K,⟨L,N,Z,h4,h5⟩,y,A⟩:=q;subst y A Z;exact ae5 E h n o u p I H k L N h4 h5
        |_=>simp only [k] at q;exact q.elim
    |_=>exact q.elim
  |_=>exact d.elim
end
section
variable {P:Program} {T:iw} {b:jL P} {σ:eK} {D:Nat->Prop} {g:gX} {a:Act} {w:World}
theorem afl (hT:jc P T) (h:fl b σ D g w) {f:Nat} (hf1:g.fk f=none) (hf2:g.gF f=none) {t l c} {us:List (fQ×gC)} {v} {dst ty pos after guard}
  (k:(iK P T σ f ⟨dst, .makeSlice t l c,ty,pos,after,guard⟩).ld v us) (hl:eH w g (eR σ l) (a.eval l)) (I:eH w g (eR σ c) (a.eval c)):lu P b σ us f D g a w ⟨dst, .makeSlice t l c,ty,pos,after,guard⟩ v:=by
 simp only [iK,iv] at k;cases hr:hU T t with
 |none=>simp only [hr] at k;exact k.elim
 |some r=>
  have u:=(hT t _ hr).1;obtain ⟨ti,n0,b0,z0⟩:=r;simp only [hr] at k u;cases ti with
  |jn e=>
   simp only at k u;cases R:hU T e with
   |none=>simp only [R] at k;exact k.elim
   |some r=>
    obtain ⟨tie,sz,s,d⟩:=r;simp only [R] at k;obtain ⟨i,z,q1,q2,q3,q3',q4,q5,q6,_⟩:=xB.ud hT R;simp only at q3 q3' q4 q5 q6;have O:∀ q p (n m:Int),a.eval l= .int q n->a.eval c= .int p m->0<=n->n<=m->ua m.toNat s->(execOp a.eval ⟨dst, .makeSlice t l c,ty,pos,after,guard⟩).run P w= .ok (.value (.slice (some ⟨w.heap.size,0,none⟩) n.toNat m.toNat)) (w.alloc (.cells (madeCells z.cells (m.toNat*sz)).toList.toArray e)):=by
     intro q p n m E F H B Q;obtain ⟨f1,f2⟩:=Q;have hm:=run_make (P:=P) w t e i z u q1 q2 q p n m H B (by
      grind) om
     rw [q3] at hm;simp only [execOp,E,F,Sem.run_bind,hm,Result.andThen_ok,Sem.run_pure]
    have hmc:∀ (n:Nat) w g (j:Nat) x v,(jM n d)[j]? =some x->(madeCells z.cells (n*sz)).toList[j]? =some v->eH w g x v:=by
     intro n w g j x v J hv;obtain ⟨i',z',p1,p2,_,_,_,_,p6⟩:=Ui hT R n;rw [q1] at p1;cases p1;rw [q2] at p2;cases p2;exact p6 w g j x v J hv
    have hml:∀ n,(madeCells z.cells (n*sz)).toList.length=n*sz:=λn=>size_madeCells _ _
    have L:∀ (m:Int),(∃ q,a.eval l= .int q 0)->(∃ p,eR σ c= .ax p m)->0<=m->ua m.toNat s->v= .a8 false sz [] (.je f)->us=[(.eT f, .eU e sz 0)]->lu P b σ us f D g a w ⟨dst, .makeSlice t l c,ty,pos,after,guard⟩ v:=by
     intro m ⟨q,E⟩ ⟨p,F⟩ H B S U;subst S U;rw [F] at I;have A:=O q p 0 m E I.p8 (bL _) H B;obtain ⟨B,X⟩:=h.ub ((Below.refl _ w).alloc (aq _) (.cells (madeCells z.cells (m.toNat*sz)).toList.toArray e));obtain ⟨k1,k2,k3⟩:=B.DT (id:=f) (c:=w.heap.size) (sz:=sz) (N:=0) (cap:=m.toNat) (t:=e) (z:=(0,0)) (els:=[]) rfl (λbk M hM=>by simp_all) (.inr λo Y=>absurd (h.lv _ _ Y) (cu _)) (.inl h.jF.pZ) (by simp)
      (λo Y=>absurd (h.lv _ _ Y) (cu _)) (λid' hl I=>absurd (h.ko _ _ I) (cu _)) (λid' t sz N N' _ _ I=>absurd (h.mc _ _ _ I) (cu _)) (heap_alloc_new w _) (λo _=>by simp only;omega) (hml _) (ar _)
      (by simp) (λi x v J=>by simp at J) (λi x v J=>by simp at J)
     exact ⟨_,_,_,_,A, .inl rfl,k3.FO,k1,X.lF k2⟩
    have mem:∀ (n m:Int),(∃ q,eR σ l= .ax q n)->(∃ p,eR σ c= .ax p m)->pr d=true->0<=n->n=m->ua m.toNat s->v= .eP f 0 sz n.toNat true->us=[(.ay f, .eY e (jM n.toNat (mB d)))]->lu P b σ us f D g a w ⟨dst, .makeSlice t l c,ty,pos,after,guard⟩ v:=by
     intro n m ⟨q,E⟩ ⟨p,F⟩ hpu H B Q S U;subst S U B;rw [E] at hl;rw [F] at I;have A:=O q p n n hl.p8 I.p8 H (bL _) Q;obtain ⟨k1,k2⟩:=h.K9 hf1 (t:=e) (cells:=jM n.toNat (mB d)) (arr:=(madeCells z.cells (n.toNat*sz)).toList) (z:=(0,0)) (by grind [wK,wI]) (λo _=>by simp only;omega)
      (λi x v J hv=>by
       obtain ⟨g1,g2⟩:=IM _ _ _ _ J;obtain ⟨y,hy,rfl⟩:=wH g1;rw [wI] at hy g2;have hz0:(jM n.toNat d)[i]? =some y:=by
        have hi:i<(jM n.toNat d).length:=by rw [wK];exact g2
        obtain ⟨g3,_⟩:=IM n.toNat d i _ (aj hi);simp_all
       grind [xH,xG])
     refine ⟨_,_,_,_,A, .inl rfl, .oV (gX.qR _ _ _) (λ_=>rfl) rfl (aq _) (λ_=>⟨rfl,rfl,e,?_⟩),k1,k2⟩;grind [World.shape?,heap_alloc_new]
    have fin:(match eR σ l,eR σ c with
      | .ax _ n, .ax _ m=>match pr d with
       |true=>oG.jm (0<=n/\n=m/\ua m.toNat s) (.fV (.eP f 0 sz n.toNat true) [(.ay f, .eY e (jM n.toNat (mB d)))])
       |false=> .fL
      |_,_=> .fL:oG).ld v us->lu P b σ us f D g a w ⟨dst, .makeSlice t l c,ty,pos,after,guard⟩ v:=by
     intro k;cases Z:eR σ l with
     |ax q n=>
      cases K:eR σ c with
      |ax p m=>
       simp only [Z,K] at k;cases hp:pr d with
       |false=>simp only [hp] at k;exact k.elim
       |true=>
        simp only [hp] at k;obtain ⟨⟨H,B,Q⟩,E,F⟩:=k;simp_all
      |_=>simp only [Z,K] at k;exact k.elim
     |_=>simp only [Z] at k;exact k.elim
    clear mem;cases hz:LC l with
    |true=>
     simp only [hz] at k;cases K:eR σ c with
     |ax p m=>
      simp only [K] at k;obtain ⟨⟨H,B⟩,E,F⟩:=k;exact L m (aet hz a) ⟨p,K⟩ H B E F
     |_=>simp_all
    |false=>
     grind
  |_=>exact k.elim
end
section
variable {P:Program} {T:iw} {b:jL P} {σ:eK} {D:Nat->Prop} {g:gX} {a:Act} {w:World}
structure Pa (P:Program) (w:World) (F:Nat->Nat->Prop) (sz:Nat) (xv:Value) (n:Nat) (src:List b9) (nv:List Value):Prop where
 aeP:(Builtin.lenOf xv).run P w= .ok n w
 aeT:src.length=n*sz
 aeQ:nv.length=n*sz
 aeO:∀ m,m<=n->(Builtin.firstCells sz m xv).run P w= .ok (nv.take (m*sz)).toArray w
 aeS:∀ (i:Nat) (x:b9) (v:Value),src[i]? =some x->nv[i]? =some v->gb w F x v
 aeR:∀ u∈nv,u.oneCell'=true
theorem afx (h:fl b σ D g w) {sz:Nat} {x:b9} {xv:Value} (p:eH w g x xv) {k:Nat->List b9->oG} {v:b9} {us:List (fQ×gC)} (d:(F1 σ x k sz).ld v us):
  ∃ n src nv,Pa P w g.fP sz xv n src nv/\(k n src).ld v us:=by
 unfold F1 at d;cases x with
 |cp s=>
  simp only at d;cases y:Nat.beq sz 1 with
  |false=>simp only [y] at d;exact d.elim
  |true=>
   simp only [y] at d;have K:=bc y;subst K;obtain ⟨ba,rfl,q2⟩:=p.vw;have X:ba.size=s.length:=by rw [<-q2];rfl
   refine ⟨s.length,ir s,s.map (λc=>Value.int .u8 (c.toNat:Int)),⟨by simp [Builtin.lenOf,X],by simp [ir],by simp,λm O=>?_,λi x v p A=>?_,λu Y=>?_⟩,d⟩
   .simp only [Builtin.firstCells,Sem.run_pure];congr 1;grind [Array.toList_map,TT,List.map_take]
   .obtain ⟨c,hc,rfl⟩:=TU p;rw [bU,hc] at A;simp at A;subst A;exact .kS _ _
   .obtain ⟨c,_,rfl⟩:=aE.1 Y;rfl
 |a8 N z f tk=>
  simp only at d;obtain ⟨ad,c,rfl,I,_⟩:=p.nq;have Q:∀ f:List (List b9),gb w g.fP (.a8 N sz f .dm) (.slice ad f.length c)->∃ nv,Pa P w g.fP sz (.slice ad f.length c) f.length f.flatten nv:=by
   intro f I;obtain ⟨B,o1,o2,o3,o4,o5,o6,o7⟩:=I.OC;refine ⟨B,by trivial,pK sz f o4,o1,λm O=>?_,o5,o6⟩;have U:m*sz<=f.length*sz:=bI _ O;have J:=FU (w:=w) P (sz:=sz) (n:=m) (c:=c) (ad:=ad) (vs:=B.take (m*sz)) (by simp_all) (λh0=>by
    grind) w rfl
   cases ad<;>simpa [Builtin.firstCells] using J
  cases y:Nat.beq z sz with
  |true=>
   grind [Nat.eq_of_beq_eq_true]
  |false=>
   simp only [y] at d;obtain ⟨K,d⟩:=d;grind [Ln]
 |eP id o z len Z=>
  simp only at d;cases y:Nat.beq z sz with
  |false=>simp only [y] at d;exact d.elim
  |true=>
   simp only [y] at d;have K:=bc y;subst K;obtain ⟨c,E,ad,q1,rfl,q3,q4,q5,q6⟩:=p.qS;have Q:∀ (l src:List b9),o+len*z<=l.length->src.length=len*z->(∃ vs:Nat->Value,(∀ j x,l[j]? =some x->w.cell? ⟨c,j,none⟩=some (vs j))/\∀ i x,src[i]? =some x->(vs (o+i)).oneCell'=true/\gb w g.fP x (vs (o+i)))->
     ∃ nv,Pa P w g.fP z (.slice ad len E) len src nv:=by
    intro l src L R F;obtain ⟨vs,F,h4⟩:=F;have H:∀ (i:Nat) (v:Value),((List.range (len*z)).map λi=>vs (o+i))[i]? =some v->v=vs (o+i)/\i<len*z:=by
     grind
    refine ⟨(List.range (len*z)).map λi=>vs (o+i),by trivial,R,by simp,λm O=>?_,λi x v p A=>?_,λu Y=>?_⟩
    .have U:m*z<=len*z:=bI _ O;have J:=FU (w:=w) P (sz:=z) (n:=m) (c:=E) (ad:=ad) (vs:=((List.range (len*z)).map λi=>vs (o+i)).take (m*z)) (by simp_all) (λh0=>by
      have S:0<len:=by
       grind
      refine ⟨c,o,q3 S,λi v A=>?_⟩;rw [bq] at A;split at A
      .obtain ⟨rfl,hi⟩:=H i v A;exact F (o+i) l[o+i] (aj om)
      .cases A) w rfl
     grind [Builtin.firstCells]
    .grind
    .obtain ⟨i,hi,rfl⟩:=bC Y;obtain ⟨e,hi'⟩:=H i _ (aj hi);simp_all
   cases q:σ (.ay id) with
   |eY bt l=>
    simp only [q] at d;obtain ⟨⟨L,R⟩,d⟩:=d;obtain ⟨vs,r⟩:=h.Iy q q1;obtain ⟨nv,hn⟩:=Q l ((l.drop o).take (len*z)) L (by grind) ⟨vs,λj x p=>(r j x p).1,λi x p=>by
     have F:=CG R i x p;rw [bq] at p;split at p
     .rw [br] at p;exact ⟨xF (.fJ (r _ x p).2) F,(r _ x p).2⟩
     .cases p⟩
    grind
   |dc bt l=>
    simp only [q] at d;cases I:pr l with
    |false=>simp only [I] at d;exact d.elim
    |true=>
     simp only [I] at d;obtain ⟨L,d⟩:=d;obtain ⟨vs,r⟩:=h.Iw q q1;obtain ⟨nv,hn⟩:=Q l (mB ((l.drop o).take (len*z))) L (by grind [wI]) ⟨vs,λj x p=>(r j x p).1,λi x p=>by
      grind [wH,xG,xF,OT,xH]⟩
     grind
   |_=>simp only [q] at d;exact d.elim
 |_=>exact d.elim
theorem Vl {R:b9->Value->Prop} {cells src:List b9} {arr nv:List Value} {off:Nat} (e:off+src.length<=cells.length) (l:cells.length<=arr.length) (h:src.length=nv.length)
  (c:∀ (i:Nat) (x:b9) (v:Value),cells[i]? =some x->arr[i]? =some v->R x v) (d:∀ (i:Nat) (x:b9) (v:Value),src[i]? =some x->nv[i]? =some v->R x v) (i:Nat) (x:b9) (v:Value)
  (j:(cells.take off++src++cells.drop (off+src.length))[i]? =some x) (f:(arr.take off++nv++arr.drop (off+nv.length))[i]? =some v):R x v:=by
 grind
theorem afb (hT:jc P T) (h:fl b σ D g w) {t tx ty:TypeId} {d x:b9} {dv xv:Value} (hd:eH w g d dv) (A:eH w g x xv) {v:b9} {us:List (fQ×gC)} (j:(F4 σ T t d x).ld v us):
  ∃ val w',(Builtin.copy_ #[t,tx] ty #[dv,xv]).run P w= .ok val w'/\eH w' g v val/\fl b (jP σ us) D g w'/\iN g w g w':=by
 simp only [F4,iv] at j;cases hr:hU T t with
 |none=>simp only [hr] at j;exact j.elim
 |some r=>
  have l:=(hT t _ hr).1;obtain ⟨ti,n0,b0,z0⟩:=r;simp only [hr] at j l;cases ti with
  |jn e=>
   simp only at j l;cases he:hU T e with
   |none=>simp only [he] at j;exact j.elim
   |some r=>
    have J:=Bk hT he;obtain ⟨tie,sz,Y,ze⟩:=r;simp only [he] at j J;obtain ⟨n,src,nv,E,q⟩:=afx (P:=P) h A j;clear j;cases d with
    |eP id off s len full=>
     simp only at q;cases hb:Nat.beq s sz with
     |false=>simp only [hb] at q;exact q.elim
     |true=>
      simp only [hb] at q;have e0:=bc hb;subst e0;obtain ⟨c,Z,ad,Q,rfl,q3,q4,q5,q6⟩:=hd.qS;obtain ⟨B,rfl⟩:=bN.1 q4;have hnl:(nv.take (min n len*s)).length=min n len*s:=by
       grind [E.aeQ,Nat.mul_le_mul_right]
      have I:(src.take (min n len*s)).length=min n len*s:=by
       grind [E.aeT,Nat.mul_le_mul_right]
      have hml:min n len*s<=len*s:=bI _ (Nat.min_le_right _ _);have N:∀ w',(storeCells B (nv.take (min n len*s)) 0).run P w= .ok () w'->(Builtin.copy_ #[t,tx] ty #[.slice (some B) len Z,xv]).run P w= .ok (.int .i64 ((min n len:Nat):Int)) w':=by
       intro w' hst;have hc:=E.aeO (min n len) (Nat.min_le_left _ _);have hl:=E.aeP;simp only [Builtin.copy_,dt,cZ,List.getElem?_cons_succ,Sem.run_bind,run_underlying l,Result.andThen_ok,hl,J,Nat.min_def] at hc ⊢;grind [Result.andThen_ok,Sem.run_pure,goInt]
      have p:∀ (i:Nat) (x:b9) (v:Value),(src.take (min n len*s))[i]? =some x->(nv.take (min n len*s))[i]? =some v->gb w g.fP x v:=by
       intro i x v A L;rw [bq] at A L;split at A
       .rename_i hi;rw [ak hi] at L;exact E.aeS i x v A L
       .cases A
      have H:∀ u∈nv.take (min n len*s),u.oneCell'=true:=λu K=>E.aeR u (cX K)
      have m:∀ (arr:List Value) (f:TypeId) (z:Nat×Nat),w.heap[c]? =some (.cells arr.toArray f z)->off+len*s<=arr.length->(∀ o,o<arr.length->¬(z.1<=o/\o<z.2))->
        ∃ w',(storeCells B (nv.take (min n len*s)) 0).run P w= .ok () w'/\oH c w w'/\w'.heap[c]? =some (.cells (arr.take off++nv.take (min n len*s)++arr.drop (off+(nv.take (min n len*s)).length)).toArray f z):=by
       intro arr f z O h2 h3;rcases cT len with h0|h0
       .have h00:min n len*s=0:=by rw [h0];simp
        rw [h00];exact ⟨w,by simp [storeCells],⟨rfl,rfl,rfl,rfl,λ_ _=>rfl,rfl,λ_ h=>h,rfl⟩,by simp [O]⟩
       .have e:=q3 h0;cases e;obtain ⟨w',S,F,U⟩:=D3 (P:=P) c (nv.take (min n len*s)) off 0 arr w O om h3 H;simp_all
      cases k:σ (.ay id) with
      |eY f cells=>
       simp only [k] at q;obtain ⟨O,e1,e2⟩:=q;subst e1 e2;obtain ⟨arr,z,m1,m2,m3,m4⟩:=h.sY id f cells c k Q;obtain ⟨w',S,F,U⟩:=m arr f z m1 om m3;obtain ⟨k1,k2⟩:=h.ot (X:= .eY f (cells.take off++src.take (min n len*s)++cells.drop (off+min n len*s))) (by rw [k];rfl) Q F (λ_=>by
        have hE:iN g w g w':=iN.tZ F (λo=>by obtain ⟨c',p1,_,_,p2⟩:=h.iR id (by rw [k];rfl);simp_all);refine ⟨_,z,U,by simp;omega,λo ho=>m3 o (by simp at ho;omega),λi y u hy K=>?_⟩;refine gb.ka hE.jC (Vl (R:=gb w g.fP) (cells:=cells) (src:=src.take (min n len*s)) (arr:=arr) (nv:=nv.take (min n len*s)) (off:=off) om m2 om m4 p i y u ?_ K);rw [I];exact hy)
       exact ⟨_,w',N w' S, .fJ (.kS _ _),k1,k2⟩
      |dc f cells=>
       simp only [k] at q;obtain ⟨O,e1,e2⟩:=q;subst e1 e2;obtain ⟨arr,m1,m2,m4⟩:=h.sc id f cells c k Q;obtain ⟨w',S,F,U⟩:=m arr f (0,0) m1 om (λo _=>by simp only;omega);obtain ⟨k1,k2⟩:=h.ot (X:= .dc f (cells.take off++src.take (min n len*s)++cells.drop (off+min n len*s))) (by rw [k];rfl) Q F (λ_=>by
        have hE:iN g w g w':=iN.tZ F (λo=>by obtain ⟨c',p1,_,_,p2⟩:=h.iR id (by rw [k];rfl);simp_all);refine ⟨_,U,by simp_all,λi y u hy K=>?_⟩;refine eH.oU hE (Vl (R:=eH w g) (cells:=cells) (src:=src.take (min n len*s)) (arr:=arr) (nv:=nv.take (min n len*s)) (off:=off) om om om m4 (λi x v A L=> .fJ (p i x v A L)) i y u ?_ K);rw [I];exact hy)
       exact ⟨_,w',N w' S, .fJ (.kS _ _),k1,k2⟩
      |_=>simp only [k] at q;exact q.elim
    |_=>exact q.elim
  |_=>exact j.elim
end
section
variable {P:Program} {T:iw} {b:jL P} {σ:eK} {D:Nat->Prop} {g:gX} {a:Act} {w:World}
theorem afp (n:jc P T) (h:fl b σ D g w) {f} (p:g.fk f=none) {t x us v} {dst ty pos after guard}
  (c:(iK P T σ f ⟨dst, .range t x,ty,pos,after,guard⟩).ld v us) (k:eH w g (eR σ x) (a.eval x)):lu P b σ us f D g a w ⟨dst, .range t x,ty,pos,after,guard⟩ v:=by
 simp only [iK,iv] at c;cases d:eR σ x with
 |cp s=>
  simp only [d] at c;rw [d] at k;obtain ⟨j,e,u⟩:=k.vw;cases i:hU T t with
  |none=>simp only [i] at c;exact c.elim
  |some r=>
   have o:=(n t _ i).1;obtain ⟨A,F,B,I⟩:=r;simp only [i] at c o;cases A with
   |kP=>
    obtain ⟨l,m⟩:=c;subst l m;obtain ⟨y,z⟩:=h.Iz p (X:= .mP s 0) rfl (.stringIter j 0) (λE H _ q _=>⟨j,q,u⟩);refine ⟨_, .pointer (some ⟨w.heap.size,0,none⟩),_,_,?_, .inl rfl, .vt (gX.qR _ _ _),y,z⟩;simp only [execOp,Sem.run_bind,e,run_range_string w t j o,Result.andThen_ok,Sem.run_pure];rfl
   |_=>exact c.elim
 |_=>simp only [d] at c;exact c.elim
theorem afm (h:fl b σ D g w) {f x r us v} {dst ty pos after guard}
  (l:(iK P T σ f ⟨dst, .next x r,ty,pos,after,guard⟩).ld v us) (K:eH w g (eR σ x) (a.eval x)):lu P b σ us f D g a w ⟨dst, .next x r,ty,pos,after,guard⟩ v:=by
 simp only [iK] at l;cases r with
 |false=>trivial
 |true=>
  cases A:eR σ x with
  |gH id=>
   simp only [A] at l;rw [A] at K;obtain ⟨c,J,e⟩:=K.Lc;cases u:σ (.ay id) with
   |mP s p=>
    simp only [u] at l;obtain ⟨q,Z,l⟩:=l;obtain ⟨m,E,o⟩:=h.Ix id s p c u J;have N:m.size=s.length:=by rw [<-o];rfl
    have B:(⟨s.toArray⟩:ByteArray)=m:=by cases m with|mk d=>congr 1;grind
    rw [B] at l;cases q with
    |false=>
     obtain ⟨y,z⟩:=l;subst y z;have I:¬p<m.size:=by simp_all
     refine lu.kG h (val:= .tuple #[.bool false]) ?_ (.nR (vs:=[_]) rfl (λi x v j n=>?_))
     .simp [execOp,e,Instr.next,getObj,Sem.run,E,I]
     .match i,j,n with
      |0,j,n=>cases j;cases n;exact .fJ .uR
      |i+1,j,_=>cases j
    |true=>
     obtain ⟨y,z⟩:=l;subst y z;have I:p<m.size:=by simp_all
     have H:c<w.heap.size:=(bm.1 E).1
     let w':World:={w with heap:=w.heap.setIfInBounds c (.stringIter m (p+(Utf8.decode m p).2))}
     have F:w'.heap[c]? =some (.stringIter m (p+(Utf8.decode m p).2)):=by simp [w',H]
     have O:oH c w w':=⟨rfl,rfl,rfl,by simp [w'],λk Y=>by grind,by grind [World.shape?],λS U=>(by simp_all),rfl⟩;obtain ⟨Q,R⟩:=h.ot (X:= .mP s (p+(Utf8.decode m p).2)) (by rw [u];rfl) J O (λ_=>⟨m,F,o⟩);refine ⟨_, .tuple #[.bool true, .int .i64 p, .int .i32 (Utf8.decode m p).1],w',g,?_, .inl rfl, .nR (vs:=[_,_,_]) rfl (λi x v j n=>?_),Q.mQ (λ_ L=> .inl L),R⟩
     .simp [execOp,e,Instr.next,getObj,setObj,Sem.run,E,I,Result.andThen,goInt,w']
     .match i,j,n with
      |0,j,n=>cases j;cases n;exact .fJ .wB
      |1,j,n=>cases j;cases n;exact .fJ (.kS _ _)
      |2,j,n=>cases j;cases n;exact .fJ (.kS _ _)
      |i+3,j,_=>cases j
   |_=>simp only [u] at l;exact l.elim
  |_=>simp only [A] at l;exact l.elim
theorem Vr (o:jc P T) {t ti n0 b0 r} (u:hU T t=some ⟨ti,n0,b0,r⟩) {q x} (h:Bl ti r=some (q,x)) (m:LA P t=some q):∃ z,(zeroValue t).run P w= .ok z w/\eH w g x z:=by
 obtain ⟨i,z,f,k,F,H,I,J,l,K⟩:=xB.ud o u;refine ⟨z,by simp [zeroValue,typeInfo,f,k],?_⟩;simp only [LA,f,k] at m;have agg:q=true->x= .eN r->eH w g x z:=by
  intro c d;subst c d;cases z with
  |agg s=>
   refine .sd (vs:=s.toList) (by grind [Value.cells]) (λj y v A L=>l w g j y v A (by trivial))
  |_=>simp at m
 have B:q=false->r=[x]->eH w g x z:=by
  intro c d;subst c;have p:z.cells=#[z]:=by grind
  refine l w g 0 x z (by rw [d];rfl) ?_;rw [p];rfl
 cases ti with
 |g5 E=>grind [Bl]
 |kq n e=>grind [Bl]
 |_=>
  match r,h with
  |[y],h=>grind [Bl]
  |[],h=>simp [Bl] at h
  |_::_::_,h=>simp [Bl] at h
theorem afE (U:jc P T) (h:fl b σ D g w) {f x R at_ m us v} {dst ty pos after guard}
  (c:(iK P T σ f ⟨dst, .typeAssert x R at_ m,ty,pos,after,guard⟩).ld v us) (O:eH w g (eR σ x) (a.eval x)):lu P b σ us f D g a w ⟨dst, .typeAssert x R at_ m,ty,pos,after,guard⟩ v:=by
 simp only [iK,iv] at c;cases N:hU T at_ with
 |none=>simp only [N] at c;exact c.elim
 |some r=>
  have F:=(U at_ _ N).1;obtain ⟨Q,n0,b0,o⟩:=r;simp only [N] at c F;have I:∀ {y:b9} {u:Value} {p:Bool},eH w g y u->eH w g (.dn [y,match p with|true=> .fU|false=> .fD]) (.tuple #[u, .bool p]):=fun {y u p} hy=> .nR (vs:=[_,_]) rfl (λi z v A J=>by
   match i,A,J with
   |0,A,J=>simp_all
   |1,A,J=>cases A;cases J;cases p<;>first|exact .fJ .wB|exact .fJ .uR
   |i+2,A,_=>cases A)
  have fin:(∃ d,P.underlying at_=some d/\∀ ms,d≠ .interface ms)->(OM P Q o at_ m (eR σ x)).ld v us->lu P b σ us f D g a w ⟨dst, .typeAssert x R at_ m,ty,pos,after,guard⟩ v:=by
   rintro ⟨d,L,j⟩ c;have l:∀ {u:Value},a.eval x=u->(u= .nilIface\/∃ t y,u= .iface t y/\t≠at_)->(Lo P Q o at_ m).ld v us->lu P b σ us f D g a w ⟨dst, .typeAssert x R at_ m,ty,pos,after,guard⟩ v:=by
    intro u H s c;cases m with
    |false=>exact c.elim
    |true=>
     simp only [Lo] at c;cases S:Bl Q o with
     |none=>simp only [S] at c;exact c.elim
     |some qz=>
      obtain ⟨q,z⟩:=qz;simp only [S] at c;obtain ⟨hq,B,E⟩:=c;subst B E;obtain ⟨zv,Z,z2⟩:=Vr (w:=w) (g:=g) U N S hq;refine lu.kG h (val:= .tuple #[zv, .bool false]) ?_ (I (p:=false) z2);rcases s with rfl|⟨t,y,rfl,s⟩
      .cases d<;>first|exact absurd rfl (j _)|simp [execOp,H,Instr.typeAssert,run_underlying L,Z]
      .cases d<;>first|exact absurd rfl (j _)|simp [execOp,H,Instr.typeAssert,run_underlying L,Z,s]
   cases X:eR σ x with
   |gm t y=>
    rw [X] at c O;obtain ⟨u,e,H⟩:=O.DW;simp only [OM] at c;cases K:Nat.beq t at_ with
    |true=>
     have Y:t=at_:=bc K;subst Y;cases m with
     |true=>
      simp only [K] at c;obtain ⟨B,E⟩:=c;subst B E;refine lu.kG h (val:= .tuple #[u, .bool true]) ?_ (I (p:=true) H);cases d<;>first|exact absurd rfl (j _)|simp [execOp,e,Instr.typeAssert,run_underlying L]
     |false=>
      simp only [K] at c;obtain ⟨B,E⟩:=c;subst B E;refine lu.kG h (val:=u) ?_ H;cases d<;>first|exact absurd rfl (j _)|simp [execOp,e,Instr.typeAssert,run_underlying L]
    |false=>
     simp only [K] at c;exact l e (.inr ⟨t,u,rfl,λY=>by simp_all⟩) c
   |gy=>
    rw [X] at c O;exact l O.FN (.inl rfl) c
   |_=>rw [X] at c;exact c.elim
  cases Q with
  |kK=>exact c.elim
  |mg=>exact c.elim
  |kb k=>simp_all
  |me=>simp_all
  |kP=>simp_all
  |jn e=>simp_all
  |kq n e=>simp_all
  |g5 fs=>grind
  |ku e=>simp_all
  |mf=>grind
  |lG=>grind
end
section
variable {P:Program} {T:iw} {b:jL P} {σ:eK} {D:Nat->Prop} {g:gX} {a:Act} {w:World}
theorem Vc:∀ xs (i:Nat) x,(jr σ xs)[i]? =some x->∃ o,xs[i]? =some o/\x=eR σ o
 |[],i,x,h=>by simp [jr] at h
 |o::xs,0,x,h=>by grind [jr]
 |o::xs,i+1,x,h=>Vc xs i x (by trivial)
theorem uY:∀ xs,(jr σ xs).length=xs.length
 |[]=>rfl
 |_::xs=>by simp [jr,uY xs]
theorem yL {xs:Array Operand} (h:∀ x∈xs,eH w g (eR σ x) (a.eval x)) (i:Nat) (y v) (d:(jr σ xs.toList)[i]? =some y) (c:(xs.map a.eval).toList[i]? =some v):eH w g y v:=by
 grind [Vc]
theorem afj (h:fl b σ D g w) {f fn:Nat} {first c} {us:List (fQ×gC)} {v} {dst ty pos after guard}
  (m:(iK P T σ f ⟨dst, .makeFunc (.func fn) first c,ty,pos,after,guard⟩).ld v us) (o:∀ x∈(Op.makeFunc (.func fn) first c).operands,eH w g (eR σ x) (a.eval x)):
  lu P b σ us f D g a w ⟨dst, .makeFunc (.func fn) first c,ty,pos,after,guard⟩ v:=by
 obtain ⟨k,l⟩:=m;subst k l;refine lu.kG h (val:= .func (.func fn) (first.map a.eval).toList.toArray (c.map a.eval).toList.toArray) ?_ (.wD (by rw [uY];simp) (by rw [uY];simp) (λi x u d e=>yL (λx j=>o x (by simp [Op.operands,j])) i x u d e)
  (λi x u d e=>yL (λx j=>o x (by simp [Op.operands,j])) i x u d e))
 trivial
theorem afk (n:jc P T) (h:fl b σ D g w) {f t x us v} {dst ty pos after guard}
  (c:(iK P T σ f ⟨dst, .makeInterface t x,ty,pos,after,guard⟩).ld v us) (p:eH w g (eR σ x) (a.eval x)):lu P b σ us f D g a w ⟨dst, .makeInterface t x,ty,pos,after,guard⟩ v:=by
 simp only [iK,iv] at c;cases j:hU T t with
 |none=>simp only [j] at c;exact c.elim
 |some r=>
  have o:=(n t _ j).1;obtain ⟨q,z,u,A⟩:=r;simp only [j] at c o;have i:(∃ d,P.underlying t=some d/\∀ s,d≠ .interface s)->v= .gm t (eR σ x)->us=[]->lu P b σ us f D g a w ⟨dst, .makeInterface t x,ty,pos,after,guard⟩ v:=by
   intro ⟨d,e,m⟩ k l;subst k l;refine lu.kG h (val:= .iface t (a.eval x)) ?_ (.wE p);cases d<;>first|(exact absurd rfl (m _))|simp [execOp,Instr.makeInterface,run_underlying e]
  cases q with
  |kK=>exact c.elim
  |mg=>exact c.elim
  |g5 y=>obtain ⟨_,_,e,_⟩:=o;exact i ⟨_,e,by simp⟩ c.1 c.2
  |mf=>obtain ⟨_,_,_,e⟩:=o;exact i ⟨_,e,by simp⟩ c.1 c.2
  |lG=>obtain ⟨_,_,e⟩:=o;exact i ⟨_,e,by simp⟩ c.1 c.2
  |_=>exact i ⟨_,o,by simp⟩ c.1 c.2
theorem afq {bt c t} (h:c.callee= .builtin bt):resolve a.eval c t=pure {target:= .builtin bt c.argTypes t (c.args.map fun| .const _=>true|_=>false),args:=c.args.map a.eval}:=by
 grind [resolve]
theorem xK {bt c} {dst ty pos after guard} {w' val} (d:c.callee= .builtin bt) (h:(builtin bt c.argTypes ty (c.args.map fun| .const _=>true|_=>false) (c.args.map a.eval)).run P w= .ok (.value val) w'):
  (execOp a.eval ⟨dst, .call c,ty,pos,after,guard⟩).run P w= .ok (.value val) w':=by
 simp only [execOp,afq d,Sem.run_bind,Sem.run_pure,Result.andThen_ok,invoke];exact h
theorem U8 {mx:Bool} {xs:List b9} {v} (h:vz mx xs=some v) {vs:List Value} (c:vs.length=xs.length) (f:∀ (i:Nat) (x:b9) (u:Value),xs[i]? =some x->vs[i]? =some u->eH w g x u):
  ∃ val,(match mx with|true=>Builtin.max_ #[] 0 vs.toArray|false=>Builtin.min_ #[] 0 vs.toArray:Sem Value).run P w= .ok val w/\eH w g v val:=by
 match xs,vs with
 |[],_=>simp [vz] at h
 |[x],[u]=>
  cases x with
  |ax k n=>
   simp only [vz,aG] at h;subst h;have e:=(f 0 _ u rfl rfl).p8;subst e;cases mx<;>exact ⟨_,by trivial, .fJ (.kS _ _)⟩
  |_=>simp [vz] at h
 |[x,y],[u,z]=>
  cases x with
  |ax k n=>
   cases y with
   |ax j m=>
    simp only [vz] at h;cases d:wJ k j with
    |false=>simp [d] at h
    |true=>
     simp only [d,aG] at h;subst h;have p:=(f 0 _ u rfl rfl).p8;have s:=(f 1 _ z rfl rfl).p8;subst p s;cases mx
     .refine ⟨.int k (min n m),?_, .fJ (.kS _ _)⟩;grind [Builtin.min_,Builtin.min2,Sem.run_pure]
     .refine ⟨.int k (max n m),?_, .fJ (.kS _ _)⟩;grind [Builtin.max_,Builtin.max2,Sem.run_pure]
   |_=>simp [vz] at h
  |_=>simp [vz] at h
 |[x,y,z],[B,E,F]=>
  cases x with
  |ax k n=>
   cases y with
   |ax j m=>
    cases z with
    |ax l q=>
     simp only [vz] at h;cases d:wJ k j with
     |false=>simp [d] at h
     |true=>
      cases o:wJ k l with
      |false=>simp [d,o] at h
      |true=>
       simp only [d,o,aG] at h;subst h;have p:=(f 0 _ B rfl rfl).p8;have s:=(f 1 _ E rfl rfl).p8;have A:=(f 2 _ F rfl rfl).p8;subst p s A;cases mx
       .refine ⟨.int k (min (min n m) q),?_, .fJ (.kS _ _)⟩;grind [Builtin.min_,Builtin.min2,Sem.run_pure]
       .refine ⟨.int k (max (max n m) q),?_, .fJ (.kS _ _)⟩;grind [Builtin.max_,Builtin.max2,Sem.run_pure]
    |_=>simp [vz] at h
   |_=>trivial
  |_=>trivial
 |x::y::z::q::r,_=>simp [vz] at h
 |[_,_,_],[]=>simp at c
 |[_,_,_],[_]=>simp at c
 |[_,_,_],[_,_]=>simp at c
 |[_,_,_],_::_::_::_::_=>simp at c
 |[_],[]=>simp at c
 |[_],_::_::_=>simp at c
 |[_,_],[]=>simp at c
 |[_,_],[_]=>simp at c
 |[_,_],_::_::_::_=>simp at c
theorem UH {xs x y} (h:jr σ xs.toList=[x,y]):∃ p q,xs=#[p,q]/\x=eR σ p/\y=eR σ q:=by
 obtain ⟨l⟩:=xs
 match l with
 |[]=>simp [jr] at h
 |[p]=>simp [jr] at h
 |[p,q]=>grind [jr]
 |p::q::r::l=>simp [jr] at h
theorem ae7 {xs x} (h:jr σ xs.toList=[x]):∃ p,xs=#[p]/\x=eR σ p:=by
 obtain ⟨l⟩:=xs
 match l with
 |[]=>simp [jr] at h
 |[p]=>grind [jr]
 |p::q::l=>simp [jr] at h
theorem ae9 (L:jc P T) (h:fl b σ D g w) {f:Nat} (N:g.fk f=none) (O:g.gF f=none) {bt} {c:Call} (K:c.callee= .builtin bt) {us:List (fQ×gC)} {v} {dst ty pos after guard}
  (d:(F3 P σ T f ⟨dst, .call c,ty,pos,after,guard⟩ bt c.argTypes.toList (jr σ c.args.toList)).ld v us) (Q:∀ x∈(Op.call c).operands,eH w g (eR σ x) (a.eval x)):
  lu P b σ us f D g a w ⟨dst, .call c,ty,pos,after,guard⟩ v:=by
 have i:∀ x∈c.args,eH w g (eR σ x) (a.eval x):=λx A=>Q x (by simp [Op.operands,Call.operands,A])
 unfold F3 at d;split at d
 ·
  rename_i t x z j;obtain ⟨p,E,rfl⟩:=ae7 j;have I:c.argTypes=#[t]:=by grind
  have A:=i p (by rw [E];simp);simp only [iv] at d;have u:∀ {r:Value},(Builtin.len_ #[t] ty #[a.eval p]).run P w= .ok r w->(execOp a.eval ⟨dst, .call c,ty,pos,after,guard⟩).run P w= .ok (.value r) w:=by
   grind [xK,builtin,Sem.run_bind,Result.andThen_ok,Sem.run_pure]
  cases R:hU T t with
  |none=>simp only [R] at d;exact d.elim
  |some r=>
   have o:=(L t _ R).1;obtain ⟨ti,n0,b0,z0⟩:=r;simp only [R] at d o;cases ti with
   |kq n e=>
    simp only at d o;obtain ⟨k,l⟩:=d;subst k l;refine lu.kG h (u (r:= .int .i64 (n:Int)) ?_) (.fJ (.kS _ _));simp [Builtin.len_,run_underlying o,goInt]
   |kP=>
    simp only at d o;cases X:eR σ p with
    |cp s=>
     simp only [X] at d;obtain ⟨k,l⟩:=d;subst k l;rw [X] at A;obtain ⟨ba,J,q2⟩:=A.vw;have S:ba.size=s.length:=by rw [<-q2];rfl
     refine lu.kG h (u (r:= .int .i64 (s.length:Int)) ?_) (.fJ (.kS _ _));simp [Builtin.len_,run_underlying o,goInt,J,S]
    |_=>simp only [X] at d;exact d.elim
   |jn e=>
    simp only at d o;cases X:eR σ p with
    |a8 U sz els tk=>
     simp only [X] at d;obtain ⟨k,l⟩:=d;subst k l;rw [X] at A;obtain ⟨ad,cc,J,_⟩:=A.nq;refine lu.kG h (u (r:= .int .i64 (els.length:Int)) ?_) (.fJ (.kS _ _));simp [Builtin.len_,run_underlying o,goInt,J]
    |eP id off sz n full=>
     simp only [X] at d;obtain ⟨k,l⟩:=d;subst k l;rw [X] at A;obtain ⟨cc,cap,ad,_,J,_⟩:=A.qS;refine lu.kG h (u (r:= .int .i64 (n:Int)) ?_) (.fJ (.kS _ _));simp [Builtin.len_,run_underlying o,goInt,J]
    |_=>simp only [X] at d;exact d.elim
   |_=>exact d.elim
 ·
  rename_i t tx s x z j;obtain ⟨p,q,E,rfl,rfl⟩:=UH j;have I:c.argTypes=#[t,tx]:=by grind
  obtain ⟨m,w',g',F,H,Y,Z⟩:=ae6 (ty:=ty) L h N O (i p (by rw [E];simp)) (i q (by rw [E];simp)) d;refine ⟨_,m,w',g',xK K ?_, .inl rfl,H,Y,Z⟩;grind [builtin,Sem.run_bind,Result.andThen_ok,Sem.run_pure]
 ·
  rename_i t tx s x z j;obtain ⟨p,q,E,rfl,rfl⟩:=UH j;have I:c.argTypes=#[t,tx]:=by grind
  obtain ⟨m,w',F,H,Y,Z⟩:=afb (tx:=tx) (ty:=ty) L h (i p (by rw [E];simp)) (i q (by rw [E];simp)) d;refine ⟨_,m,w',g,xK K ?_, .inl rfl,H,Y.mQ (λ_ hi=> .inl hi),Z⟩;grind [builtin,Sem.run_bind,Result.andThen_ok,Sem.run_pure]
 ·
  cases B:vz false (jr σ c.args.toList) with
  |none=>simp only [B] at d;exact d.elim
  |some y=>
   simp only [B] at d;obtain ⟨k,l⟩:=d;subst k l;obtain ⟨m,F,H⟩:=U8 (P:=P) (w:=w) (g:=g) B (vs:=(c.args.map a.eval).toList) (by rw [uY];simp) (yL i);refine lu.kG h (xK K ?_) H;simp only [builtin,Sem.run_bind,Builtin.min_] at F ⊢;rw [F];simp
 ·
  cases B:vz true (jr σ c.args.toList) with
  |none=>simp only [B] at d;exact d.elim
  |some y=>
   simp only [B] at d;obtain ⟨k,l⟩:=d;subst k l;obtain ⟨m,F,H⟩:=U8 (P:=P) (w:=w) (g:=g) B (vs:=(c.args.map a.eval).toList) (by rw [uY];simp) (yL i);refine lu.kG h (xK K ?_) H;simp only [builtin,Sem.run_bind,Builtin.max_] at F ⊢;rw [F];simp
 grind [Bj]
theorem Vm (F:jc P T) (h:fl b σ D g w) {f} (H:g.fk f=none) (Z:g.gF f=none) {o us v} (j:(iK P T σ f o).ld v us) (k:∀ x∈o.op.operands,eH w g (eR σ x) (a.eval x)):
  lu P b σ us f D g a w o v:=by
 obtain ⟨U,K,ty,pos,L,N⟩:=o;cases K with
 |move x=>obtain ⟨u,z⟩:=j;subst u z;exact lu.kG h (val:=a.eval x) (by simp [execOp]) (k x (by simp [Op.operands]))
 |assign x=>obtain ⟨u,z⟩:=j;subst u z;exact lu.kG h (val:=a.eval x) (by simp [execOp]) (k x (by simp [Op.operands]))
 |pick c x y=>
  have A:=k c (by simp [Op.operands]);simp only [iK] at j;cases B:eR σ c with
  |fU=>
   simp only [B] at j;obtain ⟨u,z⟩:=j;subst u z;rw [B] at A;exact lu.kG h (val:=a.eval x) (by simp [execOp,asBool,A.Bc]) (k x (by simp [Op.operands]))
  |fD=>
   simp only [B] at j;obtain ⟨u,z⟩:=j;subst u z;rw [B] at A;exact lu.kG h (val:=a.eval y) (by simp [execOp,asBool,A.Ba]) (k y (by simp [Op.operands]))
  |eD q=>
   simp only [B] at j;rw [B] at A;have hx:=k x (by simp [Op.operands]);have S:=k y (by simp [Op.operands]);cases J:sf (eR σ x) with
   |none=>simp only [J] at j;exact j.elim
   |some p=>
    cases O:sf (eR σ y) with
    |none=>simp only [J,O] at j;exact j.elim
    |some r=>
     simp only [J,O] at j;obtain ⟨u,z⟩:=j;subst u z;have X:=FT hx J;have Y:=FT S O;cases q with
     |true=>exact lu.kG h (val:=a.eval x) (by simp [execOp,asBool,A.xA]) (by rw [X];exact .fJ (.rq _))
     |false=>exact lu.kG h (val:=a.eval y) (by simp [execOp,asBool,A.xA]) (by rw [Y];exact .fJ (.rq _))
  |_=>simp only [B] at j;exact j.elim
 |alloc t=>
  simp only [iK,iv] at j;cases I:hU T t with
  |none=>simp only [I] at j;exact j.elim
  |some r=>simp only [I] at j;obtain ⟨u,z⟩:=j;grind [adT]
 |box t x=>
  simp only [iK] at j;cases I:Be (eR σ x) with
  |none=>simp only [I] at j;exact j.elim
  |some r=>simp only [I] at j;obtain ⟨u,z⟩:=j;grind [adX,Op.operands]
 |build t ps=>exact adZ F h j (λp hp=>k p.2 (by grind [Op.operands]))
 |buildSlice t n ps=>exact adY F h H j (λp hp=>k p.2 (by grind [Op.operands]))
 |load t x=>
  obtain ⟨e,val,k1,Q⟩:=ad9 F h (k x (by simp [Op.operands])) j;subst e;exact lu.kG h (by grind [execOp,Sem.run_bind,Result.andThen_ok,Sem.run_pure]) Q
 |store t x y=>
  obtain ⟨e,w',k1,Q,k3⟩:=aer F h (k x (by simp [Op.operands])) (k y (by simp [Op.operands])) j;subst e;exact ⟨.skip,undef,w',g,by grind [execOp,Sem.run_bind,Result.andThen_ok,Sem.run_pure], .inr ⟨rfl,rfl⟩, .nY,Q.mQ (λ_ R=> .inl R),k3⟩
 |nilCheck x=>grind [aeb,Op.operands]
 |binOp K t x y t'=>grind [adW]
 |unOp K t x=>
  cases K with
  |not=>grind [aed,Op.operands]
  |neg=>grind [aea,Op.operands]
  |_=>exact Bj h k j
 |convert s d x=>exact ad2 F h H j (k x (by simp [Op.operands]))
 |slice t x lo R mx=>exact ael F h j (k x (by simp [Op.operands])) (λy S=>k y (by grind [Op.operands]))
 |fieldAddr s x i=>grind [ad4,Op.operands]
 |field s x i=>grind [ad5,Op.operands]
 |indexAddr t x i=>grind [ad6,Op.operands]
 |index t x i=>grind [ad7]
 |extract x i=>grind [ad3,Op.operands]
 |makeSlice t l c=>grind [afl,Op.operands]
 |range t x=>grind [afp,Op.operands]
 |next x str=>grind [afm,Op.operands]
 |typeAssert x t at_ ok=>grind [afE,Op.operands]
 |makeInterface t x=>grind [afk,Op.operands]
 |makeFunc fn first E=>
  cases fn with
  |func fn=>exact afj h j k
  |_=>exact Bj h k j
 |call c=>
  simp only [iK] at j;cases A:c.callee with
  |builtin bt=>grind [ae9]
  |value x=>simp only [A] at j;exact j.elim
  |invoke x m=>simp only [A] at j;exact j.elim
 |_=>exact Bj h k j
end
section
variable {P:Program} {T:iw} {b:jL P} {t:se} {σ:eK} {D:Nat->Prop} {g:gX} {a:Act} {w:World}
def CK (n0:Nat) (w:World):List Deferred->Prop
 |[]=>True
 |d::ds=>(∃ r,d={target:= .collected r,args:=#[]}/\n0<=r/\w.heap[r]? =some (.deferred (some []))/\∀ e∈ds,e.target≠ .collected r)/\CK n0 w ds
theorem CK.LH {n0 w w'} (c:∀ (d:Nat) (s:Option (List Deferred)),w.heap[d]? =some (.deferred s)->w'.heap[d]? =some (.deferred s)):∀ {l:List Deferred},CK n0 w l->CK n0 w' l
 |[],_=>trivial
 |_::_,⟨⟨r,e,f,i,j⟩,h⟩=>⟨⟨r,e,f,c r _ i,j⟩,h.LH c⟩
structure qv (n0 nt:Nat) (σ:eK) (g:gX) (a:Act) (w:World):Prop where
 qU:a.tmps.size=nt
 sg:CK n0 w a.defers
 oW:∀ i,i<nt->eH w g (jx σ i) (a.tmps.getD i undef)
def si (b:jL P) (t:se) (nt:Nat) (σ:eK) (n:Nat) (a:Act) (w:World):Prop:=
 ∃ g,fl b σ (·<n) g w/\qv t.yE.heap.size nt σ g a w/\iN t.DY t.yE g w/\t.Li<=n
theorem Gx {σ i v}:jx (fc σ (.ct i) (.bg v)) i=v:=by unfold jx;rw [lX]
theorem Ac {σ l c i} (h:l≠ .ct i):jx (fc σ l c) i=jx σ i:=by grind [jx,g9]
def sl:List (fQ×gC)->Bool
 |[]=>true
 |(.ct _,_)::_=>false
 |_::l=>sl l
theorem I7:∀ us σ i,sl us=true->jx (jP σ us) i=jx σ i
 |[],_,_,_=>rfl
 |(.ct _,_)::_,_,_,h=>by cases h
 |(.ay k,c)::us,σ,i,h=>by
  rw [jP,I7 us _ i (by trivial),Ac (by simp)]
 |(.eT k,c)::us,σ,i,h=>by
  rw [jP,I7 us _ i (by trivial),Ac (by simp)]
def I2 (σ:eK) (dst:Option Tmp) (v:b9):eK:=match dst with|none=>σ|some d=>fc σ (.ct d) (.bg v)
def xM (nt:Nat):Option Tmp->Bool
 |none=>true
 |some d=>Nat.blt d nt
theorem qv.Bn {n0 nt g g' w w'} (h:qv n0 nt σ g a w) (E:iN g w g' w'):qv n0 nt σ g' a w':=⟨h.qU,h.sg.LH E.wy,λi c=>(h.oW i c).oU E⟩
theorem qv.uU {n0 nt σ'} (h:qv n0 nt σ g a w) (s:∀ i,jx σ' i=jx σ i):qv n0 nt σ' g a w:=⟨h.qU,h.sg,λi c=>by rw [s];exact h.oW i c⟩
theorem ki {a b} (h:Nat.blt a b=true):a<b:=by simp_all
theorem qv.zW {n0 nt} (h:qv n0 nt σ g a w) {dst} (f:xM nt dst=true) {v val} (k:eH w g v val):qv n0 nt (I2 σ dst v) g (a.put dst val) w:=by
 cases dst with
 |none=>exact h
 |some d=>
  have l:d<nt:=ki f;refine ⟨by simp [Act.put,h.qU],by simpa [Act.put] using h.sg,λi j=>?_⟩;simp only [I2,Act.put]
  by_cases c:i=d
  .subst c;rw [Gx];have:(a.tmps.setIfInBounds i val).getD i undef=val:=by simp [h.qU,l]
   grind
  .rw [Ac (by grind)];have:(a.tmps.setIfInBounds d val).getD i undef=a.tmps.getD i undef:=by simp [cN (λe=>c e.symm)]
   rw [this];exact h.oW i j
theorem fl.zX (h:fl b σ D g w) (dst v):fl b (Am.I2 σ dst v) D g w:=by
 cases dst with
 |none=>exact h
 |some d=>exact h.xx (σ':=fc σ (.ct d) (.bg v)) (λi=>g9 (by intro e;cases e)) (λi=>g9 (by intro e;cases e))
def Bs (nt:Nat):Operand->Bool
 | .tmp t=>Nat.blt t nt
 |_=>true
theorem qv.OY {n0 nt} (h:qv n0 nt σ g a w) (x):eH w g (eR σ x) (a.eval x)\/∃ i,x= .tmp i/\nt<=i:=by
 cases x with
 |tmp i=>
  by_cases c:(i:Nat)<nt
  .exact .inl (h.oW i c)
  simp_all
 |const v=>exact .inl (TZ w g v)
 |global k=>exact .inl .nY
 |func f=>exact .inl (.fJ (.DV f))
def vE:Op->List Operand
 | .alloc _| .ready _| .waits _=>[]
 | .move x| .assign x| .box _ x| .load _ x| .nilCheck x| .unOp _ _ x| .convert _ _ x| .sliceToArrayPointer _ x| .makeInterface _ x
 | .makeChan _ x| .fieldAddr _ x _| .field _ x _| .range _ x| .next x _| .entry x| .typeAssert x _ _ _| .extract x _| .panic x| .recv _ x _=>[x]
 | .pick c a b=>[c,a,b]
 | .build _ ps| .buildSlice _ _ ps=>L2 ps.toList
 | .store _ a v| .binOp _ _ a v _| .makeSlice _ a v| .indexAddr _ a v| .index _ a v| .lookup _ a v _| .mapEntry _ a v| .send a v=>[a,v]
 | .makeFunc _ first p=>L1 first.toList p.toList
 | .makeMap _ r=>Gr r []
 | .slice _ x l h m=>x::Gr l (Gr h (Gr m []))
 | .mapUpdate _ m k v| .entryStore _ m k v| .insert _ m k v=>[m,k,v]
 | .call c| .go c| .defer c=>(match c.callee with| .value f=>[f]| .invoke r _=>[r]| .builtin _=>[]).append c.args.toList
 | .select s _=>(Op.select s false).operands.toList
where
 L2:List (Nat×Operand)->List Operand
  |[]=>[]
  |(_,x)::l=>x::L2 l
 L1:List Operand->List Operand->List Operand
  |[],m=>m
  |x::l,m=>x::L1 l m
 Gr:Option Operand->List Operand->List Operand
  |none,l=>l
  |some x,l=>x::l
theorem PA:∀ l,vE.L2 l=l.map (·.2)
 |[]=>rfl
 |(_,x)::l=>by simp [vE.L2,PA l]
theorem UJ:∀ l m,vE.L1 l m=l++m
 |[],m=>rfl
 |x::l,m=>by simp [vE.L1,UJ l m]
theorem Vd (o x) (h:x∈o.operands):x∈vE o:=by
 cases o with
 |build t ps=>grind [Op.operands,vE,PA]
 |buildSlice t n ps=>grind [Op.operands,vE,PA]
 |makeFunc fn a b=>grind [Op.operands,vE,UJ]
 |makeMap t r=>grind [Op.operands,vE,vE.Gr]
 |slice t x lo i m=>cases lo<;>cases i<;>cases m<;>simp_all [Op.operands,vE,vE.Gr]
 |call c=>obtain ⟨e,s,d⟩:=c;cases e<;>simp_all [Op.operands,vE,Call.operands]
 |go c=>obtain ⟨e,s,d⟩:=c;cases e<;>simp_all [Op.operands,vE,Call.operands]
 |defer c=>obtain ⟨e,s,d⟩:=c;cases e<;>simp_all [Op.operands,vE,Call.operands]
 |select f b=>grind [vE,Op.operands]
 |_=>grind [Op.operands,vE]
def I0 (nt:Nat):List Operand->Bool
 |[]=>true
 |x::l=>match Bs nt x with|true=>I0 nt l|false=>false
theorem Ve {nt}:∀ {l:List Operand},I0 nt l=true->∀ x∈l,Bs nt x=true
 |[],_,x,c=>by simp at c
 |y::l,h,x,c=>by
  simp only [I0] at h;cases d:Bs nt y with
  |false=>simp [d] at h
  |true=>
   simp only [d] at h;rcases aK.1 c with rfl|c
   .exact d
   .exact Ve h x c
def Ab (nt:Nat) (o:Oper):Bool:=match I0 nt (vE o.op) with|true=>xM nt o.dst|false=>false
theorem qv.OZ {n0 nt} (h:qv n0 nt σ g a w) {o} (c:Ab nt o=true):(∀ x∈o.op.operands,eH w g (eR σ x) (a.eval x))/\xM nt o.dst=true:=by
 unfold Ab at c;cases d:I0 nt (vE o.op) with
 |false=>simp [d] at c
 |true=>
  simp only [d] at c;refine ⟨λx f=>?_,c⟩;rcases h.OY x with e|⟨i,rfl,j⟩
  .exact e
  .have:=Ve d _ (Vd o.op _ f);simp only [Bs] at this;have:=ki this;omega
def s5 (P:Program) (f:FuncId):Prop:=∀ r w,(callFunc f r).run P w= .ok (.enter f r) w
def rC (r:Option Nat):Fence:={Fence.wide with round:=r}
theorem CO (r n):(rC r).depth.isSome=true->1<=n:=λh=>by cases h
theorem Gh {r n f args w R} (h:Calls P f args w R):CallsIn (rC r) n P f args w R:=callsIn_wide.2 h
theorem Vh {r n l f tmps s body w R} (h:RoundIn Fence.wide n P l f tmps s body w R):RoundIn (rC r) n P l f tmps s body w R:=h
structure er (P:Program) (f:FuncId) (args:List b9) (res:b9):Prop where
 O1:s5 P f
 LI:∀ (w:World) (F:Nat->Nat->Prop) (vals:List Value),sX P w->(∀ k o,F k o->k<w.heap.size)->vals.length=args.length->(∀ (i:Nat) (x:b9) (v:Value),args[i]? =some x->vals[i]? =some v->gb w F x v)->
  Calls P f vals.toArray w λe w'=>∃ v F',e= .returned v/\(Below w.heap.size w w'/\w.drawn<=w'.drawn)/\(∀ k o,F k o->F' k o)/\(∀ k o,F' k o->F k o\/(w.heap.size<=k/\k<w'.heap.size))/\gb w' F' res v
structure fF (P:Program) (f:FuncId) (args:List b9) (σ:eK) (n:Nat) (K:b9->eK->Nat->Prop):Prop where
 wL:s5 P f
 vC:∀ (b:jL P) (g:gX) (w:World) (vals:List Value),fl b σ (·<n) g w->vals.length=args.length->(∀ (i:Nat) (x:b9) (v:Value),args[i]? =some x->vals[i]? =some v->eH w g x v)->
  Calls P f vals.toArray w λe w'=>∃ v x σ' n' g',e= .returned v/\K x σ' n'/\n<=n'/\eH w' g' x v/\fl b σ' (·<n') g' w'/\iN g w g' w'
structure F9 (P:Program) (id:Nat) (args:List b9) (σ:eK) (n:Nat) (K:b9->eK->Nat->Prop):Prop where
 Ul:∀ (b:jL P) (g:gX) (w:World) (c:Nat) (vals:List Value),fl b σ (·<n) g w->g.fk id=some c->vals.length=args.length->(∀ (i:Nat) (x:b9) (v:Value),args[i]? =some x->vals[i]? =some v->eH w g x v)->
  ∃ f tmps assign body,(Instr.yield c vals.toArray).run P w= .ok (.round c f tmps assign body) w/\
   RoundIn Fence.wide 0 P c f tmps assign body w λe w'=>∃ v x σ' n' g',e= .returned v/\K x σ' n'/\n<=n'/\eH w' g' x v/\fl b σ' (·<n') g' w'/\iN g w g' w'
structure qu (P:Program) (o:Oper) (σ:eK) (n:Nat) (K:b9->eK->Nat->Prop):Prop where
 Uj:∀ (b:jL P) (g:gX) (a:Act) (w:World),fl b σ (·<n) g w->(∀ x∈o.op.operands,eH w g (eR σ x) (a.eval x))->
  ∃ nx val w' v σ' n' g',(execOp a.eval o).run P w= .ok nx w'/\(nx= .value val\/(nx= .skip/\val=undef))/\K v σ' n'/\n<=n'/\eH w' g' v val/\fl b σ' (·<n') g' w'/\iN g w g' w'
def U1:b9->Bool
 | .gi _=>true
 |_=>false
def afg:b9->Bool
 | .a8 _ _ _ _=>true
 |_=>false
def afh:b9->Bool
 | .eP _ _ _ _ true=>true
 |_=>false
def LY (σ:eK):Op->Bool
 | .makeMap _ _=>true
 | .lookup _ _ _ _=>true
 | .mapUpdate _ _ _ _=>true
 | .insert _ _ _ _=>true
 | .entry _=>true
 | .next _ false=>true
 | .range _ x=>U1 (eR σ x)
 | .call ⟨.builtin .delete,_,_⟩=>true
 | .call ⟨.builtin .clear,_,_⟩=>true
 | .call ⟨.builtin .cap,_,_⟩=>true
 | .call ⟨.builtin .append,args,_⟩=>match jr σ args.toList with
  |[_, .ax _ _]=>true
  |_=>false
 | .slice _ x none (some _) none=>match σ (.eT 1) with
  | .bg .fU=>afg (eR σ x)
  |_=>false
 | .slice _ x (some _) (some _) none=>match σ (.eT 1) with
  | .bg _=>afh (eR σ x)
  |_=>false
 | .call ⟨.builtin .len,args,_⟩=>match jr σ args.toList with
  |[x]=>U1 x
  |_=>false
 |_=>false
theorem UX {x v} (h:eH w g x v):eH w g (Bg x) v:=by
 cases x with
 |a8 i sz els k=>obtain ⟨e,c,rfl,d,_⟩:=h.nq;exact .fJ d
 |fU=>rw [h.Bc];exact .fJ (.rq _)
 |fD=>rw [h.Ba];exact .fJ (.rq _)
 |_=>exact h
def Ef:b9->Bool
 | .eN c=>pr c
 | .dn c=>Eg c
 |x=>Bi x
where
 Eg:List b9->Bool
  |[]=>true
  | .eN c::l=>match pr c with|true=>Eg l|false=>false
  |x::l=>match Bi x with|true=>Eg l|false=>false
def Gl:b9->b9
 | .eN c=> .eN (mB c)
 | .dn c=> .dn (Aa c)
 |x=>Bg x
where
 Aa:List b9->List b9
  |[]=>[]
  | .eN c::l=> .eN (mB c)::Aa l
  |x::l=>Bg x::Aa l
theorem UF {cs v} (hp:pr cs=true) (h:eH w g (.eN cs) v):gb w g.fP (.eN (mB cs)) v:=by
 obtain ⟨s,rfl,c,d⟩:=h.FL;refine .A9 (by rw [wI];exact c) (λi x u f e=>?_);grind [wH,xH,xG]
theorem Gs {x:b9} {v:Value} (hp:Ef x=true) (h:eH w g x v):gb w g.fP (Gl x) v:=by
 cases x with
 |eN s=>exact UF hp h
 |dn s=>
  obtain ⟨d,rfl,j,l⟩:=h.Lf;have y:∀ (s:List b9) (d:List Value),Ef.Eg s=true->d.length=s.length->(∀ (i:Nat) (x:b9) (u:Value),s[i]? =some x->d[i]? =some u->eH w g x u)->
    (Gl.Aa s).length=s.length/\∀ (i:Nat) (x:b9) (u:Value),(Gl.Aa s)[i]? =some x->d[i]? =some u->gb w g.fP x u:=by
   intro s
   induction s with
   |nil=>grind [Gl.Aa]
   |cons c s A=>
    intro d hp o r;cases d with
    |nil=>simp at o
    |cons u d=>
     have n:=r 0 c u rfl rfl;have p:Ef.Eg s=true->∀ k,gb w g.fP k u->Gl.Aa (c::s)=k::Gl.Aa s->(Gl.Aa (c::s)).length=(c::s).length/\∀ (i:Nat) (x:b9) (z:Value),(Gl.Aa (c::s))[i]? =some x->(u::d)[i]? =some z->gb w g.fP x z:=by
      intro m k q e;obtain ⟨F,H⟩:=A d m (by simpa using o) (λi x z j l=>r (i+1) x z (by simpa using j) (by simpa using l));grind
     cases c with
     |eN as=>
      simp only [Ef.Eg] at hp;cases f:pr as with
      |false=>simp [f] at hp
      |true=>simp only [f] at hp;exact p hp _ (UF f n) rfl
     |_=>
      simp only [Ef.Eg] at hp;split at hp
      .rename_i f;exact p hp _ (xH f n) rfl
      .cases hp
  obtain ⟨B,E⟩:=y s d hp j l;exact .wC (by rw [B];exact j) E
 |_=>refine xH ?_ h;exact hp
def vF:List b9->Bool
 |[]=>true
 |x::l=>match Ef x with|true=>vF l|false=>false
def vD:List b9->List b9
 |[]=>[]
 |x::l=>Gl x::vD l
theorem IV:∀ l,(vD l).length=l.length
 |[]=>rfl
 |_::l=>by simp [vD,IV l]
theorem I1:∀ {l:List b9},vF l=true->∀ {i:Nat} {y:b9},(vD l)[i]? =some y->∃ x,l[i]? =some x/\Ef x=true/\y=Gl x
 |[],_,i,y,h=>by trivial
 |x::l,hp,i,y,h=>by
  simp only [vF] at hp;cases c:Ef x with
  |false=>simp [c] at hp
  |true=>
   simp only [c] at hp;cases i with
   |zero=>grind [vD]
   |succ i=>
    obtain ⟨z,d,e,f⟩:=I1 hp (i:=i) (y:=y) (by trivial);simp_all
theorem er.Ux {f} {args:List b9} {res} (hp:er P f (vD args) res) (p:vF args=true) (h:fl b σ D g w) {vals:List Value} (n:vals.length=args.length)
  (q:∀ (i:Nat) (x:b9) (v:Value),args[i]? =some x->vals[i]? =some v->eH w g x v):
  Calls P f vals.toArray w λe w'=>∃ v g',e= .returned v/\eH w' g' res v/\fl b σ D g' w'/\iN g w g' w'/\g'.fk=g.fk/\g'.gF=g.gF:=by
 refine (hp.LI w g.fP vals h.DS h.lv (by rw [IV];exact n) (λi x v r o=>?_)).mono ?_
 .grind [I1,Gs]
 .rintro e w' ⟨v,j,k,c,d,l,m⟩;exact ⟨v,{g with fP:=j},k, .fJ m,h.CA c.1 c.2 d l,h.A7 c.1 c.2 d,rfl,rfl⟩
theorem fF.kc {f args res} {n:Nat} {K} (hp:er P f (vD args) res) (p:vF args=true) (k:K res σ n):fF P f args σ n K:=
 ⟨hp.O1,λ_ _ _ _ h l m=>(er.Ux hp p h l m).mono λ_ _ ⟨v,c,d,e,i,j,_⟩=>⟨v,res,σ,n,c,d,k,aq _,e,i,j⟩⟩
def Ur (P:Program) (t:TypeId) (n:String) (f:FuncId):Prop:=∀ (v:Value) (w:World),(method (P.types.size+Made.depth) t v n).run P w= .ok (f,v) w
def Ee (P:Program) (t:TypeId) (n:String) (f:FuncId):Bool:=match P.info? t,P.underlying t with
 |some i,some d=>(match d with| .pointer _=>false|_=>true) && match i.methods.find? (λm=>m.name==n) with
  |some m=>m.path.toList.isEmpty && (match m.func with|some (g,q)=>g==f && !q|none=>false)
  |none=>false
 |_,_=>false
theorem Ur.Us {t n f} (h:Ee P t n f=true):Ur P t n f:=by
 unfold Ee at h;cases e:P.info? t with
 |none=>simp [e] at h
 |some i=>
  cases u:P.underlying t with
  |none=>simp [e,u] at h
  |some d=>
   simp only [e,u,az] at h;obtain ⟨r,c⟩:=h;cases l:i.methods.find? (λm=>m.name==n) with
   |none=>simp [l] at c
   |some m=>
    simp only [l,az] at c;obtain ⟨c,j⟩:=c;have x:m.path.toList=[]:=by simpa using c
    cases k:m.func with
    |none=>simp [k] at j
    |some gq=>
     obtain ⟨y,q⟩:=gq;simp only [k,az,dC,bR] at j;obtain ⟨o,p⟩:=j;subst o p;intro v w;have s:P.types.size+Made.depth=(P.types.size+Made.depth - 1)+1:=by
      trivial
     rw [s];cases d<;>first|(cases r;done)|simp [method,typeInfo,e,l,x,follow,k,receiverAt,run_underlying u,Place.get]
def mH (σ σ':eK):eK:=λl=>match l with| .ct i=>σ (.ct i)|l=>σ' l
def uX (σ:eK) (all:List Oper):Option (Nat×Bool)->Option Bool
 |none=>some true
 |some (j,n)=>match p9 all j with
  |some o=>match o.dst with
   |some d=>match jx σ d with
    | .fU=>some n
    | .fD=>some (!n)
    | .dn []=>some false
    |_=>none
   |none=>none
  |none=>none
def IW:List Oper->List Nat
 |[]=>[]
 |o::l=>match o.guard with|some (j,_)=>j::IW l|none=>IW l
def lQ (i:Nat):List Nat->Bool
 |[]=>false
 |j::l=>match Nat.beq i j with|true=>true|false=>lQ i l
def I5 (v:b9) (K:b9->Prop):Prop:=
 match v with
 | .ax k n=>K (.ax k n)
 | .eD b=>K (.eD b)
 | .fU=>K .fU
 | .fD=>K .fD
 | .cp s=>K (.cp s)
 | .eN h=>K (.eN h)
 | .dn h=>K (.dn h)
 | .c8 b o=>K (.c8 b o)
 | .gJ h o=>K (.gJ h o)
 | .fY=>K .fY
 | .a8 a b c d=>K (.a8 a b c d)
 | .eP a b c d e=>K (.eP a b c d e)
 | .eW f a b=>K (.eW f a b)
 | .gL=>K .gL
 | .gm t v=>K (.gm t v)
 | .gy=>K .gy
 | .gH b=>K (.gH b)
 | .gG b=>K (.gG b)
 | .gi b=>K (.gi b)
 | .ga=>K .ga
theorem PB {v K}:I5 v K↔K v:=by cases v<;>exact j2
def lP (need:Bool) (v:b9) (K:b9->Prop):Prop:=
 match need with
 |false=>I5 v K
 |true=>match v with
  | .eD q=>(q=true->K .fU)/\(q=false->K .fD)
  | .fU=>K .fU
  | .fD=>K .fD
  |_=>False
theorem yJ {need v K} (h:lP need v K):∃ c,(∀ w g val,eH w g v val->eH w g c val)/\K c:=by
 cases need with
 |false=>exact ⟨v,λ_ _ _ h=>h,PB.1 h⟩
 |true=>
  cases v with
  |eD q=>
   cases q with
   |true=>exact ⟨.fU,λw g val h=>by rw [h.xA];exact .fJ .wB,h.1 rfl⟩
   |false=>exact ⟨.fD,λw g val h=>by rw [h.xA];exact .fJ .uR,h.2 rfl⟩
  |fU=>exact ⟨_,λ_ _ _ h=>h,h⟩
  |fD=>exact ⟨_,λ_ _ _ h=>h,h⟩
  |_=>exact h.elim
def lf (σ:eK) (dst:Option Tmp) (v:b9) (K:eK->Prop):Prop:=match dst with
 |none=>K σ
 |some d=>K (fc σ (.ct d) (.bg v))
theorem wP {σ dst v K}:lf σ dst v K↔K (I2 σ dst v):=by cases dst<;>exact j2
def wQ (σ:eK) (us:List (fQ×gC)) (K:eK->Prop):Prop:=match us with
 |[]=>K σ
 |[(l,c)]=>K (fc σ l c)
 |us=>K (jP σ us)
theorem I8 {σ us K}:wQ σ us K↔K (jP σ us):=by
 match us with
 |[]=>exact j2
 |[(_,_)]=>exact j2
 |_::_::_=>exact j2
def xN (P:Program) (T:iw) (nt:Nat) (all:List Oper) (s:List Nat):List Oper->Nat->eK->Nat->(eK->Nat->Prop)->Prop
 |[],_,σ,n,K=>K σ n
 |⟨dst,op,y,pos,after,guard⟩::rest,i,σ,n,K=>
  match Ab nt ⟨dst,op,y,pos,after,guard⟩ with
  |false=>False
  |true=>match uX σ all guard with
   |none=>False
   |some false=>lf σ dst (.dn []) λσ=>xN P T nt all s rest (i+1) σ (n+1) K
   |some true=>match op with
    | .call ⟨.value o,args,_⟩=>match eR σ o with
     | .eW f first c=>
      fF P f (lz first (lz (jr σ args.toList) c)) σ n λv σ' d=>lP (lQ i s) v λv=>lf (mH σ σ') dst v λσ=>xN P T nt all s rest (i+1) σ d K
     | .gG id=>F9 P id (jr σ args.toList) σ n λv σ' d=>lP (lQ i s) v λv=>lf (mH σ σ') dst v λσ=>xN P T nt all s rest (i+1) σ d K
     |_=>False
    | .call ⟨.invoke r m,args,_⟩=>match eR σ r with
     | .gm t x=>
      ∃ f,Ee P t m f=true/\fF P f (x::jr σ args.toList) σ n λv σ' d=>lP (lQ i s) v λv=>lf (mH σ σ') dst v λσ=>xN P T nt all s rest (i+1) σ d K
     |_=>False
    |op=>match LY σ op with
     |true=>qu P ⟨dst,op,y,pos,after,guard⟩ σ n λv σ' d=>lP (lQ i s) v λv=>lf (mH σ σ') dst v λσ=>xN P T nt all s rest (i+1) σ d K
     |false=>(iK P T σ n ⟨dst,op,y,pos,after,guard⟩).DX λv u=>match sl u with
      |true=>lP (lQ i s) v λv=>wQ σ u λσ=>lf σ dst v λσ=>xN P T nt all s rest (i+1) σ (n+1) K
      |false=>False
where
 lz:List b9->List b9->List b9
  |[],m=>m
  |x::l,m=>x::lz l m
theorem Pg:∀ l m,xN.lz l m=l++m
 |[],_=>rfl
 |x::l,m=>by simp [xN.lz,Pg l m]
theorem LX {n0 nt ops} (h:qv n0 nt σ g a w) {o want} (c:uX σ ops.toList o.guard=some want) (p:∀ (j:Nat) (e:Oper),ops[j]? =some e->xM nt e.dst=true):Region.wanted o (yielded ops a.tmps)=want:=by
 unfold Region.wanted;cases l:o.guard with
 |none=>grind [uX]
 |some q=>
  obtain ⟨j,u⟩:=q;rw [l] at c;simp only [uX,xE] at c;cases n:ops.toList[j]? with
  |none=>simp [n] at c
  |some e=>
   simp only [n] at c;have i:ops[j]? =some e:=by simpa using n
   cases k:e.dst with
   |none=>simp [k] at c
   |some d=>
    simp only [k] at c;have m:d<nt:=by have:=p j e i;rw [k] at this;exact ki this
    have r:=h.oW d m;have s:d<a.tmps.size:=by grind [h.qU]
    have f:a.tmps[d]? =some (a.tmps.getD d undef):=by simp_all
    unfold yielded;simp only [i,Option.bind_some,k,f];cases v:jx σ d with
    |fU=>
     rw [v] at r c;simp at c;subst c;rw [r.Bc];cases u<;>rfl
    |fD=>
     rw [v] at r c;simp at c;subst c;rw [r.Ba];cases want<;>rfl
    |dn x=>
     rw [v] at r c;grind [r.Lf]
    |_=>simp_all
theorem UZ {f} (h:s5 P f) {t n} (m:Ur P t n f) {c r} (d:c.callee= .invoke r n) {u:Value} (v:a.eval r= .iface t u) {dst ty pos after guard}:
  (execOp a.eval ⟨dst, .call c,ty,pos,after,guard⟩).run P w= .ok (.enter f (u::(c.args.map a.eval).toList).toArray) w:=by
 simp only [execOp,resolve,d,v,Sem.run_bind,Sem.run_pure,Result.andThen_ok,invoke];have e:((#[Value.iface t u]++c.args.map a.eval)[0]?:Option Value)=some (.iface t u):=by grind
 simp only [e,callMethod,Sem.run_bind,run_program,Result.andThen_ok,m u w];rw [h];congr 2;grind
theorem Pf {f} (h:s5 P f) {c o} (d:c.callee= .value o) {vs us} (v:a.eval o= .func (.func f) vs.toArray us.toArray) {dst ty pos after guard}:
  (execOp a.eval ⟨dst, .call c,ty,pos,after,guard⟩).run P w= .ok (.enter f (vs++(c.args.map a.eval).toList++us).toArray) w:=by
 have r:(resolve a.eval c ty).run P w= .ok {target:= .fn (.func f) us.toArray,args:=vs.toArray++c.args.map a.eval} w:=by
  grind [resolve,Deferred.ofValue,Sem.run_pure]
 simp only [execOp,Sem.run_bind,r,Result.andThen_ok,invoke];rw [h];simp_all
theorem Vq {c f} (h:c.callee= .value f) {l} (v:a.eval f= .func (.yield l) #[] #[]) {dst ty pos after guard}:
  (execOp a.eval ⟨dst, .call c,ty,pos,after,guard⟩).run P w=(Instr.yield l (c.args.map a.eval)).run P w:=by
 have r:(resolve a.eval c ty).run P w= .ok {target:= .fn (.yield l) #[],args:=#[]++c.args.map a.eval} w:=by
  grind [resolve,Deferred.ofValue,Sem.run_pure]
 grind [execOp,Sem.run_bind,Result.andThen_ok,invoke]
theorem LZ {e o n w' val} (f:(execOp e o).run P w= .ok n w') (x:n= .value val\/(n= .skip/\val=undef)) (c):o.op≠ .defer c:=by
 intro h;simp only [execOp,h,Sem.run_bind] at f;cases r:(resolve e c o.type).run P w with
 |ok d i=>
  grind [Result.andThen_ok,Sem.run_pure]
 |halt j i=>simp_all
theorem Ph {f1 f2:List b9} {c d:List Value} (l:c.length=f1.length) (h:∀ (i:Nat) (x:b9) (v:Value),f1[i]? =some x->c[i]? =some v->eH w g x v) (e:∀ (i:Nat) (x:b9) (v:Value),f2[i]? =some x->d[i]? =some v->eH w g x v)
  (i:Nat) (x v) (j:(f1++f2)[i]? =some x) (f:(c++d)[i]? =some v):eH w g x v:=by
 grind
theorem fl.Gc {σ'} (h:fl b σ' D g w):fl b (Am.mH σ σ') D g w:=h.xx (λ_=>rfl) (λ_=>rfl)
theorem I6 {σ σ'} (i):jx (Am.mH σ σ') i=jx σ i:=rfl
theorem fl.uV {n m} (h:fl b σ (·<n) g w) (c:n<=m):fl b σ (·<m) g w:=h.mQ λ_ i=>aX i c
theorem fl.sh {n} (h:fl b σ (·<n) g w):g.fk n=none/\g.gF n=none:=by
 constructor
 .cases d:g.fk n with
  |none=>rfl
  |some c=>exact absurd (h.pI n c d) (cu _)
 .cases d:g.gF n with
  |none=>rfl
  |some c=>exact absurd (h.oF n c d) (cu _)
theorem Ec (hT:jc P T) {r:Option Nat} {nt:Nat} {ops:Array Oper} (O:∀ (j:Nat) (o':Oper),ops[j]? =some o'->xM nt o'.dst=true) {gs:List Nat} {Q}:
  ∀ l (i:Nat) σ (n:Nat) K a w,xN P T nt ops.toList gs l i σ n K->si b t nt σ n a w->(∀ σ' R a' w',K σ' R->si b t nt σ' R a' w'->Q .normal a' w')->wpListIn (rC r) 0 P ops Q l a w
 |[],i,σ,n,K,a,w,d,hs,hQ=>hQ σ n a w d hs
 |⟨dst,op,ty,pos,after,guard⟩::rest,i,σ,n,K,a,w,d,hs,hQ=>by
  obtain ⟨g,h,hf,hE,hn⟩:=hs;simp only [xN] at d;cases hoo:Ab nt ⟨dst,op,ty,pos,after,guard⟩ with
  |false=>simp_all
  |true=>
   simp only [hoo] at d;obtain ⟨H,q⟩:=hf.OZ hoo;cases hgd:uX σ ops.toList guard with
   |none=>simp_all
   |some want=>
    simp only [hgd] at d;have Y:=LX (o:=⟨dst,op,ty,pos,after,guard⟩) hf hgd O;unfold wpListIn;cases want with
    |false=>
     rw [ai (by rw [Y];simp)];refine ⟨λ_ _=>trivial,?_⟩;exact Ec hT O rest (i+1) _ (n+1) K _ w (wP.1 d) ⟨g,(h.zX _ _).uV (aZ n),hf.zW q (.fJ (.wC (vs:=[]) rfl (by simp))),hE,c9 hn⟩ hQ
    |true=>
     rw [ak Y];have Z:(match LY σ op with
       |true=>qu P ⟨dst,op,ty,pos,after,guard⟩ σ n λv σ' R=>lP (lQ i gs) v λv=>lf (mH σ σ') dst v λσ=>xN P T nt ops.toList gs rest (i+1) σ R K
       |false=>(iK P T σ n ⟨dst,op,ty,pos,after,guard⟩).DX λv us=>match sl us with
        |true=>lP (lQ i gs) v λv=>wQ σ us λσ=>lf σ dst v λσ=>xN P T nt ops.toList gs rest (i+1) σ (n+1) K
        |false=>False)->Oper.wpIn (rC r) 0 P ⟨dst,op,ty,pos,after,guard⟩ a w (wpListIn (rC r) 0 P ops Q rest) Q:=by
      intro d;cases hmo:LY σ op with
      |true=>
       simp only [hmo] at d;obtain ⟨nx,val,w',v,σ',R,U,hr,X,z,N,p,h',E⟩:=d.Uj b g a w h H;obtain ⟨v',A,z⟩:=yJ z;have S:wpListIn (rC r) 0 P ops Q rest (a.put dst val) w':=
        Ec hT O rest (i+1) _ R K _ w' (wP.1 z) ⟨U,(h'.Gc).zX _ _,((hf.Bn E).uU (σ':=mH σ σ') (λi=>I6 i)).zW q (A _ _ _ p),hE.lF E,av hn N⟩ hQ
       unfold Oper.wpIn;refine ⟨λ_ _=>trivial,?_⟩;rw [Oper.semAt_eq _ _ _ (LZ hr X),hr];rcases X with rfl|⟨rfl,rfl⟩
       .exact S
       .exact S
      |false=>
      simp only [hmo] at d;obtain ⟨v,us,hg,z⟩:=oG.Lh _ d;cases hnt:sl us with
      |false=>simp_all
      |true=>
       simp only [hnt] at z;obtain ⟨v',A,z⟩:=yJ z;obtain ⟨nx,val,w',U,hr,X,p,h',E⟩:=Vm hT h h.sh.1 h.sh.2 hg H;have hf':qv t.yE.heap.size nt (jP σ us) U a w':=(hf.Bn E).uU (λi=>I7 us σ i hnt);have hD:fl b (jP σ us) (·<n+1) U w':=h'.mQ (λj hj=>by omega);have S:wpListIn (rC r) 0 P ops Q rest (a.put dst val) w':=
        Ec hT O rest (i+1) _ (n+1) K _ w' (wP.1 (I8.1 z)) ⟨U,hD.zX _ _,hf'.zW q (A _ _ _ p),hE.lF E,c9 hn⟩ hQ
       unfold Oper.wpIn;refine ⟨λ_ _=>trivial,?_⟩;rw [Oper.semAt_eq _ _ _ (LZ hr X),hr];rcases X with rfl|⟨rfl,rfl⟩
       .exact S
       .exact S
     cases op with
     |call c=>
      obtain ⟨callee,s,k⟩:=c;cases callee with
      |value fo=>
       simp only at d;cases L:eR σ fo with
       |eW f first captured=>
        simp only [L,Pg] at d;obtain ⟨hEn,J⟩:=d;have F:=H fo (by simp [Op.operands,Call.operands]);rw [L] at F;obtain ⟨vs,us,e1,l1,l2,r1,r2⟩:=F.CD;have I:=Pf (P:=P) (w:=w) (a:=a) hEn (c:=⟨.value fo,s,k⟩) rfl e1 (dst:=dst) (ty:=ty) (pos:=pos) (after:=after) (guard:=guard);unfold Oper.wpIn;refine ⟨λ_ _=>trivial,?_⟩;rw [Oper.semAt_eq _ _ _ (λc h=>by cases h),I,Oper.uponIn_enter];refine ⟨CO r 0,?_⟩;have B:∀ x∈s,eH w g (eR σ x) (a.eval x):=λx hx=>H x (by simp [Op.operands,Call.operands,hx])
        have ha:=yL B;refine Gh ?_;refine (J b g w (vs++(s.map a.eval).toList++us) h (by simp [l1,l2,uY]) (by grind [uY])).mono ?_;rintro e w' ⟨v,x,σ',R,U,rfl,z,N,p,h',E⟩;obtain ⟨v',A,z⟩:=yJ z;exact Ec hT O rest (i+1) _ R K _ w' (wP.1 z) ⟨U,(h'.Gc).zX _ _,((hf.Bn E).uU (σ':=mH σ σ') (λi=>I6 i)).zW q (A _ _ _ p),hE.lF E,av hn N⟩ hQ
       |gG id=>
        simp only [L] at d;have F:=H fo (by simp [Op.operands,Call.operands]);rw [L] at F;obtain ⟨l,q1,e1⟩:=F.OF;have B:∀ x∈s,eH w g (eR σ x) (a.eval x):=λx hx=>H x (by simp [Op.operands,Call.operands,hx])
        obtain ⟨f,tmps,assign,body,hy,hround⟩:=d.Ul b g w l (s.map a.eval).toList h q1 (by simp [uY]) (yL B);have I:=Vq (P:=P) (w:=w) (a:=a) (c:=⟨.value fo,s,k⟩) rfl e1 (dst:=dst) (ty:=ty) (pos:=pos) (after:=after) (guard:=guard);unfold Oper.wpIn;refine ⟨λ_ _=>trivial,?_⟩;have hy':(Instr.yield l (s.map a.eval)).run P w= .ok (.round l f tmps assign body) w:=by
         omega
        rw [Oper.semAt_eq _ _ _ (λc h=>by cases h),I,hy',Oper.uponIn_round];refine ⟨CO r 0,?_⟩;refine (Vh hround).mono ?_;rintro e w' ⟨v,x,σ',R,U,rfl,z,N,p,h',E⟩;obtain ⟨v',A,z⟩:=yJ z;exact Ec hT O rest (i+1) _ R K _ w' (wP.1 z) ⟨U,(h'.Gc).zX _ _,((hf.Bn E).uU (σ':=mH σ σ') (λi=>I6 i)).zW q (A _ _ _ p),hE.lF E,av hn N⟩ hQ
       |_=>simp_all
      |builtin bt=>exact Z d
      |invoke recv m=>
       simp only at d;cases L:eR σ recv with
       |gm t x=>
        simp only [L] at d;obtain ⟨f,hmb,hEn,J⟩:=d;have F:=H recv (by simp [Op.operands,Call.operands]);rw [L] at F;obtain ⟨u,e1,r1⟩:=F.DW;have I:=UZ (P:=P) (w:=w) (a:=a) hEn (Ur.Us hmb) (c:=⟨.invoke recv m,s,k⟩) rfl e1 (dst:=dst) (ty:=ty) (pos:=pos) (after:=after) (guard:=guard);unfold Oper.wpIn;refine ⟨λ_ _=>trivial,?_⟩;rw [Oper.semAt_eq _ _ _ (λc h=>by cases h),I,Oper.uponIn_enter];refine ⟨CO r 0,?_⟩;have B:∀ x∈s,eH w g (eR σ x) (a.eval x):=λx hx=>H x (by simp [Op.operands,Call.operands,hx])
        have ha:=yL B;refine Gh ?_;refine (J b g w (u::(s.map a.eval).toList) h (by simp [uY]) (λi y v hy hv=>by
         grind)).mono ?_
        rintro e w' ⟨v,x,σ',R,U,rfl,z,N,p,h',E⟩;obtain ⟨v',A,z⟩:=yJ z;exact Ec hT O rest (i+1) _ R K _ w' (wP.1 z) ⟨U,(h'.Gc).zX _ _,((hf.Bn E).uU (σ':=mH σ σ') (λi=>I6 i)).zW q (A _ _ _ p),hE.lF E,av hn N⟩ hQ
       |_=>simp_all
     |_=>exact Z d
structure iE (P:Program) (r:Option Nat) (nt lo:Nat) (c:Code) (σ:eK) (n:Nat) (K:Exit->eK->Nat->Prop):Prop where
 nM:∀ (b:jL P) (t:se) (a:Act) (w:World),t.Li<=lo->si b t nt σ n a w->c.wpIn (rC r) 0 P (λe a' w'=>∃ σ' n',K e σ' n'/\si b t nt σ' n' a' w') a w
theorem iE.OW {r nt l c n K d} (h:iE P r nt l c σ n K) (k:∀ e σ n,K e σ n->d e σ n):iE P r nt l c σ n d:=
 ⟨λb t a w f s=>wpIn_mono (h.nM b t a w f s) λ_ _ _ ⟨σ',m,i,j⟩=>⟨σ',m,k _ _ _ i,j⟩⟩
theorem iE.OX {r nt l n K} (h:K .normal σ n):iE P r nt l .skip σ n K:=⟨λ_ _ _ _ _ s=>wpIn_skip ⟨σ,n,h,s⟩⟩
theorem iE.aew {r nt o n l K} (h:K .normal σ n):iE P r nt o (.label l) σ n K:=⟨λ_ _ _ _ _ s=>wpIn_label ⟨σ,n,h,s⟩⟩
theorem iE.aey {r nt l n K} (h:K .ret σ n):iE P r nt l .ret σ n K:=⟨λ_ _ _ _ _ s=>wpIn_ret ⟨σ,n,h,s⟩⟩
theorem iE.aev {r nt l n id K} (h:K (.exit id) σ n):iE P r nt l (.exit id) σ n K:=⟨λ_ _ _ _ _ s=>wpIn_exit ⟨σ,n,h,s⟩⟩
def Pz (v:eK->Nat->Prop) (K:Exit->eK->Nat->Prop) (e:Exit) (σ:eK) (n:Nat):Prop:=match e with| .normal=>v σ n|e=>K e σ n
theorem iE.F7 {r nt l n x y K} (h:iE P r nt l x σ n (Pz (λσ n=>iE P r nt l y σ n K) K)):iE P r nt l (.seq x y) σ n K:=by
 refine ⟨λb t a w c s=>?_⟩;refine wpIn_seq (wpIn_mono (h.nM b t a w c s) ?_);rintro e i k ⟨σ',j,d,f⟩;cases e with
 |normal=>exact d.nM b t i k c f
 |_=>exact ⟨σ',j,d,f⟩
def Pe (id:Nat) (K:Exit->eK->Nat->Prop) (e:Exit) (σ:eK) (n:Nat):Prop:=match e with
 | .exit i=>match Nat.beq i id with|true=>K .normal σ n|false=>K (.exit i) σ n
 |e=>K e σ n
theorem iE.aeu {r nt l n id c K} (h:iE P r nt l c σ n (Pe id K)):iE P r nt l (.block id c) σ n K:=by
 refine ⟨λb t a w f s=>?_⟩;refine wpIn_block (wpIn_mono (h.nM b t a w f s) ?_);rintro e o p ⟨σ',m,d,j⟩;cases e with
 |exit i=>
  simp only [Exit.inBlock];simp only [Pe] at d;cases k:Nat.beq i id with
  |true=>
   grind [Nat.eq_of_beq_eq_true]
  |false=>
   rw [k] at d;rw [ai (λe=>by simp_all)];grind
 |_=>exact ⟨σ',m,d,j⟩
def I4 (σ:eK) (c:Operand) (v:b9):eK:=match c with
 | .tmp t=>fc σ (.ct t) (.bg v)
 |_=>σ
theorem si.UA {b:jL P} {t:se} {nt n:Nat} (s:si b t nt σ n a w) {c:Operand} (o:Bs nt c=true) {v:b9} (m:∀ g,eH w g (eR σ c) (a.eval c)->eH w g v (a.eval c)):si b t nt (Am.I4 σ c v) n a w:=by
 obtain ⟨g,h,f,E,l⟩:=s;cases c with
 |tmp i=>
  have q:i<nt:=ki o;refine ⟨g,h.xx (σ':=fc σ (.ct i) (.bg v)) (λp=>g9 (by intro e;cases e)) (λp=>g9 (by intro e;cases e)),⟨f.qU,f.sg,λj k=>?_⟩,E,l⟩
  by_cases d:j=i
  .subst d;show eH w g (jx (fc σ (.ct j) (.bg v)) j) _;rw [Gx];exact m g (f.oW j k)
  .show eH w g (jx (fc σ (.ct i) (.bg v)) j) _;rw [Ac (by grind)];exact f.oW j k
 |_=>exact ⟨g,h,f,E,l⟩
theorem iE.F6 {r:Option Nat} {nt l n:Nat} {c:Operand} {x y:Code} {K:Exit->eK->Nat->Prop} (o:Bs nt c=true) (h:match eR σ c with| .fU=>iE P r nt l x σ n K| .fD=>iE P r nt l y σ n K| .eD q=>(q=true->iE P r nt l x (I4 σ c .fU) n K)/\(q=false->iE P r nt l y (I4 σ c .fD) n K)|_=>False):
  iE P r nt l (.cond c x y) σ n K:=by
 refine ⟨λb t a w f s=>?_⟩;have k:=s;obtain ⟨g,_,u,_,_⟩:=k;have d:eH w g (eR σ c) (a.eval c):=by
  rcases u.OY c with p|⟨i,rfl,z⟩
  .exact p
  .have:=ki o;omega
 cases j:eR σ c with
 |fU=>rw [j] at h d;exact wpIn_cond (t:=true) d.Bc (h.nM b t a w f s)
 |fD=>rw [j] at h d;exact wpIn_cond (t:=false) d.Ba (h.nM b t a w f s)
 |eD q=>
  rw [j] at h d;refine wpIn_cond_split d.xA (λe=>(h.1 e).nM b t a w f (s.UA o λm v=>?_)) (λe=>(h.2 e).nM b t a w f (s.UA o λm v=>?_))
  .rw [d.xA,e];exact .fJ .wB
  .rw [d.xA,e];exact .fJ .uR
 |_=>simp_all
theorem iE.aex {r nt l n id ops K} (c:jc P T) (d:ops.all (λo=>xM nt o.dst)=true) (h:xN P T nt ops (IW ops) ops 0 σ n (λσ n=>K .normal σ n)):iE P r nt l (.region id ops.toArray false) σ n K:=by
 refine ⟨λb t a w m e=>?_⟩;refine wpIn_region_lit (Ec c (ops:=ops.toArray) (λj q p=>?_) ops 0 σ n _ a w h e (λσ' f i u k s=>⟨σ',f,k,s⟩));grind
def z7 (nt:Nat):List Oper->Bool
 |[]=>true
 |o::l=>match xM nt o.dst with|true=>z7 nt l|false=>false
theorem LV {nt}:∀ {l:List Oper},z7 nt l=true->l.all (λo=>xM nt o.dst)=true
 |[],_=>rfl
 |o::l,h=>by
  simp only [z7] at h;cases c:xM nt o.dst with
  |false=>simp [c] at h
  |true=>simp only [c] at h;simp [c,LV h]
end
section
variable {P:Program} {T:iw} {b:jL P} {t:se} {σ σ':eK} {D:Nat->Prop} {g:gX} {a:Act} {w:World}
def Eh (σ:eK):Op->List fQ
 | .load _ x=>qb (eR σ x)
 | .store _ x _=>qb (eR σ x)
 | .convert _ _ x=>qb (eR σ x)
 | .next x _=>qb (eR σ x)
 | .call c=>match c.callee with
  | .builtin .append=>Gt (jr σ c.args.toList)
  | .builtin .copy=>Gt (jr σ c.args.toList)
  | .value f=>match eR σ f with
   | .eW _ first p=>Ei (xN.lz first (xN.lz (jr σ c.args.toList) p))
   |_=>[]
  |_=>[]
 |_=>[]
where
 Ei:List b9->List fQ
  |[]=>[]
  | .c8 b _::l=> .ay b::Ei l
  |_::l=>Ei l
 qb:b9->List fQ
  | .c8 b _=>[.ay b]
  | .eP b _ _ _ _=>[.ay b, .eT 1]
  | .gH b=>[.ay b]
  | .a8 _ _ _ (.je id)=>[.eT id]
  | .a8 _ _ _ (.hJ id)=>[.eT id]
  | .a8 _ _ _ .fW=>[.eT 0]
  |_=>[]
 Gt:List b9->List fQ
  |[]=>[]
  |x::l=>(qb x).append (Gt l)
theorem Pp {x l} (h:l∈Eh.qb x):∀ {xs:List b9},x∈xs->l∈Eh.Gt xs
 |y::s,c=>by
  simp only [Eh.Gt,List.append_eq,aF];rcases aK.1 c with rfl|c
  .exact .inl h
  .exact .inr (Pp h c)
theorem aeH {o} (h:∀ x∈o.op.operands,eR σ x=eR σ' x):uS P σ o=uS P σ' o:=by
 funext v;apply propext;have k:∀ {σ σ':eK},(∀ x∈o.op.operands,eR σ x=eR σ' x)->uS P σ o v->uS P σ' o v:=λh p g a w r=>p g a w (λx c=>by simp_all)
 grind
theorem Pv:∀ {s:List (Nat×Operand)},(∀ p∈s,eR σ p.2=eR σ' p.2)->rz σ s=rz σ' s
 |[],_=>rfl
 |(i,x)::s,h=>by
  simp only [rz];rw [h (i,x) (by simp),Pv (λp c=>h p (by simp [c]))]
theorem IZ:∀ {xs:List Operand},(∀ x∈xs,eR σ x=eR σ' x)->jr σ xs=jr σ' xs
 |[],_=>rfl
 |x::xs,h=>by
  simp only [jr];rw [h x (by simp),IZ (λp c=>h p (by simp [c]))]
theorem Pu {x} (h:∀ y,x=some y->eR σ y=eR σ' y):mh σ x=mh σ' x:=by
 cases x with
 |none=>rfl
 |some y=>grind [mh]
theorem aft {tx sz x k c} (d:∀ n,k n=c n) (h:∀ l∈Eh.qb x,σ l=σ' l):FX σ T tx sz x k=FX σ' T tx sz x c:=by
 have e:k=c:=funext d;subst e;cases x with
 |eP b o s len f=>
  grind [Eh.qb,FX]
 |_=>rfl
theorem afw {x k d sz} (i:∀ n c,k n c=d n c) (h:∀ l∈Eh.qb x,σ l=σ' l):F1 σ x k sz=F1 σ' x d sz:=by
 have e:k=d:=funext λn=>funext λc=>i n c
 subst e;cases x with
 |eP b o s len f=>
  grind [Eh.qb,F1]
 |_=>rfl
theorem afy {f t tx s x} (p:∀ l∈Eh.qb s,σ l=σ' l) (A:∀ l∈Eh.qb x,σ l=σ' l):F2 σ T f t tx s x=F2 σ' T f t tx s x:=by
 unfold F2;cases iv T t with
 |none=>rfl
 |some r=>
  obtain ⟨I,K,L,N⟩:=r;cases I with
  |jn e=>
   simp only;cases iv T e with
   |none=>rfl
   |some r=>
    obtain ⟨J,v,y,O⟩:=r;simp only;refine aft (λn=>?_) A;cases s with
    |a8 i z c d=>
     have q:∀ k,(∀ j,k=yC.je j->d= .je j)->(∀ j,k=yC.hJ j->d= .hJ j)->(k= .fW->d= .fW)->∀ c,DZ σ f e v y i k n c=DZ σ' f e v y i k n c:=by
      intro k F E H c;unfold DZ;grind [Eh.qb]
     simp only;rw [q d (λ_ h=>h) (λ_ h=>h) (λh=>h),q (D4 d) (λj h=>by cases d<;>cases h) (λj h=>by cases d<;>cases h) (λh=>by cases d<;>first|rfl|cases h)]
    |eP b o z len u=>
     have B:=p (.ay b) (by simp [Eh.qb]);have m:=p (.eT 1) (by simp [Eh.qb]);cases o<;>cases u<;>simp only [B,m]
    |_=>rfl
  |_=>rfl
theorem afA {t d x} (p:∀ l∈Eh.qb d,σ l=σ' l) (h:∀ l∈Eh.qb x,σ l=σ' l):F4 σ T t d x=F4 σ' T t d x:=by
 unfold F4;cases iv T t with
 |none=>rfl
 |some r=>
  obtain ⟨i,j,k,m⟩:=r;cases i with
  |jn e=>
   simp only;cases iv T e with
   |none=>rfl
   |some r=>
    obtain ⟨f,s,y,o⟩:=r;simp only;refine afw (λn c=>?_) h;grind [Eh.qb]
  |_=>rfl
theorem afz {f o bt s args} (c:uS P σ o=uS P σ' o) (h:(bt= .append\/bt= .copy)->∀ l∈Eh.Gt args,σ l=σ' l):F3 P σ T f o bt s args=F3 P σ' T f o bt s args:=by
 unfold F3;split
 .rfl
 .grind [afy,Pp]
 .grind [afA,Pp]
 .rfl
 .rfl
 .rw [c]
theorem afB {f o} (h:∀ x∈o.op.operands,eR σ x=eR σ' x) (B:∀ l∈Eh σ o.op,σ l=σ' l):iK P T σ f o=iK P T σ' f o:=by
 have j:uS P σ o=uS P σ' o:=aeH h;obtain ⟨E,m,L,J,r,q⟩:=o;cases m with
 |load t x=>
  grind [Op.operands,iK,Ly,Eh,Eh.qb]
 |store t x y=>
  have k:=h x (by simp [Op.operands]);have e:=h y (by simp [Op.operands]);simp only [iK,Lz];rw [<-k,<-e];cases X:eR σ x with
  |c8 b z=>
   have v:=B (.ay b) (by simp [Eh,X,Eh.qb]);simp only [v]
  |_=>rfl
 |convert s d x=>
  have k:=h x (by simp [Op.operands]);simp only [iK,Lx];rw [<-k];cases X:eR σ x with
  |eP b z sz len A=>
   have v:=B (.ay b) (by simp [Eh,X,Eh.qb]);simp only [v]
  |_=>rfl
 |next x str=>
  grind [Op.operands,iK,Eh,Eh.qb]
 |range t x=>grind [iK,Op.operands]
 |typeAssert x t at_ ok=>grind [iK,Op.operands]
 |build t ps=>simp only [iK];rw [Pv (λp H=>h p.2 (by grind [Op.operands]))]
 |buildSlice t n ps=>simp only [iK];rw [Pv (λp H=>h p.2 (by grind [Op.operands]))]
 |slice t x lo F I=>
  simp only [iK];rw [h x (by simp [Op.operands]),Pu (x:=lo) (λy e=>h y (by simp [Op.operands,e])),Pu (x:=F) (λy e=>h y (by simp [Op.operands,e])),Pu (x:=I) (λy e=>h y (by simp [Op.operands,e]))];rfl
 |makeFunc fn first u=>
  cases fn with
  |func fn=>simp only [iK];rw [IZ (xs:=first.toList) (λx k=>h x (by grind [Op.operands])),IZ (xs:=u.toList) (λx k=>h x (by grind [Op.operands]))]
  |_=>simp only [iK];rw [j]
 |unOp m t x=>cases m<;>simp only [iK]<;>first|grind [Op.operands]|rw [j]
 |call c=>
  grind [iK,IZ,Op.operands,Call.operands,afz,Eh]
 |move x=>grind [iK,Op.operands]
 |assign x=>grind [iK,Op.operands]
 |pick c x y=>grind [iK,Op.operands]
 |alloc t=>rfl
 |box t x=>grind [iK,Op.operands]
 |nilCheck x=>grind [iK,Op.operands]
 |binOp m t x y K=>simp only [iK];rw [h x (by simp [Op.operands]),h y (by simp [Op.operands]),j]
 |fieldAddr s x i=>simp only [iK];rw [h x (by simp [Op.operands])]
 |field s x i=>simp only [iK];rw [h x (by simp [Op.operands])]
 |indexAddr t x i=>simp only [iK];rw [h x (by simp [Op.operands]),h i (by simp [Op.operands])]
 |index t x i=>simp only [iK];rw [h x (by simp [Op.operands]),h i (by simp [Op.operands]),j]
 |extract x i=>grind [iK,Op.operands]
 |makeSlice t l c=>simp only [iK];rw [h l (by simp [Op.operands]),h c (by simp [Op.operands])]
 |makeInterface t x=>grind [iK,Op.operands]
 |_=>simp only [iK];rw [j]
end
def nE (us:List (fQ×gC)):List fQ:=us.map (·.1)
theorem Gy:∀ us σ l,l∉nE us->jP σ us l=σ l
 |[],_,_,_=>rfl
 |(k,c)::us,σ,l,h=>by
  simp only [nE,bp,aK,not_or] at h;rw [jP,Gy us _ l h.2,g9 h.1]
theorem L7:∀ us σ σ' l,l∈nE us->jP σ us l=jP σ' us l
 |[],_,_,_,h=>by simp [nE] at h
 |(k,c)::us,σ,σ',l,h=>by
  by_cases m:l∈nE us
  .rw [jP,jP,L7 us _ (fc σ' k c) l m]
  .have d:l=k:=by
    grind [nE]
   subst d;rw [jP,jP,Gy us _ l m,Gy us _ l m,lX,lX]
theorem Bu:∀ us vs σ,jP σ (us++vs)=jP (jP σ us) vs
 |[],_,_=>rfl
 |(k,c)::us,vs,σ=>by simp only [bP,jP];exact Bu us vs _
section
variable (W:Nat->List (fQ×gC)) (σ0:eK)
def oK (D:Nat->Bool):Nat->eK
 |0=>σ0
 |k+1=>match D k with|true=>jP (oK D k) (W k)|false=>oK D k
theorem Py {D D'} (l):∀ k,(∀ j,j<k->l∈nE (W j)->D j=D' j)->oK W σ0 D k l=oK W σ0 D' k l
 |0,_=>rfl
 |k+1,h=>by
  have i:=Py (D:=D) (D':=D') l k (λj d=>h j (Nat.lt_succ_of_lt d))
  by_cases c:l∈nE (W k)
  .have e:=h k (dI k) c;simp only [oK];rw [e];cases D' k with
   |true=>grind [L7]
   |false=>exact i
  .have y:∀ D,oK W σ0 D (k+1) l=oK W σ0 D k l:=λD=>by
    simp only [oK];cases D k with
    |true=>exact Gy _ _ _ c
    |false=>rfl
   rw [y,y,i]
def xO (D:Nat->Bool) (i:Nat):Nat->Bool:=λj=>match Nat.beq j i with|true=>true|false=>D j
theorem xP (D i):xO D i i=true:=by simp [xO]
theorem s8 (D) {i j} (h:j≠i):xO D i j=D j:=by
 grind [Nat.eq_of_beq_eq_true,xO]
theorem afv {D i N} (n:i<N) (f:D i=false) (q:∀ j,j<N->i<j->D j=true->∀ l,l∈nE (W i)->l∉nE (W j)):oK W σ0 (xO D i) N=jP (oK W σ0 D N) (W i):=by
 funext l
 by_cases p:l∈nE (W i)
 ·
  have e:∀ k,i+1<=k->k<=N->oK W σ0 (xO D i) k l=jP (oK W σ0 D k) (W i) l:=by
   intro k o
   induction k with
   |zero=>omega
   |succ k c=>
    intro d
    by_cases h:k=i
    .subst h;simp only [oK,xP];grind [L7]
    .have c:=c om om;simp only [oK,s8 D h];cases m:D k with
     |true=>
      grind [Gy,L7]
     |false=>exact c
  grind
 grind [Gy,Py,s8]
end
def wN (D:Nat->Bool):Nat->Nat
 |0=>0
 |k+1=>wN D k+(match D k with|true=>0|false=>1)
theorem UK {D D'}:∀ k,(∀ j,j<k->D j=D' j)->wN D k=wN D' k
 |0,_=>rfl
 |k+1,h=>by simp only [wN];rw [UK k (λj c=>h j (Nat.lt_succ_of_lt c)),h k (dI k)]
theorem UL {D i} (d:D i=false):∀ k,i<k->wN (xO D i) k+1=wN D k
 |0,h=>by omega
 |k+1,h=>by
  simp only [wN]
  by_cases c:k=i
  .grind [xP,UK,s8]
  .rw [s8 D c,<-UL d k om];omega
theorem UM {D}:∀ k,wN D k=0->∀ j,j<k->D j=true
 |0,_,j,e=>by omega
 |k+1,h,j,e=>by
  simp only [wN] at h;cases d:D k with
  |false=>simp [d] at h
  |true=>
   by_cases c:j=k
   .subst c;exact d
   .exact UM k om j om
def yK (o:Oper):List Nat:=Gk o.after.toList
where
 Gk:List Edge->List Nat
  |[]=>[]
  |e::l=>match Region.binds .any e with|true=>e.on::Gk l|false=>Gk l
theorem Gj:∀ {l:List Edge} {d:Nat},d∈yK.Gk l↔∃ e∈l,Region.binds .any e=true/\e.on=d
 |[],d=>by simp [yK.Gk]
 |e::l,d=>by
  simp only [yK.Gk];cases h:Region.binds .any e with
  |true=>
   simp only [aK,Gj (l:=l)];grind
  |false=>
   simp only [Gj (l:=l),aK];simp_all
def Gn (p:List Nat):List Nat->Nat
 |[]=>0
 |d::l=>2^d|||(match p9 p d with|some m=>m|none=>0)|||Gn p l
def qa:List Oper->List Nat->List Nat
 |[],p=>p
 |o::l,p=>qa l (p++[Gn p (yK o)])
def IU:Nat->List Nat->Bool
 |_,[]=>true
 |i,d::l=>match Nat.blt d i with|true=>IU i l|false=>false
def CN:Nat->List Oper->Bool
 |_,[]=>true
 |i,o::l=>match IU i (yK o) with|true=>CN (i+1) l|false=>false
theorem UP:∀ {i:Nat} {l:List Nat},IU i l=true->∀ d∈l,d<i
 |i,[],_,d,h=>by simp at h
 |i,e::l,h,d,f=>by
  simp only [IU] at h;cases c:Nat.blt e i with
  |false=>simp [c] at h
  |true=>
   simp only [c] at h;rcases aK.1 f with rfl|f
   .exact ki c
   .exact UP h d f
theorem Pk:∀ {l:List Oper} {i:Nat},CN i l=true->∀ j o,l[j]? =some o->∀ d∈yK o,d<i+j
 |[],i,_,j,o,h,_,_=>by simp at h
 |k::l,i,h,j,o,e,d,f=>by
  simp only [CN] at h;cases c:IU i (yK k) with
  |false=>simp [c] at h
  |true=>
   simp only [c] at h;cases j with
   |zero=>simp at e;subst e;have:=UP c d f;omega
   |succ j=>have:=Pk h j o (by simpa using e) d f;omega
def Ga (ops:List Oper) (D:Nat->Bool):Prop:=∀ (j:Nat) (o:Oper),ops[j]? =some o->D j=true->∀ d∈yK o,D d=true
theorem U6 {p:List Nat} {D:Nat->Bool} (hp:∀ (d m:Nat),p[d]? =some m->D d=true->∀ k,m.testBit k=true->D k=true):∀ {l:List Nat},(∀ d∈l,D d=true)->∀ k,(Gn p l).testBit k=true->D k=true
 |[],_,k,h=>by simp [Gn] at h
 |d::l,c,k,h=>by
  simp only [Gn,Nat.testBit_or,cq] at h;rcases h with (h|h)|h
  .grind
  .grind [xE]
  .exact U6 hp (λe f=>c e (by simp [f])) k h
theorem Pr {all:List Oper} {D:Nat->Bool} (f:Ga all D):∀ (l:List Oper) (p:List Nat),(∀ (j:Nat) (o:Oper),l[j]? =some o->all[p.length+j]? =some o)->
  (∀ (d m:Nat),p[d]? =some m->D d=true->∀ k,m.testBit k=true->D k=true)->∀ (d m:Nat),(qa l p)[d]? =some m->D d=true->∀ k,m.testBit k=true->D k=true
 |[],p,_,hp=>hp
 |o::l,p,hl,hp=>by
  refine Pr f l (p++[Gn p (yK o)]) (λj s n=>?_) (λd m c i k q=>?_)
  .have:=hl (j+1) s (by simpa using n);grind
  .by_cases r:d<p.length
   .grind
   .have h:d=p.length:=by
     grind
    subst h;rw [aW (aq _),dT] at c;simp at c;subst c;have e:=hl 0 o rfl;rw [cI] at e;exact U6 hp (f _ o e i) k q
structure nr where
 LD:List fQ
 Gb:List fQ
def Gp (l:fQ):List fQ->Bool
 |[]=>false
 |k::r=>match l.CC k with|true=>true|false=>Gp l r
theorem U7 {l}:∀ {r:List fQ},Gp l r=true↔l∈r
 |[]=>by simp [Gp]
 |k::r=>by
  simp only [Gp];cases c:l.CC k with
  |true=>simp [fQ.IA.1 c]
  |false=>
   have h:l≠k:=λe=>by grind [fQ.IA]
   simp [U7 (r:=r),h]
def Gq:List fQ->List fQ->Bool
 |[],_=>true
 |l::r,m=>match Gp l m with|true=>false|false=>Gq r m
theorem L0:∀ {r m:List fQ},Gq r m=true->∀ l∈r,l∉m
 |[],m,_,l,h=>by simp at h
 |k::r,m,h,l,hl=>by
  simp only [Gq] at h;cases c:Gp k m with
  |true=>simp [c] at h
  |false=>
   simp only [c] at h;rcases aK.1 hl with rfl|hl
   .grind [U7]
   .exact L0 h l hl
def Bq (x y:nr):Bool:=match Gq x.Gb y.Gb with
 |false=>false
 |true=>match Gq x.Gb y.LD with
  |false=>false
  |true=>Gq y.Gb x.LD
def Eb (m:Nat) (y:nr):Nat->List nr->Bool
 |_,[]=>true
 |i,x::l=>match Nat.testBit m i with
  |true=>Eb m y (i+1) l
  |false=>match Bq x y with|true=>Eb m y (i+1) l|false=>false
theorem UG {m y}:∀ {l:List nr} {i:Nat},Eb m y i l=true->∀ j x,l[j]? =some x->m.testBit (i+j)=true\/Bq x y=true
 |[],i,_,j,x,h=>by simp at h
 |z::l,i,h,j,x,k=>by
  simp only [Eb] at h;have s:Eb m y (i+1) l=true->∀ d,j=d+1->m.testBit (i+j)=true\/Bq x y=true:=λh d e=>by
   subst e;have:=UG h d x (by simpa using k);grind
  cases c:Nat.testBit m i with
  |true=>
   simp only [c] at h;cases j with
   |zero=>exact .inl c
   |succ j=>exact s h j rfl
  |false=>
   simp only [c] at h;cases f:Bq z y with
   |false=>simp [f] at h
   |true=>
    simp only [f] at h;cases j with
    |zero=>simp_all
    |succ j=>exact s h j rfl
def Gi (p:List nr):List Nat->List nr->Bool
 |m::s,y::c=>match Eb m y 0 p with|true=>Gi (p++[y]) s c|false=>false
 |[],[]=>true
 |_,_=>false
theorem UN:∀ {prev:List nr} {k:List Nat} {s:List nr},Gi prev k s=true->∀ i j m x y,k[j]? =some m->s[j]? =some y->(prev++s)[i]? =some x->i<prev.length+j->m.testBit i=true\/Bq x y=true
 |prev,[],s,h,i,j,m,x,y,c,d,f,e=>by simp at c
 |prev,n::k,[],h,i,j,m,x,y,c,d,f,e=>by simp at d
 |prev,n::k,o::s,h,i,j,m,x,y,c,d,f,e=>by
  simp only [Gi] at h;cases l:Eb n o 0 prev with
  |false=>simp [l] at h
  |true=>
   simp only [l] at h;cases j with
   |zero=>
    simp at c d;subst c d;rw [aS om] at f;have:=UG l i x f;simp_all
   |succ j=>
    exact UN h i j m x y (by simpa using c) (by simpa using d) (by simp_all) (by simp;omega)
theorem Ps:∀ l p,(qa l p).length=p.length+l.length
 |[],p=>by simp [qa]
 |o::l,p=>by rw [qa,Ps l];simp;omega
def IT (ops:List Oper) (f:List nr):Bool:=match CN 0 ops with
 |true=>Gi [] (qa ops []) f
 |false=>false
section
variable {P:Program} {T:iw} {b:jL P} {t:se} {σ σ':eK} {D:Nat->Prop} {g:gX} {a:Act} {w:World}
def Ej:List Operand->List fQ
 |[]=>[]
 | .tmp t::l=> .ct t::Ej l
 |_::l=>Ej l
theorem Vo:∀ {l:List Operand} {t:Nat},Operand.tmp t∈l->fQ.ct t∈Ej l
 |x::l,t,h=>by
  rcases aK.1 h with h|h
  .grind [Ej]
  .have:=Vo h;cases x<;>simp [Ej,this]
def Po (all:List Oper):Option (Nat×Bool)->List fQ
 |none=>[]
 |some (j,_)=>match p9 all j with
  |some o=>match o.dst with|some d=>[.ct d]|none=>[]
  |none=>[]
def pM (σ:eK) (all:List Oper) (o:Oper):List fQ:=(Ej (vE o.op)).append ((Po all o.guard).append (Eh σ o.op))
def s6 (dst:Option Tmp) (v:b9):List (fQ×gC):=match dst with|none=>[]|some d=>[(.ct d, .bg v)]
theorem xQ (σ dst v):jP σ (s6 dst v)=I2 σ dst v:=by cases dst<;>rfl
def UE (v c:b9):Prop:=∀ (w:World) (g:gX) (l:Value),eH w g v l->eH w g c l
def U0:Op->Bool
 | .call c=>match c.callee with| .value _=>true|_=>false
 |_=>false
structure O2 (P:Program) (f:FuncId) (args:List b9) (σ:eK) (res:b9):Prop where
 aeI:s5 P f
 aeJ:∀ (σ':eK),(∀ l∈Eh.Ei args,σ' l=σ l)->∀ (b:jL P) (D:Nat->Prop) (g:gX) (w:World) (vals:List Value),fl b σ' D g w->vals.length=args.length->(∀ (i:Nat) (x:b9) (v:Value),args[i]? =some x->vals[i]? =some v->eH w g x v)->
  Calls P f vals.toArray w λe w'=>∃ v g',e= .returned v/\eH w' g' res v/\fl b σ' D g' w'/\iN g w g' w'
structure Gf (P:Program) (f:FuncId) (args:List b9) (σ:eK) (rx:List fQ) (wx:List (fQ×gC)) (res:b9):Prop where
 aeX:s5 P f
 aeY:∀ (σ':eK),(∀ l∈rx,σ' l=σ l)->∀ (b:jL P) (D:Nat->Prop) (g:gX) (w:World) (vals:List Value),fl b σ' D g w->vals.length=args.length->(∀ (i:Nat) (x:b9) (v:Value),args[i]? =some x->vals[i]? =some v->eH w g x v)->
  Calls P f vals.toArray w λe w'=>∃ v g',e= .returned v/\eH w' g' res v/\fl b (jP σ' wx) D g' w'/\iN g w g' w'
theorem O2.LL {f args res} (h:O2 P f args σ res):Gf P f args σ (Eh.Ei args) [] res:=⟨h.aeI,h.aeJ⟩
theorem Gf.Ea {f args res} (hp:er P f (vD args) res) (p:vF args=true):Gf P f args σ [] [] res:=
 ⟨hp.O1,λ_ _ _ _ _ _ _ h l k=>(er.Ux hp p h l k).mono λ_ _ ⟨v,c,d,e,i,j,_⟩=>⟨v,c,d,e,i,j⟩⟩
structure qx (P:Program) (m0:Nat) (f:FuncId) (args:List b9) (σ:eK) (n:Nat) (rx:List fQ) (wx:List (fQ×gC)) (res:b9):Prop where
 D5:s5 P f
 D6:∀ (σ':eK),(∀ l∈rx,σ' l=σ l)->∀ (b:jL P) (D:Nat->Prop) (g:gX) (w:World) (vals:List Value),(∀ i,i<m0->D i)->fl b σ' D g w->g.fk n=none->g.gF n=none->vals.length=args.length->(∀ (i:Nat) (x:b9) (v:Value),args[i]? =some x->vals[i]? =some v->eH w g x v)->
  Calls P f vals.toArray w λe w'=>∃ v g',e= .returned v/\eH w' g' res v/\fl b (jP σ' wx) (λi=>D i\/i=n) g' w'/\iN g w g' w'
theorem Gf.CM {f args n rx x res} (h:Gf P f args σ rx x res):qx P 0 f args σ n rx x res:=
 ⟨h.aeX,λσ' k b D g w l _ m _ _ o p=>(h.aeY σ' k b D g w l m o p).mono λ_ _ ⟨v,j,e,c,d,i⟩=>⟨v,j,e,c,d.mQ (λ_ q=> .inl q),i⟩⟩
theorem qx.aeD {m f args n rx x res} (h:qx P m f args σ n rx x res) (r:∀ l∈rx,σ l=σ' l):qx P m f args σ' n rx x res:=
 ⟨h.D5,λc e=>h.D6 c λl d=>(e l d).trans (r l d).symm⟩
def D7 (P:Program) (T:iw) (nt:Nat) (all:List Oper) (l f:Nat) (σ:eK) (o:Oper) (rx:List fQ) (h:List (fQ×gC)):Prop:=
 Ab nt o=true/\
 ((uX σ all o.guard=some false/\h=s6 o.dst (.dn []))\/
  (uX σ all o.guard=some true/\
   ((∃ v u d,U0 o.op=false/\(iK P T σ f o).ld v u/\sl u=true/\UE v d/\h=u++s6 o.dst d)\/
    (∃ i r s n first c e d x m,m<=l/\o.op= .call ⟨.value i,r,s⟩/\eR σ i= .eW n first c/\
     qx P m n (first++(jr σ r.toList++c)) σ f rx x e/\sl x=true/\UE e d/\h=x++s6 o.dst d))))
inductive Bp (P:Program) (T:iw) (nt:Nat) (all:List Oper) (lo0:Nat):Nat->eK->List Oper->List (List (fQ×gC))->List nr->eK->Prop
 |CL {f:Nat} {σ:eK}:Bp P T nt all lo0 f σ [] [] [] σ
 |Pc {f:Nat} {σ σ':eK} {o:Oper} {rest:List Oper} {wr:List (fQ×gC)} {ws:List (List (fQ×gC))} {fps:List nr} {rx:List fQ} (h:D7 P T nt all lo0 f σ o rx wr) (h':Bp P T nt all lo0 (f+1) (jP σ wr) rest ws fps σ'):
   Bp P T nt all lo0 f σ (o::rest) (wr::ws) (⟨rx++pM σ all o,nE wr⟩::fps) σ'
theorem aff {all gd} (h:∀ l∈Po all gd,σ l=σ' l):uX σ all gd=uX σ' all gd:=by
 cases gd with
 |none=>rfl
 |some j=>
  grind [uX,Po,jx]
theorem afo {x l} (c:x∈l) (h:∀ k∈Ej l,σ k=σ' k):eR σ x=eR σ' x:=by
 cases x with
 |tmp t=>
  have:=h (.ct t) (Vo c);show jx σ t=jx σ' t;grind [jx]
 |_=>rfl
theorem D7.aeE {nt all j f o rx y} (h:D7 P T nt all j f σ o rx y) (i:∀ l∈rx++pM σ all o,σ l=σ' l):D7 P T nt all j f σ' o rx y:=by
 have p:∀ l∈pM σ all o,σ l=σ' l:=λl n=>i l (cP _ n)
 have u:∀ x∈o.op.operands,eR σ x=eR σ' x:=λx v=>afo (Vd o.op x v) (λk e=>p k (by simp [pM,e]))
 have K:=aff (σ:=σ) (σ':=σ') (all:=all) (gd:=o.guard) (λk e=>p k (by simp [pM,e]));have L:=afB (P:=P) (T:=T) (f:=f) u (λk e=>p k (by simp [pM,e]));obtain ⟨O,d⟩:=h;refine ⟨O,?_⟩;rw [<-K,<-L];rcases d with d|⟨N,d⟩
 .exact .inl d
 .refine .inr ⟨N,?_⟩;rcases d with d|⟨J,r,m,I,first,c,q,R,S,Q,F,z,U,A,H,B,E⟩
  .exact .inl d
  .have s:jr σ r.toList=jr σ' r.toList:=IZ (λx v=>u x (by grind [Op.operands,Call.operands]));refine .inr ⟨J,r,m,I,first,c,q,R,S,Q,F,z,?_,by rw [<-s];exact A.aeD (λl n=>i l (bO _ n)),H,B,E⟩;grind [Op.operands,Call.operands]
theorem D7.aeF (hT:jc P T) {r:Option Nat} {n0 nt:Nat} {ops:Array Oper} (F:∀ (j:Nat) (o':Oper),ops[j]? =some o'->xM nt o'.dst=true) {Q} {i I f:Nat} {o} (J:ops[i]? =some o) {rx wr}
  (h1:D7 P T nt ops.toList I f σ o rx wr) (hD:∀ i,i<I->D i) (h:fl b σ D g w) (y:g.fk f=none) (z:g.gF f=none) (l:qv n0 nt σ g a w) {K}
  (R:∀ a' w' g',fl b (jP σ wr) (λj=>D j\/j=f) g' w'->qv n0 nt (jP σ wr) g' a' w'->iN g w g' w'->K a' w'):wpOpIn (rC r) 0 P ops Q i K a w:=by
 obtain ⟨hoo,Y⟩:=h1;obtain ⟨k,d⟩:=l.OZ hoo;unfold wpOpIn;simp only [J];rcases Y with ⟨U,e⟩|⟨U,Y⟩
 .have n:=LX l U F;rw [ai (by rw [n];simp)];subst e;refine ⟨λ_ _=>trivial,?_⟩;refine R _ w g ?_ ?_ (iN.uO g w)
  .rw [xQ];exact (h.zX _ _).mQ (λ_ J=> .inl J)
  .rw [xQ];exact l.zW d (.fJ (.wC (vs:=[]) rfl (by simp)))
 .have n:=LX l U F;rw [ak n];rcases Y with ⟨v,L,v',hc,X,Z,hup,e⟩|⟨fo,s,N,fn,first,u,res,v',wx,m0,em,e1,e2,e4,en,e5,e6⟩
  .subst e;obtain ⟨nx,val,w',g',hr,B,p,O,E⟩:=Vm hT h y z X k;have S:qv n0 nt (jP σ L) g' a w':=(l.Bn E).uU (λi=>I7 L σ i Z);have m:K (a.put o.dst val) w':=by
    refine R _ w' g' ?_ ?_ E
    .rw [Bu,xQ];exact O.zX _ _
    .rw [Bu,xQ];exact S.zW d (hup _ _ _ p)
   unfold Oper.wpIn;refine ⟨λ_ _=>trivial,?_⟩;rw [Oper.semAt_eq _ _ _ (LZ hr B),hr];rcases B with rfl|⟨rfl,rfl⟩
   .exact m
   .exact m
  .subst e6;obtain ⟨dst,op,ty,pos,after,guard⟩:=o;simp only at e1;subst e1;have A:=k fo (by simp [Op.operands,Call.operands]);rw [e2] at A;obtain ⟨vs,L,q1,l1,l2,r1,r2⟩:=A.CD;have H:=Pf (P:=P) (w:=w) (a:=a) e4.D5 (c:=⟨.value fo,s,N⟩) rfl q1 (dst:=dst) (ty:=ty) (pos:=pos) (after:=after) (guard:=guard);unfold Oper.wpIn;refine ⟨λ_ _=>trivial,?_⟩;rw [Oper.semAt_eq _ _ _ (λc h=>by cases h),H,Oper.uponIn_enter];refine ⟨CO r 0,?_⟩;have q:∀ x∈s,eH w g (eR σ x) (a.eval x):=λx hx=>k x (by simp [Op.operands,Call.operands,hx])
   have ha:=yL q;refine Gh ?_;refine (e4.D6 σ (λ_ _=>rfl) b D g w (vs++(s.map a.eval).toList++L) (λi J=>hD i om) h y z (by simp [l1,l2,uY]) (by grind [uY])).mono ?_;rintro e w' ⟨v,g',rfl,p,O,E⟩;refine R _ w' g' ?_ ?_ E
   .rw [Bu,xQ];exact O.zX _ _
   .rw [Bu,xQ];exact ((l.Bn E).uU (λi=>I7 wx σ i en)).zW d (e5 _ _ _ p)
def su (σ:eK) (s:List (List (fQ×gC))):Nat->eK
 |0=>σ
 |k+1=>jP (su σ s k) (s.getD k [])
theorem L6 (σ) (r:List (fQ×gC)) (s):∀ k,su σ (r::s) (k+1)=su (jP σ r) s k
 |0=>rfl
 |k+1=>by rw [su,L6 σ r s k];rfl
theorem Bp.aeV {nt all c l f σ σ' s p} (h:Bp P T nt all c f σ l s p σ'):
  σ'=su σ s l.length/\∀ i o,l[i]? =some o->∃ d rx,p[i]? =some d/\d.Gb=nE (s.getD i [])/\d.LD=rx++pM (su σ s i) all o/\D7 P T nt all c (f+i) (su σ s i) o rx (s.getD i []):=by
 induction h with
 |CL=>exact ⟨rfl,λi o h=>by simp at h⟩
 |Pc h _ k=>
  obtain ⟨e,k⟩:=k;refine ⟨?_,λi m j=>?_⟩
  .grind [L6]
  .cases i with
   |zero=>
    simp at j;subst j;exact ⟨_,_,rfl,rfl,rfl,h⟩
   |succ i=>
    grind [L6]
theorem I3 (σ0 s i):∀ k,oK (λj=>s.getD j []) σ0 (λj=>Nat.blt j i) k=su σ0 s (min k i)
 |0=>by simp [oK,su]
 |k+1=>by
  simp only [oK];rw [I3 σ0 s i k];cases h:Nat.blt k i with
  |true=>
   have:=ki h;rw [show min (k+1) i=k+1 by omega,show min k i=k by omega];rfl
  |false=>
   grind [Nat.blt_eq]
theorem Bp.aeW {nt all o l f σ σ' s p} (h:Bp P T nt all o f σ l s p σ'):s.length=l.length/\p.length=l.length:=by
 induction h with
 |CL=>omega
 |Pc _ _ i=>simp [i.1,i.2]
theorem Vk (σ s):∀ lo k,su σ (List.replicate lo []++s) (lo+k)=su σ s k
 |0,k=>by simp
 |lo+1,k=>by
  rw [List.replicate_succ,bP,show lo+1+k=(lo+k)+1 by omega,L6];exact Vk σ s lo k
theorem Pj (h):∀ k,wN (λj=>Nat.blt j h) k=k - h
 |0=>by simp [wN]
 |k+1=>by
  simp only [wN,Pj h k];grind [Nat.blt_eq]
theorem ae8 {a b} (h:Nat.blt a b=false):¬a<b:=λc=>by grind [Nat.blt_eq]
theorem UO (hT:jc P T) {r:Option Nat} {nt n p lo0:Nat} {ops E:List Oper} {σ0 σ1} {ws:List (List (fQ×gC))} {fps:List nr} (hseg:∀ i,i<E.length->ops[p+i]? =E[i]?) (hhi:p+E.length<=ops.length)
  (hlo0:lo0<=n) (htr:Bp P T nt ops lo0 n σ0 E ws fps σ1) (he:CN 0 ops=true) (hc:Gi [] ((qa ops []).take (p+E.length)) (List.replicate p ⟨[],[]⟩++fps)=true) (hok:z7 nt ops=true)
  (hbar:∀ i,p+E.length<=i->i<ops.length->∀ j,j<p+E.length->∃ m,(qa ops [])[i]? =some m/\m.testBit j=true) {Q} {t:se}
  (fin:∀ (s:Array Bool) (a:Act) (w:World) (g:gX),s.size=ops.length->(∀ j,s.getD j false=Nat.blt j (p+E.length))->fl b σ1 (·<n+E.length) g w->qv t.yE.heap.size nt σ1 g a w->iN t.DY t.yE g w->
   wpAnyIn (rC r) 0 P .any ops.toArray Q (ops.length - (p+E.length)) s a w) (s:Array Bool) (a w g) (hsz0:s.size=ops.length) (hl0:∀ j,s.getD j false=Nat.blt j p)
  (hs0:fl b σ0 (·<n) g w) (hf0:qv t.yE.heap.size nt σ0 g a w) (hE0:iN t.DY t.yE g w):wpAnyIn (rC r) 0 P .any ops.toArray Q (ops.length - p) s a w:=by
 obtain ⟨etr,hat0⟩:=htr.aeV;obtain ⟨hwl,hfl⟩:=htr.aeW;have hoks:∀ (j:Nat) o',ops.toArray[j]? =some o'->xM nt o'.dst=true:=λj o' ho=>bi.1 (LV hok) o' (bh (by simpa using ho))
 have hearl:∀ (j:Nat) o,ops[j]? =some o->∀ d∈yK o,d<j:=λj o v d hd=>by have:=Pk he j o v d hd;omega
 generalize hws:List.replicate p []++ws=F;generalize hfp:List.replicate p (⟨[],[]⟩:nr)++fps=fps' at hc;generalize hh:p+E.length=u at*
 let W:Nat->List (fQ×gC):=λj=>F.getD j []
 have L:∀ k,su σ0 F (p+k)=su σ0 ws k:=λk=>by rw [<-hws];exact Vk σ0 ws p k
 have hWlo:∀ j,j<p->W j=[]:=λj v=>by
  show F.getD j []=[];rw [<-hws,bH,aS (by simpa using v),List.getElem?_replicate];simp [v]
 have hWhi:∀ j,u<=j->W j=[]:=λj v=>by
  show F.getD j []=[];rw [<-hws,bH,bs (by simp;omega)];rfl
 have hin:∀ j l,l∈nE (W j)->p<=j/\j<u:=λj l X=>by
  refine ⟨?_,?_⟩
  .rcases bu j p with h|h
   .rw [hWlo j h] at X;simp [nE] at X
   .exact h
  .rcases bu j u with h|h
   .exact h
   .rw [hWhi j h] at X;simp [nE] at X
 have hat:∀ (i:Nat) o,p<=i->i<u->ops[i]? =some o->∃ fp rx,fps'[i]? =some fp/\fp.Gb=nE (F.getD i [])/\fp.LD=rx++pM (su σ0 F i) ops o/\D7 P T nt ops lo0 (n+(i - p)) (su σ0 F i) o rx (F.getD i []):=by
  intro i o h1 h2 h3;obtain ⟨k,rfl⟩:∃ k,i=p+k:=⟨i - p,om⟩;have hk:k<E.length:=om;rw [hseg k hk] at h3;obtain ⟨fp,rx,q1,q2,q3,q4⟩:=hat0 k o h3;have e1:F.getD (p+k) []=ws.getD k []:=by
   rw [<-hws,bH,aW (by simp),bH];simp
  refine ⟨fp,rx,?_,by rw [e1];exact q2,by rw [L];exact q3,?_⟩
  .rw [<-hfp,aW (by simp)];simpa using q1
  .rw [e1,L,Nat.add_sub_cancel_left];exact q4
 have O:∀ (i j:Nat) oi oj x y,i<j->j<u->ops[i]? =some oi->ops[j]? =some oj->fps'[i]? =some x->fps'[j]? =some y->(∃ m,(qa ops [])[j]? =some m/\m.testBit i=true)\/Bq x y=true:=by
  intro i j oi oj x y hij hjh hi' v hx hy;have hjl:j<(qa ops []).length:=by rw [Ps];have:=(aB.1 v).1;simpa using this
  have Y:((qa ops []).take u)[j]? =some (qa ops [])[j]:=by rw [bq,ak hjh];exact aj hjl
  rcases UN hc i j (qa ops [])[j] x y Y hy (by simpa using hx) (by simpa using hij) with h1|h1
  .exact .inl ⟨_,aj hjl,h1⟩
  .exact .inr h1
 have Z:∀ D,Ga ops D->∀ (j m:Nat),(qa ops [])[j]? =some m->D j=true->∀ k,m.testBit k=true->D k=true:=λD hD=>Pr hD ops [] (λj o v=>by simpa using v) (by simp)
 have key:∀ (I:Nat) s a w g,s.size=ops.length->Ga ops (λj=>s.getD j false)->(∀ j,j<p->s.getD j false=true)->(∀ j,u<=j->s.getD j false=false)->wN (λj=>s.getD j false) ops.length=I->
   fl b (oK W σ0 (λj=>s.getD j false) ops.length) (λid=>id<n\/∃ j,p<=j/\s.getD j false=true/\id=n+(j - p)) g w->qv t.yE.heap.size nt (oK W σ0 (λj=>s.getD j false) ops.length) g a w->iN t.DY t.yE g w->
   wpAnyIn (rC r) 0 P .any ops.toArray Q I s a w:=by
  intro I
  induction I with
  |zero=>
   intro s a w g hsz hcl hlo K hcnt hs hfs hEE;have hall:=UM _ hcnt;have hie:ops.length<=u:=by
    rcases bu u ops.length with h|h
    .have h1:=hall u h;rw [K u (aq _)] at h1;cases h1
    .exact h
   have B:∀ j,s.getD j false=Nat.blt j u:=λj=>by
    rcases bu j u with h|h
    .have z:Nat.blt j u=true:=by rw [dq];exact h
     rw [z];exact hall j om
    .have z:Nat.blt j u=false:=by
      cases z:Nat.blt j u with
      |false=>rfl
      |true=>have:=ki z;omega
     rw [z];exact K j h
   have hsd:oK W σ0 (λj=>s.getD j false) ops.length=σ1:=by
    rw [show (λj=>s.getD j false)=λj=>Nat.blt j u from funext B,I3,jT om,<-hh,L,<-etr]
   rw [hsd] at hs hfs;have:=fin s a w g hsz B (hs.mQ (λid A=>by
    rcases A with A|⟨j,h1,h2,rfl⟩
    .omega
    .rw [B] at h2;have:=ki h2;omega)) hfs hEE
   rwa [show ops.length - u=0 by omega] at this
  |succ I ih=>
   intro s a w g hsz hcl hlo K hcnt hs hfs hEE
   by_cases hfull:∀ j,j<u->s.getD j false=true
   .have B:∀ j,s.getD j false=Nat.blt j u:=λj=>by
     rcases bu j u with h|h
     .have z:Nat.blt j u=true:=by rw [dq];exact h
      rw [z];exact hfull j h
     .have z:Nat.blt j u=false:=by
       cases z:Nat.blt j u with
       |false=>rfl
       |true=>have:=ki z;omega
      rw [z];exact K j h
    have hsd:oK W σ0 (λj=>s.getD j false) ops.length=σ1:=by
     rw [show (λj=>s.getD j false)=λj=>Nat.blt j u from funext B,I3,jT om,<-hh,L,<-etr]
    rw [hsd] at hs hfs;rw [show (λj=>s.getD j false)=λj=>Nat.blt j u from funext B,Pj] at hcnt;have:=fin s a w g hsz B (hs.mQ (λid A=>by
     rcases A with A|⟨j,h1,h2,rfl⟩
     .omega
     .rw [B] at h2;have:=ki h2;omega)) hfs hEE
    rwa [hcnt] at this
   obtain ⟨ju,hju,hjuD⟩:∃ j,j<u/\s.getD j false=false:=by
    refine j3 λhno=>hfull λj v=>?_
    cases X:s.getD j false with
    |true=>rfl
    |false=>exact absurd ⟨j,v,X⟩ hno
   refine ⟨λhready=>?_,λi hi2=>?_⟩
   ·
    exfalso;obtain ⟨j0,hj0,hl0⟩:∃ j,j<ops.length/\s.getD j false=false:=⟨ju,om,hjuD⟩;have hmin:∃ j,(j<ops.length/\s.getD j false=false)/\∀ k,k<j->¬(k<ops.length/\s.getD k false=false):=by
     have:∀ m,(m<ops.length/\s.getD m false=false)->∃ j,(j<ops.length/\s.getD j false=false)/\∀ k,k<j->¬(k<ops.length/\s.getD k false=false):=by
      intro m
      induction m using Nat.strongRecOn with
      |_ m ihm=>
       intro Y
       by_cases hk:∃ k,k<m/\(k<ops.length/\s.getD k false=false)
       .obtain ⟨k,hk1,hk2⟩:=hk;exact ihm k hk1 hk2
       .exact ⟨m,Y,λk hk1 hk2=>hk ⟨k,hk1,hk2⟩⟩
     exact this j0 ⟨hj0,hl0⟩
    obtain ⟨j,⟨S,U⟩,hj3⟩:=hmin;have hmem:j∈Region.ready .any ops.toArray s:=by
     refine mem_ready.2 ⟨?_,ops[j],by simp [S],λe he z=>?_⟩
     .have e1:s.getD j true=s.getD j false:=by simp [hsz,S]
      rw [e1];exact U
     .have hd:e.on∈yK ops[j]:=Gj.2 ⟨e,by simpa using he,z,rfl⟩;have hlt:=hearl j ops[j] (aj S) e.on hd;cases X:s.getD e.on false with
      |true=>rfl
      |false=>exact absurd ⟨om,X⟩ (hj3 e.on hlt)
    rw [hready] at hmem;simp at hmem
   .obtain ⟨h1,o,h2,h3⟩:=mem_ready.1 hi2;have hil:i<ops.length:=by have:=(bm.1 h2).1;simpa using this
    have hoi:ops[i]? =some o:=by simpa using h2
    have J:s.getD i false=false:=by
     have e1:s.getD i true=s.getD i false:=by simp [hsz,hil]
     rw [<-e1];exact h1
    have hdeps:∀ d∈yK o,s.getD d false=true:=λd hd=>by
     obtain ⟨e,he,z,rfl⟩:=Gj.1 hd;exact h3 e (by simpa using he) z
    have hcl':Ga ops (xO (λj=>s.getD j false) i):=by
     intro j oj v hDj d hd
     by_cases q:j=i
     .subst q;rw [hoi] at v;cases v
      by_cases hdj:d=j
      .subst hdj;exact xP _ _
      .rw [s8 _ hdj];exact hdeps d hd
     .rw [s8 _ q] at hDj
      by_cases hdi:d=i
      .subst hdi;exact xP _ _
      .rw [s8 _ hdi];exact hcl j oj v hDj d hd
    have hlt:i<u:=by
     rcases bu i u with h|h
     .exact h
     .obtain ⟨m,Y,z⟩:=hbar i h hil ju hju;have:=Z _ hcl' i m Y (xP _ _) ju z;rw [s8 _ om,hjuD] at this;cases this
    have hge:p<=i:=by
     rcases bu i p with h|h
     .rw [hlo i h] at J;cases J
     .exact h
    obtain ⟨fp,rx,f1,f2,f3,f4⟩:=hat i o hge hlt hoi;have hearlier:∀ (j:Nat),j<i->(∃ m,(qa ops [])[i]? =some m/\m.testBit j=true)->s.getD j false=true:=by
     rintro j q ⟨m,Y,z⟩;have:=Z _ hcl' i m Y (xP _ _) j z
     rwa [s8 _ om] at this
    have hlater:∀ (j:Nat),i<j->(∃ m,(qa ops [])[j]? =some m/\m.testBit i=true)->s.getD j false=false:=by
     rintro j hij ⟨m,Y,z⟩;cases X:s.getD j false with
     |false=>rfl
     |true=>
      have:=Z _ hcl j m Y X i z;rw [J] at this;cases this
    have hagree:∀ l∈rx++pM (su σ0 F i) ops o,su σ0 F i l=oK W σ0 (λj=>s.getD j false) ops.length l:=by
     intro l X;rw [<-show oK W σ0 (λj=>Nat.blt j i) ops.length=su σ0 F i by rw [I3,jT om]];refine Py W σ0 l ops.length (λj v hw=>?_);obtain ⟨oj,hoj⟩:∃ oj,ops[j]? =some oj:=⟨_,aj v⟩;obtain ⟨S,U⟩:=hin j l hw;obtain ⟨fpj,_,g1,g2,_,_⟩:=hat j oj S U hoj
     by_cases q:j<i
     .have z:Nat.blt j i=true:=by rw [dq];exact q
      rw [z];rcases O j i oj o fpj fp q hlt hoj hoi g1 f1 with Y|N
      .exact (hearlier j q Y).symm
      .exfalso;unfold Bq at N;split at N
       .cases N
       .split at N
        .cases N
        .rename_i h5;exact L0 h5 l (by rw [g2];exact hw) (by rw [f3];exact X)
     .have z:Nat.blt j i=false:=by
       cases hbb:Nat.blt j i with
       |false=>rfl
       |true=>exact absurd (ki hbb) q
      rw [z]
      by_cases hjie:j=i
      .subst hjie;exact J.symm
      .rcases O i j o oj fp fpj om U hoi hoj f1 g1 with Y|N
       .exact (hlater j om Y).symm
       .exfalso;unfold Bq at N;split at N
        .cases N
        .split at N
         .cases N
         .exact L0 N l (by rw [g2];exact hw) (by rw [f3];exact X)
    have hone:=f4.aeE hagree;have hset:oK W σ0 (xO (λj=>s.getD j false) i) ops.length=jP (oK W σ0 (λj=>s.getD j false) ops.length) (W i):=by
     refine afv W σ0 hil J (λj v hij hDj l X hlj=>?_);obtain ⟨oj,hoj⟩:∃ oj,ops[j]? =some oj:=⟨_,aj v⟩;obtain ⟨S,U⟩:=hin j l hlj;obtain ⟨fpj,_,g1,g2,_,_⟩:=hat j oj S U hoj;rcases O i j o oj fp fpj hij U hoi hoj f1 g1 with Y|N
     .have:=hlater j hij Y;rw [hDj] at this;cases this
     .unfold Bq at N;split at N
      .cases N
      .rename_i h5;exact L0 h5 l (by rw [f2];exact X) (by rw [g2];exact hlj)
    have H:∀ j,(s.setIfInBounds i true).getD j false=xO (λj=>s.getD j false) i j:=by
     intro j
     by_cases q:j=i
     .subst q;rw [xP];simp [hsz,hil]
     .rw [s8 _ q];simp [cN (λe=>q e.symm)]
    have hfun:(λj=>(s.setIfInBounds i true).getD j false)=xO (λj=>s.getD j false) i:=funext H;refine hone.aeF hT hoks h2 (λid A=> .inl (aX A hlo0)) hs (f:=n+(i - p)) ?_ ?_ hfs (λa' w' g' k1 k2 k3=>?_)
    .cases hc:g.fk (n+(i - p)) with
     |none=>rfl
     |some c=>
      rcases hs.pI _ _ hc with h5|⟨j,h4,h5,h6⟩
      .omega
      .have:j=i:=om;subst this;rw [J] at h5;cases h5
    .cases hc:g.gF (n+(i - p)) with
     |none=>rfl
     |some c=>
      rcases hs.oF _ _ hc with h5|⟨j,h4,h5,h6⟩
      .omega
      .have:j=i:=om;subst this;rw [J] at h5;cases h5
    .refine ih (s.setIfInBounds i true) a' w' g' (by simp [hsz]) (by rw [hfun];exact hcl') (λj v=>?_) (λj v=>?_) ?_ ?_ ?_ (hEE.lF k3)
     .rw [H,s8 _ om];exact hlo j v
     .rw [H,s8 _ om];exact K j v
     .rw [hfun];have:=UL (D:=λj=>s.getD j false) J ops.length hil;omega
     .rw [hfun,hset];refine k1.mQ (λid A=>?_);rcases A with (A|⟨j,h4,h5,h6⟩)|rfl
      .exact .inl A
      .refine .inr ⟨j,h4,?_,h6⟩;rw [H]
       by_cases q:j=i
       .subst q;exact xP _ _
       .rw [s8 _ q];exact h5
      .exact .inr ⟨i,hge,by rw [H];exact xP _ _,rfl⟩
     .rw [hfun,hset];exact k2
 have R:(λj=>s.getD j false)=λj=>Nat.blt j p:=funext hl0
 have hsd0:oK W σ0 (λj=>s.getD j false) ops.length=σ0:=by
  rw [R,I3,jT om];have:=L 0;rw [cI] at this;rw [this];rfl
 refine key (ops.length - p) s a w g hsz0 ?_ (λj v=>?_) (λj v=>?_) ?_ ?_ ?_ hE0
 .rw [R];intro j o v hD d hd;have h1:=ki hD;have h2:=hearl j o v d hd;show Nat.blt d p=true;rw [dq];omega
 .rw [hl0,dq];exact v
 .rw [hl0];cases z:Nat.blt j p with
  |false=>rfl
  |true=>have:=ki z;omega
 .rw [R,Pj]
 .rw [hsd0];exact hs0.mQ λid A=> .inl A
 .rw [hsd0];exact hf0
end
section
variable {P:Program} {T:iw} {σ σ':eK}
def sq:List nr->List nr:=λl=>L5 l []
where
 L5:List nr->List nr->List nr
  |[],m=>m
  |x::l,m=>L5 l (x::m)
theorem afs (l):sq l=l.reverse:=by
 have:∀ l m,sq.L5 l m=l.reverse++m:=by
  intro l
  induction l with
  |nil=>intro m;rfl
  |cons x l i=>grind [sq.L5]
 grind [sq]
def Ed:List fQ->(List fQ->Prop)->Prop
 |[],K=>K []
 | .ct i::l,K=>Ed l λm=>K (.ct i::m)
 | .ay i::l,K=>Ed l λm=>K (.ay i::m)
 | .eT i::l,K=>Ed l λm=>K (.eT i::m)
theorem U5:∀ {l:List fQ} {K:List fQ->Prop},Ed l K↔K l
 |[],K=>j2
 |x::l,K=>by cases x<;>simp only [Ed,U5]
def uW (r c:List fQ) (K:nr->Prop):Prop:=Ed r λr=>Ed c λc=>K ⟨r,c⟩
theorem Gm {r wr K}:uW r wr K↔K ⟨r,wr⟩:=by simp only [uW,U5]
def qW:Nat->List nr
 |0=>[]
 |k+1=>⟨[],[]⟩::qW k
theorem U9:∀ k,qW k=List.replicate k ⟨[],[]⟩
 |0=>rfl
 |k+1=>by rw [qW,U9 k];rfl
def Pq (m t:Nat):Bool:=Nat.beq (m % 2^t) (2^t - 1)
theorem afi {m t} (h:Pq m t=true):∀ j,j<t->m.testBit j=true:=λj d=>by
 have h:=bc h;have c:(m % 2^t).testBit j=true:=by simp_all
 grind
def Gg (i:Nat):Nat->List Nat->Bool
 |_,[]=>true
 |k,m::s=>match Nat.blt k i with
  |true=>Gg i (k+1) s
  |false=>match Pq m (match Nat.beq k i with|true=>i|false=>i+1) with
   |true=>Gg i (k+1) s
   |false=>false
theorem UI {i}:∀ {l:List Nat} {k:Nat},Gg i k l=true->∀ j m,l[j]? =some m->i<=k+j->∀ x,(if k+j=i then x<i else x<i+1)->m.testBit x=true
 |[],k,_,j,m,d,_,_,_=>by simp at d
 |o::l,k,h,j,m,d,p,x,q=>by
  simp only [Gg] at h;have s:Gg i (k+1) l=true->∀ f,j=f+1->m.testBit x=true:=λh f e=>by
   subst e;exact UI h f m (by simpa using d) om x (by grind)
  cases c:Nat.blt k i with
  |true=>
   simp only [c] at h;cases j with
   |zero=>have:=ki c;omega
   |succ j=>exact s h j rfl
  |false=>
   simp only [c] at h;cases n:Pq o (match Nat.beq k i with|true=>i|false=>i+1) with
   |false=>simp [n] at h
   |true=>
    simp only [n] at h;cases j with
    |succ j=>exact s h j rfl
    |zero=>
     grind [afi,Nat.eq_of_beq_eq_true]
def yI (ops:List Oper) (i:Nat):Bool:=Gg i 0 (qa ops [])
def xL (ops:List Oper) (i:Nat) (f:List nr):Bool:=match CN 0 ops with
 |true=>Gi [] ((qa ops []).take i) f
 |false=>false
def U2 (T:iw) (t:TypeId):Bool:=match iv T t with|some ⟨.ku _,_,_,_⟩=>true|_=>false
def pt (P:Program) (T:iw) (nt:Nat) (all:List Oper) (s:List Nat):List Oper->Nat->eK->Nat->List nr->(List nr->eK->Nat->Prop)->Prop
 |[],_,σ,n,acc,K=>K acc σ n
 |⟨dst,op,y,pos,after,guard⟩::rest,i,σ,n,acc,K=>
  match Ab nt ⟨dst,op,y,pos,after,guard⟩ with
  |false=>False
  |true=>match uX σ all guard with
   |none=>False
   |some false=>lf σ dst (.dn []) λσ'=>uW (pM σ all ⟨dst,op,y,pos,after,guard⟩) (nE (s6 dst (.dn []))) λp=>pt P T nt all s rest (i+1) σ' (n+1) (p::acc) K
   |some true=>match op with
    | .call ⟨.value o,args,ats⟩=>match eR σ o with
     | .eW f first c=>
      match vF (xN.lz first (xN.lz (jr σ args.toList) c)) with
      |true=>match U2 T y with
       |true=>xL all i (sq acc)=true/\yI all i=true/\fF P f (xN.lz first (xN.lz (jr σ args.toList) c)) σ n λv σ' h=>lP (lQ i s) v λv=>lf (mH σ σ') dst v λσ=>pt P T nt all s rest (i+1) σ h (qW (i+1)) K
       |false=>match σ (.eT 0) with
        | .bg _=>∃ l r j e,Nat.ble (l+i) n=true/\qx P l f (xN.lz first (xN.lz (jr σ args.toList) c)) σ n j e r/\sl e=true/\
         lP (lQ i s) r λv=>wQ σ e λd=>lf d dst v λσ'=>uW (j.append (pM σ all ⟨dst, .call ⟨.value o,args,ats⟩,y,pos,after,guard⟩)) (nE (e++s6 dst v)) λp=>pt P T nt all s rest (i+1) σ' (n+1) (p::acc) K
        |_=>∃ r,vF (xN.lz first (xN.lz (jr σ args.toList) c))=true/\er P f (vD (xN.lz first (xN.lz (jr σ args.toList) c))) r/\
        lP (lQ i s) r λv=>lf σ dst v λσ'=>uW (pM σ all ⟨dst, .call ⟨.value o,args,ats⟩,y,pos,after,guard⟩) (nE (s6 dst v)) λp=>pt P T nt all s rest (i+1) σ' (n+1) (p::acc) K
      |false=>match σ (.eT 0) with
       | .bg _=>∃ l r j e,Nat.ble (l+i) n=true/\qx P l f (xN.lz first (xN.lz (jr σ args.toList) c)) σ n j e r/\sl e=true/\
        lP (lQ i s) r λv=>wQ σ e λd=>lf d dst v λσ'=>uW (j.append (pM σ all ⟨dst, .call ⟨.value o,args,ats⟩,y,pos,after,guard⟩)) (nE (e++s6 dst v)) λp=>pt P T nt all s rest (i+1) σ' (n+1) (p::acc) K
       |_=>(∃ r j e,Gf P f (xN.lz first (xN.lz (jr σ args.toList) c)) σ j e r/\sl e=true/\
       lP (lQ i s) r λv=>wQ σ e λd=>lf d dst v λσ'=>uW (j.append (pM σ all ⟨dst, .call ⟨.value o,args,ats⟩,y,pos,after,guard⟩)) (nE (e++s6 dst v)) λp=>pt P T nt all s rest (i+1) σ' (n+1) (p::acc) K)\/
       (xL all i (sq acc)=true/\yI all i=true/\fF P f (xN.lz first (xN.lz (jr σ args.toList) c)) σ n λv σ' h=>lP (lQ i s) v λv=>lf (mH σ σ') dst v λσ=>pt P T nt all s rest (i+1) σ h (qW (i+1)) K)
     | .gG id=>xL all i (sq acc)=true/\yI all i=true/\F9 P id (jr σ args.toList) σ n λv σ' h=>lP (lQ i s) v λv=>lf (mH σ σ') dst v λσ=>pt P T nt all s rest (i+1) σ h (qW (i+1)) K
     |_=>False
    | .call ⟨.invoke q m,args,_⟩=>match eR σ q with
     | .gm t x=>xL all i (sq acc)=true/\yI all i=true/\∃ f,Ee P t m f=true/\fF P f (x::jr σ args.toList) σ n λv σ' h=>lP (lQ i s) v λv=>lf (mH σ σ') dst v λσ=>pt P T nt all s rest (i+1) σ h (qW (i+1)) K
     |_=>False
    | .lookup mt x k ok=>xL all i (sq acc)=true/\yI all i=true/\qu P ⟨dst, .lookup mt x k ok,y,pos,after,guard⟩ σ n λv σ' h=>lP (lQ i s) v λv=>lf (mH σ σ') dst v λσ=>pt P T nt all s rest (i+1) σ h (qW (i+1)) K
    |op=>(iK P T σ n ⟨dst,op,y,pos,after,guard⟩).DX λv u=>match sl u with
     |true=>lP (lQ i s) v λv=>wQ σ u λd=>lf d dst v λσ'=>uW (pM σ all ⟨dst,op,y,pos,after,guard⟩) (nE (u++s6 dst v)) λp=>pt P T nt all s rest (i+1) σ' (n+1) (p::acc) K
     |false=>False
structure Pd (P:Program) (T:iw) (nt:Nat) (all:List Oper) (gs:List Nat) (o:Oper) (rest:List Oper) (i:Nat) (σ:eK) (n:Nat) (acc:List nr) (K:List nr->eK->Nat->Prop):Prop where
 ae3:Ab nt o=true
 ae2:uX σ all o.guard=some true
 ae1:xL all i (sq acc)=true
 aeZ:yI all i=true
 ae0:(∃ fo args ats id,o.op= .call ⟨.value fo,args,ats⟩/\eR σ fo= .gG id/\
  F9 P id (jr σ args.toList) σ n λv σ' n'=>lP (lQ i gs) v λv=>lf (mH σ σ') o.dst v λσ=>pt P T nt all gs rest (i+1) σ n' (qW (i+1)) K)\/
  (∃ fo args ats f first captured,o.op= .call ⟨.value fo,args,ats⟩/\eR σ fo= .eW f first captured/\
  fF P f (first++(jr σ args.toList++captured)) σ n λv σ' n'=>lP (lQ i gs) v λv=>lf (mH σ σ') o.dst v λσ=>pt P T nt all gs rest (i+1) σ n' (qW (i+1)) K)\/
  (∃ recv m args ats f t x,o.op= .call ⟨.invoke recv m,args,ats⟩/\eR σ recv= .gm t x/\Ee P t m f=true/\
  fF P f (x::jr σ args.toList) σ n λv σ' n'=>lP (lQ i gs) v λv=>lf (mH σ σ') o.dst v λσ=>pt P T nt all gs rest (i+1) σ n' (qW (i+1)) K)\/
  (∃ mt x k ae3,o.op= .lookup mt x k ae3/\qu P o σ n λv σ' n'=>lP (lQ i gs) v λv=>lf (mH σ σ') o.dst v λσ=>pt P T nt all gs rest (i+1) σ n' (qW (i+1)) K)
theorem UT {nt all Y}:∀ {l:List Oper} {i:Nat} {σ:eK} {n:Nat} {A:List nr} {K:List nr->eK->Nat->Prop},pt P T nt all Y l i σ n A K->
  ∃ s d ws u σ',l=s++d/\Bp P T nt all (n - i) n σ s ws u σ'/\((d=[]/\K (u.reverse++A) σ' (n+s.length))\/∃ o e,d=o::e/\Pd P T nt all Y o e (i+s.length) σ' (n+s.length) (u.reverse++A) K)
 |[],i,σ,n,A,K,h=>⟨[],[],[],[],σ,rfl, .CL, .inl ⟨rfl,by simpa [pt] using h⟩⟩
 |⟨dst,op,ty,pos,after,guard⟩::e,i,σ,n,A,K,h=>by
  simp only [pt] at h;cases z:Ab nt ⟨dst,op,ty,pos,after,guard⟩ with
  |false=>simp_all
  |true=>
   simp only [z] at h;have N:∀ {rx:List fQ} {wr:List (fQ×gC)} {Q:eK} {fp:nr},D7 P T nt all (n - i) n σ ⟨dst,op,ty,pos,after,guard⟩ rx wr->Q=jP σ wr->fp=⟨rx++pM σ all ⟨dst,op,ty,pos,after,guard⟩,nE wr⟩->pt P T nt all Y e (i+1) Q (n+1) (fp::A) K->
     ∃ s d ws u σ',(⟨dst,op,ty,pos,after,guard⟩::e:List Oper)=s++d/\Bp P T nt all (n - i) n σ s ws u σ'/\((d=[]/\K (u.reverse++A) σ' (n+s.length))\/
      ∃ o e,d=o::e/\Pd P T nt all Y o e (i+s.length) σ' (n+s.length) (u.reverse++A) K):=by
    intro rx wr Q fp hone e1 e2 Z;subst e1 e2;obtain ⟨s,d,ws,u,σ',q,J,F⟩:=UT Z;rw [Nat.add_sub_add_right] at J;refine ⟨_::s,d,_,_,σ',by rw [q];rfl, .Pc hone J,?_⟩;grind
   cases y:uX σ all guard with
   |none=>simp_all
   |some want=>
    simp only [y] at h;cases want with
    |false=>exact N (rx:=[]) ⟨z, .inl ⟨y,rfl⟩⟩ (xQ _ _ _).symm rfl (Gm.1 (wP.1 h))
    |true=>
     have O:U0 op=false->((iK P T σ n ⟨dst,op,ty,pos,after,guard⟩).DX λv us=>match sl us with
       |true=>lP (lQ i Y) v λv=>wQ σ us λQ=>lf Q dst v λσ'=>uW (pM σ all ⟨dst,op,ty,pos,after,guard⟩) (nE (us++s6 dst v)) λfp=>pt P T nt all Y e (i+1) σ' (n+1) (fp::A) K
       |false=>False)->∃ s d ws u σ',(⟨dst,op,ty,pos,after,guard⟩::e:List Oper)=s++d/\Bp P T nt all (n - i) n σ s ws u σ'/\((d=[]/\K (u.reverse++A) σ' (n+s.length))\/
        ∃ o e,d=o::e/\Pd P T nt all Y o e (i+s.length) σ' (n+s.length) (u.reverse++A) K):=by
      intro hcb Z;obtain ⟨v,us,hg,L⟩:=oG.Lh _ Z;cases hnt:sl us with
      |false=>simp_all
      |true=>
       simp only [hnt] at L;obtain ⟨S,E,L⟩:=yJ L;have L:=Gm.1 (wP.1 (I8.1 L));exact N (rx:=[]) ⟨z, .inr ⟨y, .inl ⟨v,us,S,hcb,hg,hnt,E,rfl⟩⟩⟩ (by rw [Bu,xQ]) rfl L
     cases op with
     |call c=>
      obtain ⟨R,j,r⟩:=c;cases R with
      |value U=>
       simp only at h;cases B:eR σ U with
       |eW f first p=>
        simp only [B,Pg] at h;split at h
        .split at h
         .obtain ⟨J,F,H⟩:=h;exact ⟨[],_,[],[],σ,rfl, .CL, .inr ⟨_,_,rfl,⟨z,y,J,F, .inr (.inl ⟨U,j,r,f,first,p,rfl,B,H⟩)⟩⟩⟩
         split at h
         .obtain ⟨m0,I,rx,wx,hm,F,hn,H⟩:=h;have hm:=cO hm;obtain ⟨S,E,L⟩:=yJ H;exact N (rx:=rx) ⟨z, .inr ⟨y, .inr ⟨U,j,r,f,first,p,I,S,wx,m0,om,rfl,B,F,hn,E,rfl⟩⟩⟩ (by rw [Bu,xQ]) rfl (Gm.1 (wP.1 (I8.1 L)))
         obtain ⟨I,J,F,H⟩:=h;obtain ⟨S,E,L⟩:=yJ H;exact N (rx:=[]) ⟨z, .inr ⟨y, .inr ⟨U,j,r,f,first,p,I,S,[],0,ar _,rfl,B,(Gf.Ea F J).CM,rfl,E,rfl⟩⟩⟩ (xQ _ _ _).symm rfl (Gm.1 (wP.1 L))
        .split at h
         .obtain ⟨m0,I,rx,wx,hm,F,hn,H⟩:=h;have hm:=cO hm;obtain ⟨S,E,L⟩:=yJ H;exact N (rx:=rx) ⟨z, .inr ⟨y, .inr ⟨U,j,r,f,first,p,I,S,wx,m0,om,rfl,B,F,hn,E,rfl⟩⟩⟩ (by rw [Bu,xQ]) rfl (Gm.1 (wP.1 (I8.1 L)))
         rcases h with ⟨I,rx,wx,F,hn,H⟩|⟨J,F,H⟩
         .obtain ⟨S,E,L⟩:=yJ H;exact N (rx:=rx) ⟨z, .inr ⟨y, .inr ⟨U,j,r,f,first,p,I,S,wx,0,ar _,rfl,B,F.CM,hn,E,rfl⟩⟩⟩ (by rw [Bu,xQ]) rfl (Gm.1 (wP.1 (I8.1 L)))
         .exact ⟨[],_,[],[],σ,rfl, .CL, .inr ⟨_,_,rfl,⟨z,y,J,F, .inr (.inl ⟨U,j,r,f,first,p,rfl,B,H⟩)⟩⟩⟩
       |gG id=>
        simp only [B] at h;obtain ⟨J,F,H⟩:=h;exact ⟨[],_,[],[],σ,rfl, .CL, .inr ⟨_,_,rfl,⟨z,y,J,F, .inl ⟨U,j,r,id,rfl,B,H⟩⟩⟩⟩
       |_=>simp_all
      |builtin bt=>exact O rfl h
      |invoke X m=>
       simp only at h;cases hrv:eR σ X with
       |gm t x=>
        simp only [hrv] at h;obtain ⟨J,F,f,hmb,H⟩:=h;exact ⟨[],_,[],[],σ,rfl, .CL, .inr ⟨_,_,rfl,⟨z,y,J,F, .inr (.inr (.inl ⟨X,m,j,r,f,t,x,rfl,hrv,hmb,H⟩))⟩⟩⟩
       |_=>simp_all
     |lookup mt x k ok=>
      obtain ⟨J,F,H⟩:=h;exact ⟨[],_,[],[],σ,rfl, .CL, .inr ⟨_,_,rfl,⟨z,y,J,F, .inr (.inr (.inr ⟨mt,x,k,ok,rfl,H⟩))⟩⟩⟩
     |_=>exact O rfl h
theorem afe (hT:jc P T) {r:Option Nat} {nt:Nat} {ops:List Oper} {gs:List Nat} (hok:z7 nt ops=true) {b:jL P} {t:se} {K:Exit->eK->Nat->Prop}:∀ (len:Nat) (q:List Oper) (i:Nat) (σ:eK) (n:Nat),q.length<=len->q=ops.drop i->i<=ops.length->
  pt P T nt ops gs q i σ n (qW i) (λY σ n=>IT ops (sq Y)=true/\K .normal σ n)->t.Li<=n->∀ (s:Array Bool) (a:Act) (w:World) (g:gX),s.size=ops.length->(∀ j,s.getD j false=Nat.blt j i)->
  fl b σ (·<n) g w->qv t.yE.heap.size nt σ g a w->iN t.DY t.yE g w->wpAnyIn (rC r) 0 P .any ops.toArray (λe a' w'=>∃ σ' n',K e σ' n'/\si b t nt σ' n' a' w') (ops.length - i) s a w:=by
 intro len
 induction len with
 |zero=>
  intro q i σ n hlen hr hi hev hn s a w g hsz hl hs hf hE;have:q=[]:=aR om;subst this;have hie:i=ops.length:=by have:=congrArg List.length hr;simp at this;omega
  subst hie;obtain ⟨_,hk⟩:=hev;rw [dT];refine ⟨?_,σ,n,hk,g,hs,hf,hE,hn⟩;refine cw.2 λj hj=>?_
  obtain ⟨h1,o,Z,_⟩:=mem_ready.1 hj;have S:j<ops.length:=by have:=(bm.1 Z).1;simpa using this
  have X:s.getD j true=s.getD j false:=by simp [hsz,S]
  have I:Nat.blt j ops.length=true:=by rw [dq];exact S
  rw [X,hl,I] at h1;cases h1
 |succ len ih=>
  intro q i σ n hlen hr hi hev hn s a w g hsz hl hs hf hE;obtain ⟨B,tail,ws,Y,σ',hq,htr,hcase⟩:=UT hev;have hrl:q.length=ops.length - i:=by rw [hr,aV]
  have hsl:B.length+tail.length=ops.length - i:=by rw [<-hrl,hq,au]
  have hseg:∀ k,k<B.length->ops[i+k]? =B[k]?:=λk hk=>by
   have:q[k]? =B[k]?:=by rw [hq,aS hk]
   rw [<-this,hr,br]
  have hrev:sq (Y.reverse++qW i)=List.replicate i ⟨[],[]⟩++Y:=by rw [afs,U9];simp
  have hml:(qa ops []).length=ops.length:=by rw [Ps];simp
  rcases hcase with ⟨rfl,hc,hk⟩|⟨o,H,rfl,hy⟩
  .rw [aH] at hq;rw [hrev] at hc;have hhi:i+B.length=ops.length:=by simp at hsl;omega
   unfold IT at hc;cases he:CN 0 ops with
   |false=>simp [he] at hc
   |true=>
   simp only [he] at hc;refine UO hT hseg om (Nat.sub_le _ _) htr he (by rw [hhi,<-hml,aN];exact hc) hok (λk h1 Z=>by omega) (λs a w g h1 Z h3 h4 h5=>?_) s a w g hsz hl hs hf hE;rw [hhi,dT];refine ⟨?_,σ',n+B.length,hk,g,h3,h4,h5,om⟩;refine cw.2 λj hj=>?_
   obtain ⟨q1,o,q2,_⟩:=mem_ready.1 hj;have S:j<ops.length:=by have:=(bm.1 q2).1;simpa using this
   have X:s.getD j true=s.getD j false:=by simp [h1,S]
   have I:Nat.blt j (i+B.length)=true:=by rw [dq];omega
   rw [X,Z,I] at q1;cases q1
  .have hc:=hy.ae1;rw [hrev] at hc;generalize hj:i+B.length=j at*;have S:j<ops.length:=by simp at hsl;omega
   have hoj:ops[j]? =some o:=by
    have:q[B.length]? =some o:=by rw [hq,aW (aq _),dT];rfl
    rw [hr,br,hj] at this;exact this
   have hrest':H=ops.drop (j+1):=by
    have:q.drop (B.length+1)=H:=by rw [hq,<-cD,List.drop_left];rfl
    rw [<-this,hr,cD];congr 1;omega
   unfold xL at hc;cases he:CN 0 ops with
   |false=>simp [he] at hc
   |true=>
   simp only [he] at hc;have hearl:∀ (j:Nat) (o:Oper),ops[j]? =some o->∀ d∈yK o,d<j:=λj o hj d hd=>by have:=Pk he j o hj d hd;omega
   have hbar:=UI hy.aeZ;have hmask:∀ (D:Nat->Bool),Ga ops D->∀ (j m:Nat),(qa ops [])[j]? =some m->D j=true->∀ k,m.testBit k=true->D k=true:=λD hD=>Pr hD ops [] (λj o hj=>by simpa using hj) (by simp)
   refine UO hT hseg om (Nat.sub_le _ _) htr he (by rw [hj];exact hc) hok (λk h1 Z x hx=>?_) (λs a w g h1 Z h3 h4 h5=>?_) s a w g hsz hl hs hf hE
   .have hkl:k<(qa ops []).length:=om;refine ⟨_,aj hkl,hbar k _ (aj hkl) om x ?_⟩;split<;>omega
   .rw [hj] at Z ⊢;obtain ⟨fuel,hfuel⟩:∃ fuel,ops.length - j=fuel+1:=⟨ops.length - j - 1,om⟩;rw [hfuel];have hjD:s.getD j false=false:=by
     rw [Z];cases I:Nat.blt j j with
     |false=>rfl
     |true=>have:=ki I;omega
    refine ⟨λhready=>?_,λk hk=>?_⟩
    .exfalso;have hmem:j∈Region.ready .any ops.toArray s:=by
      refine mem_ready.2 ⟨?_,o,by simpa using hoj,λe he I=>?_⟩
      .have X:s.getD j true=s.getD j false:=by simp [h1,S]
       rw [X];exact hjD
      .have hd:e.on∈yK o:=Gj.2 ⟨e,by simpa using he,I,rfl⟩;have hlt:=hearl j o hoj e.on hd;rw [Z,dq];exact hlt
     rw [hready] at hmem;simp at hmem
    .obtain ⟨q1,ok,q2,q3⟩:=mem_ready.1 hk;have hkl:k<ops.length:=by have:=(bm.1 q2).1;simpa using this
     have hok':ops[k]? =some ok:=by simpa using q2
     have hkD:s.getD k false=false:=by
      have X:s.getD k true=s.getD k false:=by simp [h1,hkl]
      rw [<-X];exact q1
     have hkj:¬k<j:=λh=>by
      have I:Nat.blt k j=true:=by rw [dq];exact h
      rw [Z,I] at hkD;cases hkD
     have hcl:Ga ops (xO (λj=>s.getD j false) k):=by
      intro x ox hx hDx d hd
      by_cases hxk:x=k
      .subst hxk;rw [hok'] at hx;cases hx
       by_cases hdk:d=x
       .subst hdk;exact xP _ _
       .rw [s8 _ hdk];obtain ⟨e,he,I,rfl⟩:=Gj.1 hd;exact q3 e (by simpa using he) I
      .rw [s8 _ hxk] at hDx;have hDx:s.getD x false=true:=hDx;rw [Z] at hDx;have hlt:=ki hDx;have hdx:=hearl x ox hx d hd
       by_cases hdk:d=k
       .subst hdk;exact xP _ _
       .rw [s8 _ hdk];show s.getD d false=true;rw [Z,dq];omega
     have hke:k=j:=by
      rcases bu j k with h|h
      .have hkm:k<(qa ops []).length:=om;have I:=hbar k _ (aj hkm) om j (by split<;>omega);have:=hmask _ hcl k _ (aj hkm) (xP _ _) j I;rw [s8 _ om,hjD] at this;cases this
      .omega
     subst hke;have hoo:ok=o:=by rw [hoj] at hok';exact (jX hok').symm
     subst hoo;have hoks:∀ (j:Nat) (o':Oper),ops.toArray[j]? =some o'->xM nt o'.dst=true:=λj o' ho=>bi.1 (LV hok) o' (bh (by simpa using ho))
     obtain ⟨U,hdst⟩:=h4.OZ hy.ae3;have F:=LX (ops:=ops.toArray) (o:=ok) (want:=true) h4 (by simpa using hy.ae2) hoks;have hfu:fuel=ops.length - (k+1):=om;subst hfu;have fin:∀ {v:b9} {val:Value} {Q:eK} {n2:Nat} {g':gX} {w':World},n+B.length<=n2->eH w' g' v val->fl b Q (·<n2) g' w'->iN g w g' w'->
       (lP (lQ k gs) v λv=>lf (mH σ' Q) ok.dst v λσ=>pt P T nt ops gs H (k+1) σ n2 (qW (k+1)) (λY σ n=>IT ops (sq Y)=true/\K .normal σ n))->
       wpAnyIn (rC r) 0 P .any ops.toArray (λe a' w'=>∃ σ' n',K e σ' n'/\si b t nt σ' n' a' w') (ops.length - (k+1)) (s.setIfInBounds k true) (a.put ok.dst val) w':=by
      intro v val Q n2 g' w' N z h' E A;obtain ⟨v',hv',A⟩:=yJ A;refine ih H (k+1) _ n2 (by simp at hsl;omega) hrest' om (wP.1 A) om _ _ w' g' (by simp [h1]) (λx=>?_) ((h'.Gc).zX _ _) (((h4.Bn E).uU (σ':=mH σ' Q) (λi=>I6 i)).zW hdst (hv' _ _ _ z)) (h5.lF E)
      by_cases hxk:x=k
      .subst hxk;have I:Nat.blt x (x+1)=true:=by rw [dq];omega
       rw [I];simp [h1,S]
      .have e2:(s.setIfInBounds k true).getD x false=s.getD x false:=by simp [cN (λe=>hxk e.symm)]
       rw [e2,Z];cases I:Nat.blt x k with
       |true=>
        have:=ki I;have hb':Nat.blt x (k+1)=true:=by rw [dq];omega
        rw [hb']
       |false=>
        have:=ae8 I;cases hb':Nat.blt x (k+1) with
        |false=>rfl
        |true=>have:=ki hb';omega
     rcases hy.ae0 with ⟨fo,p,ats,id,eo,hfo,hay⟩|⟨fo,p,ats,fn,first,captured,eo,hfo,hEn,R⟩|⟨recv,m,p,ats,fn,ti,x,eo,hrv,hmb,hEn,R⟩|⟨mt,x,kx,kok,eo,ham⟩
     .obtain ⟨dst,op,ty,pos,after,guard⟩:=ok;simp only at eo;subst eo;unfold wpOpIn;simp only [q2];rw [ak F];have L:=U fo (by simp [Op.operands,Call.operands]);rw [hfo] at L;obtain ⟨l,q4,X⟩:=L.OF;have J:∀ x∈p,eH w g (eR σ' x) (a.eval x):=λx hx=>U x (by simp [Op.operands,Call.operands,hx])
      obtain ⟨f,tmps,assign,body,hyr,hround⟩:=hay.Ul b g w l (p.map a.eval).toList h3 q4 (by simp [uY]) (yL J);have O:=Vq (P:=P) (w:=w) (a:=a) (c:=⟨.value fo,p,ats⟩) rfl X (dst:=dst) (ty:=ty) (pos:=pos) (after:=after) (guard:=guard);unfold Oper.wpIn;refine ⟨λ_ _=>trivial,?_⟩;have hy':(Instr.yield l (p.map a.eval)).run P w= .ok (.round l f tmps assign body) w:=by
       have e:(p.map a.eval).toList.toArray=p.map a.eval:=Array.toArray_toList
       rwa [e] at hyr
      rw [Oper.semAt_eq _ _ _ (λc h=>by cases h),O,hy',Oper.uponIn_round];refine ⟨CO r 0,?_⟩;refine (Vh hround).mono ?_;rintro e w' ⟨v,x,Q,n2,g',rfl,A,N,z,h',E⟩;exact fin N z h' E A
     .obtain ⟨dst,op,ty,pos,after,guard⟩:=ok;simp only at eo;subst eo;unfold wpOpIn;simp only [q2];rw [ak F];have L:=U fo (by simp [Op.operands,Call.operands]);rw [hfo] at L;obtain ⟨vs,us,X,l1,l2,r1,r2⟩:=L.CD;have O:=Pf (P:=P) (w:=w) (a:=a) hEn (c:=⟨.value fo,p,ats⟩) rfl X (dst:=dst) (ty:=ty) (pos:=pos) (after:=after) (guard:=guard);unfold Oper.wpIn;refine ⟨λ_ _=>trivial,?_⟩;rw [Oper.semAt_eq _ _ _ (λc h=>by cases h),O,Oper.uponIn_enter];refine ⟨CO r 0,?_⟩;have J:∀ x∈p,eH w g (eR σ' x) (a.eval x):=λx hx=>U x (by simp [Op.operands,Call.operands,hx])
      have ha:=yL J;refine Gh ?_;refine (R b g w (vs++(p.map a.eval).toList++us) h3 (by simp [l1,l2,uY]) (by rw [aA];exact Ph l1 r1 (Ph (by simp [uY]) ha r2))).mono ?_;rintro e w' ⟨v,x,Q,n2,g',rfl,A,N,z,h',E⟩;exact fin N z h' E A
     .obtain ⟨dst,op,ty,pos,after,guard⟩:=ok;simp only at eo;subst eo;unfold wpOpIn;simp only [q2];rw [ak F];have L:=U recv (by simp [Op.operands,Call.operands]);rw [hrv] at L;obtain ⟨u,X,hu⟩:=L.DW;have O:=UZ (P:=P) (w:=w) (a:=a) hEn (Ur.Us hmb) (c:=⟨.invoke recv m,p,ats⟩) rfl X (dst:=dst) (ty:=ty) (pos:=pos) (after:=after) (guard:=guard);unfold Oper.wpIn;refine ⟨λ_ _=>trivial,?_⟩;rw [Oper.semAt_eq _ _ _ (λc h=>by cases h),O,Oper.uponIn_enter];refine ⟨CO r 0,?_⟩;have J:∀ x∈p,eH w g (eR σ' x) (a.eval x):=λx hx=>U x (by simp [Op.operands,Call.operands,hx])
      have ha:=yL J;refine Gh ?_;refine (R b g w (u::(p.map a.eval).toList) h3 (by simp [uY]) (λi y v hy hv=>by
       cases i with
       |zero=>simp at hy hv;subst hy hv;exact hu
       |succ i=>exact ha i y v (by simpa using hy) (by simpa using hv))).mono ?_
      rintro e w' ⟨v,x,Q,n2,g',rfl,A,N,z,h',E⟩;exact fin N z h' E A
     .obtain ⟨nx,val,w',v,Q,n2,g',hr,hnx,A,N,z,h',E⟩:=ham.Uj b g a w h3 U;have hfin:=fin N z h' E A;obtain ⟨dst,op,ty,pos,after,guard⟩:=ok;simp only at eo;subst eo;unfold wpOpIn;simp only [q2];rw [ak F];unfold Oper.wpIn;refine ⟨λ_ _=>trivial,?_⟩;rw [Oper.semAt_eq _ _ _ (LZ hr hnx),hr];rcases hnx with rfl|⟨rfl,rfl⟩
      .exact hfin
      .exact hfin
theorem afc (c:jc P T) (m:P.follows .mixedOrders=true) {r:Option Nat} {nt q n id:Nat} {ops:List Oper} {s:List Nat} {σ0 K} (o:z7 nt ops=true)
  (e:pt P T nt ops s ops 0 σ0 n [] (λf σ n=>IT ops (sq f)=true/\K .normal σ n)):iE P r nt q (.region id ops.toArray true) σ0 n K:=by
 refine ⟨λb t a w u p=>?_⟩;obtain ⟨g,h,k,E,l⟩:=p;refine wpIn_region_any m ?_;have d:fl b σ0 (·<n) g w.drew/\iN g w g w.drew:=h.ub (Below.refl _ w).drew;have:=afe c o (b:=b) (t:=t) (r:=r) ops.length ops 0 σ0 n (aq _) rfl (ar _) e l (Array.replicate ops.toArray.size false) a w.drew g (by simp) (λj=>by
  have i:Nat.blt j 0=false:=by
   trivial
  rw [i];simp only [Array.getD_eq_getD_getElem?,Array.getElem?_replicate];split<;>rfl) d.1 (k.Bn d.2) (E.lF d.2)
 simpa using this
end
section
variable {P:Program} {T:iw} {b:jL P} {t:se} {σ:eK} {D:Nat->Prop} {g:gX} {a:Act} {w:World}
mutual
def lh (m:Nat):b9->Bool
 | .c8 b _=>Nat.blt b m
 | .eP b _ _ _ _=>Nat.blt b m
 | .gH b=>Nat.blt b m
 | .gG b=>Nat.blt b m
 | .gi b=>Nat.blt b m
 | .a8 _ _ _ (.je id)=>Nat.blt id m
 | .a8 _ _ _ (.hJ id)=>Nat.blt id m
 | .eN c=>sn m c
 | .dn c=>sn m c
 | .eW _ f c=>match sn m f with|true=>sn m c|false=>false
 | .gm _ v=>lh m v
 |_=>true
def sn (m:Nat):List b9->Bool
 |[]=>true
 |x::l=>match lh m x with|true=>sn m l|false=>false
end
def L3 (m:Nat):List (Nat×b9)->Bool
 |[]=>true
 |(_,x)::l=>match lh m x with|true=>L3 m l|false=>false
theorem Pw {m}:∀ {l:List (Nat×b9)},L3 m l=true->∀ x∈l,lh m x.2=true
 |[],_,x,h=>by cases h
 |(i,c)::s,d,x,h=>by
  simp only [L3] at d;cases e:lh m c with
  |false=>simp [e] at d
  |true=>
   simp only [e] at d;rcases aK.1 h with rfl|h
   .exact e
   .exact Pw d x h
def yM (m:Nat):gC->Bool
 | .bg x=>lh m x
 | .dc _ cells=>sn m cells
 | .kn _ _ _ tm _ _ _=>L3 m tm
 | .iD (.sZ k _ _ _)=>Nat.blt k m
 |_=>true
def U4 (m:Nat):fQ->Bool
 | .ct _=>true
 | .ay b=>Nat.blt b m
 | .eT b=>Nat.blt b m
theorem qX {m:Nat}:∀ {l:List b9},sn m l=true->∀ (i:Nat) x,l[i]? =some x->lh m x=true
 |[],_,i,x,h=>by simp at h
 |c::s,d,i,x,h=>by
  simp only [sn] at d;cases e:lh m c with
  |false=>simp [e] at d
  |true=>
   simp only [e] at d;cases i with
   |zero=>simp_all
   |succ i=>exact qX d i x (by simpa using h)
def gX.kH (g:gX) (m:Nat):gX:={g with fk:=λi=>if i<m then g.fk i else none,gF:=λi=>if i<m then g.gF i else none}
theorem eH.O3 {m:Nat} {x v} (h:eH w g x v) (c:lh m x=true):eH w (g.kH m) x v:=by
 induction h with
 |fJ h=>exact .fJ h
 |sd hl _ j=>
  simp only [lh] at c;exact .sd hl (λi x v d e=>j i x v d e (qX c i x d))
 |nR hl _ j=>
  simp only [lh] at c;exact .nR hl (λi x v d e=>j i x v d e (qX c i x d))
 |rr h=>
  simp only [lh] at c;exact .rr (by simp [gX.kH,ki c,h])
 |vu vals n h=>exact .vu vals n h
 |m7 h o=>
  refine .m7 h ?_;rename_i z _ _ _;cases z with
  |dm=>trivial
  |fW=>exact o
  |je id=>
   simp only [lh] at c;obtain ⟨k,N,d,e,l⟩:=o;exact ⟨k,N,by simp [gX.kH,ki c,d],e,l⟩
  |hJ id=>
   simp only [lh] at c;obtain ⟨k,N,d,e,l⟩:=o;exact ⟨k,N,by simp [gX.kH,ki c,d],e,l⟩
 |oV h n y hl r=>
  simp only [lh] at c;exact .oV (by simp [gX.kH,ki c,h]) n y hl r
 |wD hl u _ _ p q=>
  simp only [lh] at c;rename_i s A _ _ _ _;cases f:sn m s with
  |false=>simp [f] at c
  |true=>
   simp only [f] at c;exact .wD hl u (λi x v d e=>p i x v d e (qX f i x d)) (λi x v d e=>q i x v d e (qX c i x d))
 |wE _ j=>
  simp only [lh] at c;exact .wE (j c)
 |vt h=>
  simp only [lh] at c;exact .vt (by simp [gX.kH,ki c,h])
 |wF h=>
  simp only [lh] at c;exact .wF (by simp [gX.kH,ki c,h])
 |uc h=>
  simp only [lh] at c;exact .uc (by simp [gX.kH,ki c,h])
 |nY=>exact .nY
def eJ:List (fQ×gC)->eK
 |[]=>λ_=> .fB
 |(l,c)::es=>fc (eJ es) l c
def oJ (σ:eK) (m:Nat):List (fQ×gC)->Prop
 |[]=>True
 |(l,c)::es=>σ l=c/\(match U4 m l with|true=>yM m c|false=>false)=true/\oJ σ m es
theorem oJ.xJ {m}:∀ {es:List (fQ×gC)},oJ σ m es->∀ l,eJ es l= .fB\/(eJ es l=σ l/\U4 m l=true/\yM m (σ l)=true)
 |[],_,l=> .inl rfl
 |(l',c)::es,h,l=>by
  obtain ⟨f,i,e⟩:=h
  by_cases d:l=l'
  .subst d;rw [eJ,lX];grind
  .rw [eJ,g9 d];exact e.xJ l
theorem si.O9 {nt n m:Nat} (L:si b t nt σ n a w) {es} (he:oJ σ m es) (h0:t.Li<=m):si b t nt (eJ es) m a w:=by
 obtain ⟨g,h,hf,I,hn⟩:=L;have u:∀ d c,(g.kH m).fk d=some c->g.fk d=some c/\d<m:=λd c y=>by
  grind [gX.kH]
 have o:∀ d c,(g.kH m).gF d=some c->g.gF d=some c/\d<m:=λd c y=>by
  grind [gX.kH]
 have Q:∀ d,eJ es (.ay d)≠ .fB->eJ es (.ay d)=σ (.ay d)/\d<m/\yM m (σ (.ay d))=true:=λd J=>by
  rcases he.xJ (.ay d) with f|⟨f,B,O⟩
  .exact absurd f J
  .exact ⟨f,ki B,O⟩
 have hrw:∀ d,eJ es (.eT d)≠ .fB->eJ es (.eT d)=σ (.eT d)/\d<m:=λd J=>by
  rcases he.xJ (.eT d) with f|⟨f,B,O⟩
  .exact absurd f J
  .exact ⟨f,ki B⟩
 have E:∀ d,(eJ es (.ay d)).jb=true->eJ es (.ay d)≠ .fB:=λd A e=>by rw [e] at A;cases A
 refine ⟨g.kH m,fl.qs h.jF h.lv h.pq h.oE (λd c y=>(u d c y).2) (λd c y=>(o d c y).2) (λd c y=>h.ko d c (u d c y).1) (λd c N y=>h.mc d c N (o d _ y).1)
  (λd A=>?_) (λd c A y=>?_) (λi j k hi hj U Z=>?_) (λd Y c L y=>h.pJ d Y c (by grind) (u d c y).1) (λd t' sz N L=>?_),⟨hf.qU,hf.sg,λi hi=>?_⟩,⟨⟨I.jC,λd c y=>?_,λd S N p=>?_,λd c N p=>I.zQ d c N (o d _ p).1⟩,I.wA,I.yz,I.wy⟩,h0⟩
 .obtain ⟨F,H,_⟩:=Q d (E d A);rw [F] at A;obtain ⟨c,f,B⟩:=h.iR d A;exact ⟨c,by simp [gX.kH,H,f],B⟩
 .obtain ⟨F,H,K⟩:=Q d (E d A);rw [F] at A ⊢;have l:=h.po (u d c y).1;cases z:σ (.ay d) with
  |dc t' cells=>
   rw [z] at l K;obtain ⟨R,q1,q2,q3⟩:=l;exact ⟨R,q1,q2,λi x v f B=>(q3 i x v f B).O3 (qX K i x f)⟩
  |eY t' cells=>rw [z] at l;exact l
  |mP s pos=>rw [z] at l;exact l
  |iD X=>
   rw [z] at l K;cases X with
   |jq clock es=>exact l
   |sZ k since seen last=>
    obtain ⟨q,q1,q2⟩:=l;exact ⟨q,by grind [yM,gX.kH,ki],q2⟩
  |kn st pend nt' tm ps assign body=>
   rw [z] at l K;obtain ⟨r,p⟩:=l;exact ⟨r,p.uQ,p.IC,p.IB,p.FH,p.DU,p.FF,p.FG,λx z=>⟨(p.yB x z).1,(p.yB x z).2.O3 (Pw K x z)⟩⟩
  |_=>trivial
 .obtain ⟨F,_,_⟩:=Q i (E i hi);obtain ⟨H,_,_⟩:=Q j (E j hj);exact h.np i j k (by simp_all) (by simp_all) (u _ _ U).1 (u _ _ Z).1
 .obtain ⟨F,H⟩:=hrw d (by rw [L];simp);rw [F] at L;obtain ⟨S,f,B⟩:=h.ln d t' sz N L;refine ⟨S,by simp [gX.kH,H,f],λk hk=>?_⟩;obtain ⟨b1,b2,b3,b4,b5,b6⟩:=B k hk;refine ⟨b1,b2,b3,λj A y=>?_,λj t'' sz'' M M' hj p=>?_,b6⟩
  .grind
  grind
 .have p:=hf.oW i hi;unfold jx;rcases he.xJ (.ct i) with f|⟨f,_,O⟩
  .rw [f];exact .nY
  .rw [f];unfold jx at p;cases z:σ (.ct i) with
   |bg x=>rw [z] at p O;exact p.O3 O
   |_=>exact .nY
 .have f:=t.OG d c y;obtain ⟨F,H⟩:=I.oT d c y;grind [gX.kH]
 .have f:=t.IG d _ p;obtain ⟨bk',N',F,H,K⟩:=I.zR d S N p;grind [gX.kH]
theorem iE.F8 {r nt l n m c K es} (f:oJ σ m es) (e:l<=m) (h:iE P r nt l c (eJ es) m K):iE P r nt l c σ n K:=
 ⟨λb t a w d s=>h.nM b t a w d (s.O9 f (av d e))⟩
def Vi {X:Type} (st:X->List (fQ×gC)) (m:Nat) (I:X->Prop) (d:X->Nat) (x:X) (K:Exit->eK->Nat->Prop) (e:Exit) (σ:eK) (n:Nat):Prop:=
 match e with
 | .normal=>∃ c,I c/\d c<d x/\oJ σ m (st c)
 |e=>K e σ n
theorem iE.gY {X:Type} (st:X->List (fQ×gC)) (m:Nat) (I:X->Prop) (Z:X->Nat) {r:Option Nat} {nt Y n:Nat} {c:Code} {K:Exit->eK->Nat->Prop} (hm:Y<=m) (x0:X) (h0:I x0) (hw:oJ σ m (st x0))
  (round:∀ x,I x->iE P r nt Y c (eJ (st x)) m (Vi st m I Z x K)):iE P r nt Y (.loop c) σ n K:=by
 refine ⟨λb t a w L R F k H Q p o=>?_⟩;have U:∀ (q:Nat) (x:X),Z x=q->I x->∀ (a:Act) (w:World),si b t nt (eJ (st x)) m a w->
   ∃ e B E,(∃ σ' j,K e σ' j/\si b t nt σ' j B E)/\ArrivesIn (Machine.fenced P (rC r)) P (lone (F.atR a (.code c:: .inLoop c::k)) H w) F k H e B E:=by
  intro q
  induction q using Nat.strongRecOn with
  |_ q ih=>
   intro x O hI a w R;obtain ⟨e,d,f,⟨σ',j,v,s⟩,h⟩:=(round x hI).nM b t a w L R F (.inLoop c::k) H Q p o;cases e with
   |normal=>
    obtain ⟨x',J,N,S⟩:=v;obtain ⟨z,y,A,u,i⟩:=ih (Z x') (O▸N) x' rfl J d f (s.O9 S (av L hm));exact ⟨z,y,A,u, .of_steps (StepsIn.trans h (.one (fenced_calm p o rfl) stepR_inLoop)) i⟩
   |exit id=>exact ⟨_,d,f,⟨σ',j,v,s⟩, .pass (x:= .inLoop c) rfl (λ_ _=> .inl (by simp)) h⟩
   |goto l=>exact ⟨_,d,f,⟨σ',j,v,s⟩, .pass (x:= .inLoop c) rfl (λ_ _=> .inl (by simp)) h⟩
   |ret=>exact ⟨_,d,f,⟨σ',j,v,s⟩, .pass (x:= .inLoop c) rfl (λ_ _=> .inl (by simp)) h⟩
   |panic ch=>exact ⟨_,d,f,⟨σ',j,v,s⟩, .pass (x:= .inLoop c) rfl (λ_ _=> .inl (by simp)) h⟩
   |outgrown=>exact ⟨_,d,f,⟨σ',j,v,s⟩, .pass (x:= .inLoop c) rfl (λ_ _=> .inl (by simp)) h⟩
 obtain ⟨e,B,E,O,h⟩:=U _ x0 rfl h0 a w (R.O9 hw (av L hm));exact ⟨e,B,E,O, .of_steps (.one (fenced_calm p o rfl) stepR_loop) h⟩
def Vj (K:Exit->eK->Nat->Prop) (e:Exit) (σ:eK) (n:Nat):Prop:=match e with
 | .goto _=>False
 |e=>K e σ n
theorem Gv {b:Frame} {k cs c}:step P (lone (b.atR a (.code (.scope c)::k)) cs w)= .next (lone (b.atR a (.code c:: .inScope c::k)) cs w):=
 step_lone_go (by trivial)
theorem afC {b:Frame} {k cs c}:step P (lone (b.atR a (.inScope c::k)) cs w)= .next (lone (b.atR a k) cs w):=
 step_lone_go (by trivial)
theorem afF {F n c Q} (h:c.wpIn F n P (Exit.noGoto Q) a w):(Code.scope c).wpIn F n P Q a w:=by
 intro b k v u m p;have i:(lone (b.atR a (.code (.scope c)::k)) v w).fenced P F:=fenced_calm m p rfl;obtain ⟨e,d,f,q,r⟩:=h b (.inScope c::k) v u m p;cases e with
 |normal=>exact ⟨.normal,d,f,q, .head i Gv (StepsIn.trans r (.one (fenced_calm m p rfl) afC))⟩
 |exit id=>
  have x:exitTo id (.inScope c::k)=exitTo id k:=by simp [exitTo]
  exact ⟨_,d,f,q,λA o=> .head i Gv (r.1 A (by rw [x];exact o)),
   λs o=>let ⟨j,y,z⟩:=r.2 s (by rw [x];exact o);⟨j,y, .head i Gv z⟩⟩
 |goto l=>exact q.elim
 |ret=>exact ⟨_,d,f,q, .of_steps (.one i Gv) r⟩
 |panic B=>exact ⟨_,d,f,q, .of_steps (.one i Gv) r⟩
 |outgrown=>exact ⟨_,d,f,q, .of_steps (.one i Gv) r⟩
theorem iE.Uk {r nt o n c K} (h:iE P r nt o c σ n (Vj K)):iE P r nt o (.scope c) σ n K:=by
 refine ⟨λb t a w f s=>?_⟩;refine afF (wpIn_mono (h.nM b t a w f s) ?_);rintro e k m ⟨σ',j,d,i⟩;cases e with
 |goto l=>exact d.elim
 |_=>exact ⟨σ',j,d,i⟩
def UU (P:Program) (T:iw) (nt:Nat) (all:List Oper) (s:List Nat) (l:List Oper):Nat->eK->Nat->(eK->Nat->Prop)->Prop:=
 List.rec (motive:=λ_=>Nat->eK->Nat->(eK->Nat->Prop)->Prop) (λ_ σ n K=>K σ n) (λo _ h i σ n K=>match o with
 |⟨dst,op,y,pos,after,guard⟩=>
  match Ab nt ⟨dst,op,y,pos,after,guard⟩ with
  |false=>False
  |true=>match uX σ all guard with
   |none=>False
   |some false=>lf σ dst (.dn []) λσ=>h (i+1) σ (n+1) K
   |some true=>match op with
    | .call ⟨.value e,args,_⟩=>match eR σ e with
     | .eW f first c=>
      fF P f (xN.lz first (xN.lz (jr σ args.toList) c)) σ n λv σ' d=>lP (lQ i s) v λv=>lf (mH σ σ') dst v λσ=>h (i+1) σ d K
     | .gG id=>F9 P id (jr σ args.toList) σ n λv σ' d=>lP (lQ i s) v λv=>lf (mH σ σ') dst v λσ=>h (i+1) σ d K
     |_=>False
    | .call ⟨.invoke r m,args,_⟩=>match eR σ r with
     | .gm t x=>
      ∃ f,Ee P t m f=true/\fF P f (x::jr σ args.toList) σ n λv σ' d=>lP (lQ i s) v λv=>lf (mH σ σ') dst v λσ=>h (i+1) σ d K
     |_=>False
    |op=>match LY σ op with
     |true=>qu P ⟨dst,op,y,pos,after,guard⟩ σ n λv σ' d=>lP (lQ i s) v λv=>lf (mH σ σ') dst v λσ=>h (i+1) σ d K
     |false=>(iK P T σ n ⟨dst,op,y,pos,after,guard⟩).DX λv u=>match sl u with
      |true=>lP (lQ i s) v λv=>wQ σ u λσ=>lf σ dst v λσ=>h (i+1) σ (n+1) K
      |false=>False) l
theorem UW {P T nt all s}:∀ l,UU P T nt all s l=xN P T nt all s l
 |[]=>rfl
 |⟨dst,op,y,pos,after,guard⟩::rest=>by
  funext i σ n K;rw [xN.eq_def];simp only [];rw [<-UW rest];rfl
def UR (P:Program) (T:iw) (nt:Nat) (all:List Oper) (s:List Nat) (l:List Oper):Nat->eK->Nat->List nr->(List nr->eK->Nat->Prop)->Prop:=
 List.rec (motive:=λ_=>Nat->eK->Nat->List nr->(List nr->eK->Nat->Prop)->Prop) (λ_ σ n d K=>K d σ n) (λo _ j i σ n d K=>match o with
 |⟨dst,op,y,pos,after,guard⟩=>
  match Ab nt ⟨dst,op,y,pos,after,guard⟩ with
  |false=>False
  |true=>match uX σ all guard with
   |none=>False
   |some false=>lf σ dst (.dn []) λσ'=>uW (pM σ all ⟨dst,op,y,pos,after,guard⟩) (nE (s6 dst (.dn []))) λp=>j (i+1) σ' (n+1) (p::d) K
   |some true=>match op with
    | .call ⟨.value z,args,ats⟩=>match eR σ z with
     | .eW f first c=>
      match vF (xN.lz first (xN.lz (jr σ args.toList) c)) with
      |true=>match U2 T y with
       |true=>xL all i (sq d)=true/\yI all i=true/\fF P f (xN.lz first (xN.lz (jr σ args.toList) c)) σ n λv σ' q=>lP (lQ i s) v λv=>lf (mH σ σ') dst v λσ=>j (i+1) σ q (qW (i+1)) K
       |false=>match σ (.eT 0) with
        | .bg _=>∃ A r u h,Nat.ble (A+i) n=true/\qx P A f (xN.lz first (xN.lz (jr σ args.toList) c)) σ n u h r/\sl h=true/\
         lP (lQ i s) r λv=>wQ σ h λe=>lf e dst v λσ'=>uW (u.append (pM σ all ⟨dst, .call ⟨.value z,args,ats⟩,y,pos,after,guard⟩)) (nE (h++s6 dst v)) λp=>j (i+1) σ' (n+1) (p::d) K
        |_=>∃ r,vF (xN.lz first (xN.lz (jr σ args.toList) c))=true/\er P f (vD (xN.lz first (xN.lz (jr σ args.toList) c))) r/\
        lP (lQ i s) r λv=>lf σ dst v λσ'=>uW (pM σ all ⟨dst, .call ⟨.value z,args,ats⟩,y,pos,after,guard⟩) (nE (s6 dst v)) λp=>j (i+1) σ' (n+1) (p::d) K
      |false=>match σ (.eT 0) with
       | .bg _=>∃ A r u h,Nat.ble (A+i) n=true/\qx P A f (xN.lz first (xN.lz (jr σ args.toList) c)) σ n u h r/\sl h=true/\
        lP (lQ i s) r λv=>wQ σ h λe=>lf e dst v λσ'=>uW (u.append (pM σ all ⟨dst, .call ⟨.value z,args,ats⟩,y,pos,after,guard⟩)) (nE (h++s6 dst v)) λp=>j (i+1) σ' (n+1) (p::d) K
       |_=>(∃ r u h,Gf P f (xN.lz first (xN.lz (jr σ args.toList) c)) σ u h r/\sl h=true/\
       lP (lQ i s) r λv=>wQ σ h λe=>lf e dst v λσ'=>uW (u.append (pM σ all ⟨dst, .call ⟨.value z,args,ats⟩,y,pos,after,guard⟩)) (nE (h++s6 dst v)) λp=>j (i+1) σ' (n+1) (p::d) K)\/
       (xL all i (sq d)=true/\yI all i=true/\fF P f (xN.lz first (xN.lz (jr σ args.toList) c)) σ n λv σ' q=>lP (lQ i s) v λv=>lf (mH σ σ') dst v λσ=>j (i+1) σ q (qW (i+1)) K)
     | .gG id=>xL all i (sq d)=true/\yI all i=true/\F9 P id (jr σ args.toList) σ n λv σ' q=>lP (lQ i s) v λv=>lf (mH σ σ') dst v λσ=>j (i+1) σ q (qW (i+1)) K
     |_=>False
    | .call ⟨.invoke B m,args,_⟩=>match eR σ B with
     | .gm t x=>xL all i (sq d)=true/\yI all i=true/\∃ f,Ee P t m f=true/\fF P f (x::jr σ args.toList) σ n λv σ' q=>lP (lQ i s) v λv=>lf (mH σ σ') dst v λσ=>j (i+1) σ q (qW (i+1)) K
     |_=>False
    | .lookup mt x k ok=>xL all i (sq d)=true/\yI all i=true/\qu P ⟨dst, .lookup mt x k ok,y,pos,after,guard⟩ σ n λv σ' q=>lP (lQ i s) v λv=>lf (mH σ σ') dst v λσ=>j (i+1) σ q (qW (i+1)) K
    |op=>(iK P T σ n ⟨dst,op,y,pos,after,guard⟩).DX λv E=>match sl E with
     |true=>lP (lQ i s) v λv=>wQ σ E λe=>lf e dst v λσ'=>uW (pM σ all ⟨dst,op,y,pos,after,guard⟩) (nE (E++s6 dst v)) λp=>j (i+1) σ' (n+1) (p::d) K
     |false=>False) l
theorem US {P T nt all s}:∀ l,UR P T nt all s l=pt P T nt all s l
 |[]=>rfl
 |⟨dst,op,y,pos,after,guard⟩::rest=>by
  funext i σ n acc K;rw [pt.eq_def];simp only [];rw [<-US rest];rfl
def s7 (P:Program) (T:iw) (r:Option Nat) (nt e:Nat) (c:Code):eK->Nat->(Exit->eK->Nat->Prop)->Prop:=
 Code.rec (motive:=λ_=>eK->Nat->(Exit->eK->Nat->Prop)->Prop)
  (λσ n K=>K .normal σ n)
  (λ_ o d σ n K=>match o,d with
   |⟨o⟩,false=>match z7 nt o with
    |true=>UU P T nt o (IW o) o 0 σ n (λσ n=>K .normal σ n)
    |false=>False
   |⟨o⟩,true=>match z7 nt o with
    |true=>UR P T nt o (IW o) o 0 σ n [] (λp σ n=>IT o (sq p)=true/\K .normal σ n)
    |false=>False)
  (λ_ _ x y σ n K=>x σ n (Pz (λσ n=>y σ n K) K))
  (λc _ _ x y σ n K=>match Bs nt c with
   |false=>False
   |true=>match eR σ c with
    | .fU=>x σ n K
    | .fD=>y σ n K
    | .eD q=>(q=true->x (I4 σ c .fU) n K)/\(q=false->y (I4 σ c .fD) n K)
    |_=>False)
  (λi _ x σ n K=>x σ n (Pe i K))
  (λc _ σ n K=>iE P r nt e (.loop c) σ n K)
  (λf h x y _ _ σ n K=>iE P r nt e (.rangeFunc f h x y) σ n K)
  (λi σ n K=>K (.exit i) σ n)
  (λ_ x σ n K=>x σ n (Vj K))
  (λ_ σ n K=>K .normal σ n)
  (λl σ n K=>iE P r nt e (.goto l) σ n K)
  (λσ n K=>K .ret σ n)
  (λs σ n K=>iE P r nt e (.refuse s) σ n K)
  c
theorem wO (v:jc P T) (B:P.follows .mixedOrders=true) {r nt A}:∀ c σ n K,s7 P T r nt A c σ n K->iE P r nt A c σ n K:=by
 intro c
 induction c with
 |skip=>exact λσ n K h=>iE.OX h
 |label l=>exact λσ n K h=>iE.aew h
 |ret=>exact λσ n K h=>iE.aey h
 |exit id=>exact λσ n K h=>iE.aev h
 |seq x y i d=>
  intro σ n K h;refine iE.F7 ((i σ n _ h).OW λe σ' E z=>?_);cases e with
  |normal=>exact d σ' E K z
  |_=>exact z
 |block id c p=>exact λσ n K h=>iE.aeu (p σ n _ h)
 |cond c x y i d=>
  intro σ n K h;simp only [s7] at h;cases u:Bs nt c with
  |false=>simp only [u] at h
  |true=>
   simp only [u] at h;refine iE.F6 u ?_;cases m:eR σ c with
   |fU=>rw [m] at h;exact i σ n K h
   |fD=>rw [m] at h;exact d σ n K h
   |eD q=>rw [m] at h;exact ⟨λe=>i _ n K (h.1 e),λe=>d _ n K (h.2 e)⟩
   |_=>rw [m] at h;exact h
 |region id o k=>
  intro σ n K h;obtain ⟨o⟩:=o;cases k with
  |true=>
   simp only [s7] at h;cases j:z7 nt o with
   |false=>simp only [j] at h
   |true=>
    simp only [j] at h;exact afc v B j (by rw [US] at h;exact h)
  |false=>
   simp only [s7] at h;cases j:z7 nt o with
   |false=>simp only [j] at h
   |true=>simp only [j] at h;exact iE.aex v (LV j) (by rw [UW] at h;exact h)
 |loop c p=>exact λσ n K h=>h
 |rangeFunc f ps x y _ _=>exact λσ n K h=>h
 |scope c p=>exact λσ n K h=>iE.Uk (p σ n _ h)
 |goto l=>exact λσ n K h=>h
 |refuse s=>exact λσ n K h=>h
end
section
variable {P:Program} {T:iw} {b:jL P} {t:se} {σ:eK} {D:Nat->Prop} {g:gX} {a:Act} {w:World}
def sj (args:List b9):eK:=λl=>match l with
 | .ct i=>match p9 args i with|some x=> .bg x|none=> .fB
 |_=> .fB
def CQ (σ:eK) (args:List b9):eK:=λl=>match l with
 | .ct i=>match p9 args i with|some x=> .bg x|none=> .fB
 |l=>σ l
def L4 (σ:eK) (T:iw):ResultVar->Option b9
 | .tmp t=>some (jx σ t)
 | .cell a t=>match jx σ a with
  | .c8 b o=>match σ (.ay b),yH T t with
   | .dc _ cells,some (size,agg)=>rv agg size o cells
   |_,_=>none
  |_=>none
def qY (σ:eK) (T:iw):List ResultVar->Option (List b9)
 |[]=>some []
 |r::s=>match L4 σ T r with
  |some v=>match qY σ T s with|some c=>some (v::c)|none=>none
  |none=>none
def Br:List b9->b9
 |[v]=>v
 |s=> .dn s
def pN (nt:Nat):List ResultVar->Bool
 |[]=>true
 | .tmp t::r=>match Nat.blt t nt with|true=>pN nt r|false=>false
 | .cell a _::r=>match Nat.blt a nt with|true=>pN nt r|false=>false
theorem afu {k o}:(asAddr (.pointer (some ⟨k,o,none⟩))).run P w= .ok ⟨k,o,none⟩ w:=rfl
def Gu (tmps:Array Value):ResultVar->Sem Value
 | .tmp t=>pure (tmps.getD t undef)
 | .cell x t=>do loadVar t (<-asAddr (tmps.getD x undef))
theorem Vf (F:jc P T) {n0 nt:Nat} (h:fl b σ D g w) (B:qv n0 nt σ g a w):∀ s vs,pN nt s=true->qY σ T s=some vs->
  ∃ vals:List Value,(s.mapM (Gu a.tmps)).run P w= .ok vals w/\vals.length=vs.length/\∀ (i:Nat) x v,vs[i]? =some x->vals[i]? =some v->eH w g x v
 |[],vs,_,e=>by simp [qY] at e;simp_all
 |r::s,vs,z,e=>by
  simp only [qY] at e;cases d:L4 σ T r with
  |none=>simp [d] at e
  |some v=>
   simp only [d] at e;cases A:qY σ T s with
   |none=>simp [A] at e
   |some n=>
    simp only [A,aG] at e;subst e;have E:pN nt s=true:=by
     cases r with
     |tmp t=>
      grind [pN]
     |cell x t=>
      grind [pN]
    obtain ⟨vals,q1,O,q3⟩:=Vf F h B s n E A;have y:∀ l,(Gu a.tmps r).run P w= .ok l w->eH w g v l->
      ∃ vals:List Value,((r::s).mapM (Gu a.tmps)).run P w= .ok vals w/\vals.length=(v::n).length/\∀ (i:Nat) x u,(v::n)[i]? =some x->vals[i]? =some u->eH w g x u:=by
     intro l J I;refine ⟨l::vals,?_,by simp [O],λi x u f Y=>?_⟩
     .simp_all
     grind
    cases r with
    |tmp t=>
     simp only [L4,aG] at d;subst d;simp only [pN] at z;cases o:Nat.blt t nt with
     |false=>simp [o] at z
     |true=>exact y _ (by simp [Gu]) (B.oW t (ki o))
    |cell x R=>
     simp only [pN] at z;cases o:Nat.blt x nt with
     |false=>simp [o] at z
     |true=>
      have H:=B.oW x (ki o);simp only [L4] at d;cases f:jx σ x with
      |c8 id off=>
       simp only [f] at d;rw [f] at H;obtain ⟨c,N,X⟩:=H.vv;cases m:σ (.ay id) with
       |dc U cells=>
        cases p:yH T R with
        |none=>simp_all
        |some Q=>
         obtain ⟨K,L⟩:=Q;simp only [m,p] at d;obtain ⟨S,q⟩:=h.Iw m N;obtain ⟨l,Z,k2⟩:=Uf F p (w:=w) (g:=g) (k:=c) (off:=off) (cs:=cells.drop off) (vs:=λj=>S (off+j)) (λj x f=>(q (off+j) x (by simpa using f)).1) (λj x f=>(q (off+j) x (by simpa using f)).2) (OR d);grind [Gu,Sem.run_bind,afu,Result.andThen_ok]
       |_=>simp [m] at d
      |_=>simp [f] at d
theorem afr (i:jc P T) {n0 nt} (h:fl b σ D g w) (j:qv n0 nt σ g a w) {fn} (o:pN nt fn.results.toList=true) {vs} (k:qY σ T fn.results.toList=some vs):
  ∃ val,(results fn a.tmps).run P w= .ok val w/\eH w g (Br vs) val:=by
 obtain ⟨l,f,d,c⟩:=Vf i h j _ vs o k;have r:(results fn a.tmps).run P w= .ok (if h:l.toArray.size=1 then l.toArray[0] else .tuple l.toArray) w:=by
  have e:results fn a.tmps=(do let vs <-fn.results.mapM (Gu a.tmps);pure (if h:vs.size=1 then vs[0] else .tuple vs)):=rfl;rw [e,Array.mapM_eq_mapM_toList];simp_all
 clear f
 match vs,l,d,c,r with
 |[v],[val],_,c,r=>exact ⟨val,by rw [r];simp,c 0 v val rfl rfl⟩
 |[],[],_,c,r=>exact ⟨.tuple #[],by rw [r];simp, .nR (vs:=[]) rfl (by simp)⟩
 |v1::n::vs,u::m::s,d,c,r=>exact ⟨.tuple (u::m::s).toArray,by rw [r];simp, .nR d c⟩
structure mR (x y:b9):Prop where
 ue:∀ (w:World) (F:Nat->Nat->Prop) (v:Value),gb w F x v->gb w F y v
theorem mR.fC (x):mR x x:=⟨λ_ _ _ h=>h⟩
theorem mR.qy {x y} (h:x=y):mR x y:=h▸mR.fC x
theorem mR.kd (b s f):mR (.a8 b s [] .dm) (.a8 b f [] .dm):=⟨λw F v h=>by
 cases h with|mG vals n d z k o h=>exact .mG (els:=[]) vals n d (by simp) (λi e j x c _=>by simp at c) (λi e j x c _=>by simp at c) (λi e j x c _=>by simp at c)⟩
inductive qV:List b9->List b9->Prop
 |kv:qV [] []
 |fj {x y:b9} {l m:List b9} (h:mR x y) (h':qV l m):qV (x::l) (y::m)
theorem qV.zY:∀ {l m:List b9},qV l m->l.length=m.length
 |_,_, .kv=>rfl
 |_,_, .fj _ h=>by simp [h.zY]
theorem qV.Ge:∀ {l m:List b9},qV l m->∀ (i:Nat) x y,l[i]? =some x->m[i]? =some y->mR x y
 |_,_, .kv,i,x,y,h,_=>by simp at h
 |_,_, .fj h _,0,x,y,c,d=>by simp_all
 |_,_, .fj _ h,i+1,x,y,c,d=>h.Ge i x y (by simpa using c) (by simpa using d)
theorem qV.IS:∀ l,qV l l
 |[]=> .kv
 |x::l=> .fj (.fC x) (qV.IS l)
theorem mR.rA {l m} (h:qV l m):mR (.eN l) (.eN m):=⟨λw F v x=>by
 cases x with|A9 hl r=>exact .A9 (hl.trans h.zY) (λi y u e d=>by
  have c:i<l.length:=by grind
  exact (h.Ge i l[i] y (aj c) e).ue _ _ _ (r i _ u (aj c) d))⟩
theorem mR.qA {l m} (h:qV l m):mR (.dn l) (.dn m):=⟨λw F v x=>by
 cases x with|wC hl r=>exact .wC (hl.trans h.zY) (λi y u e d=>by
  have c:i<l.length:=by grind
  exact (h.Ge i l[i] y (aj c) e).ue _ _ _ (r i _ u (aj c) d))⟩
inductive oI (σ:eK):b9->b9->Prop
 |qw {v:b9} (h:Bi v=true):oI σ v (Bg v)
 |CJ {k off sz len:Nat} {full:Bool} {t:TypeId} {cells:List b9} {els:List (List b9)} (h:σ (.ay k)= .eY t cells) (h1:els.length=len) (h2:∀ el∈els,el.length=sz) (h3:off+len*sz<=cells.length)
   (h4:(cells.drop off).take (len*sz)=els.flatten) (h5:kT els.flatten=true):oI σ (.eP k off sz len full) (.a8 false sz els .dm)
 |O0 {cs ds:List b9} (hl:cs.length=ds.length) (h:∀ (i:Nat) (x y:b9),cs[i]? =some x->ds[i]? =some y->oI σ x y):oI σ (.eN cs) (.eN ds)
 |Um {cs ds:List b9} (hl:cs.length=ds.length) (h:∀ (i:Nat) (x y:b9),cs[i]? =some x->ds[i]? =some y->oI σ x y):oI σ (.dn cs) (.dn ds)
 |ou {t:TypeId} {x y:b9} (h:oI σ x y):oI σ (.gm t x) (.gm t y)
 |LF {x y z:b9} (h:oI σ x y) (h':mR y z):oI σ x z
theorem oI.aeB {F} (h:fl b σ D g w) (L:∀ k o,g.fP k o->F k o) (z:∀ id c,g.fk id=some c->(σ (.ay id)).jb=true->∀ o,F c o) {x y v} (U:oI σ x y) (r:eH w g x v):gb w F y v:=by
 induction U generalizing v with
 |qw hp=>exact (xH hp r).ka λk o I=>⟨L k o I,rfl⟩
 |CJ E p q h3 h4 h5=>
  rename_i k f s len K t H l;obtain ⟨c,Q,ad,N,rfl,q3,q4,q5,q6⟩:=r.qS;obtain ⟨B,Z⟩:=h.Iy E N;subst p;have X:=pK s l q;have n:∀ i e j x,l[i]? =some e->e[j]? =some x->w.cell? ⟨c,f+(i*s+j),none⟩=some (B (f+(i*s+j)))/\gb w g.fP x (B (f+(i*s+j)))/\Bh x=true/\0<l.length:=by
   intro i e j x d m;have hx:=IK s l i j e x q d m;grind [CG]
  obtain ⟨O,rfl⟩:=bN.1 q4;refine .mG (λi j=>B (f+(i*s+j))) rfl q5 q (λi e j x d m=>?_) (λi e j x d m=>?_) (λi e j x d m=>?_)
  .obtain ⟨p1,_,_,J⟩:=n i e j x d m;exact ⟨c,f,q3 J,z k c N (by rw [E];rfl) _,by grind⟩
  .obtain ⟨_,p2,J,_⟩:=n i e j x d m;exact xF (g:=g) (.fJ p2) J
  .exact (n i e j x d m).2.1.ka λk o I=>⟨L k o I,rfl⟩
 |O0 hl _ A=>
  obtain ⟨B,rfl,p,q⟩:=r.FL;rename_i R S _;refine .A9 om (λi y u hy Y=>?_);grind
 |Um hl _ A=>
  obtain ⟨B,rfl,p,q⟩:=r.Lf;rename_i R S _;refine .wC om (λi y u hy Y=>?_);grind
 |ou _ A=>
  obtain ⟨u,rfl,p⟩:=r.DW;exact .FK (A p)
 |LF _ E A=>exact E.ue _ _ _ (A r)
def IX:List b9->(List b9->Prop)->Prop
 |[],K=>K []
 |x::l,K=>I5 x λx=>IX l λl=>K (x::l)
theorem Pt:∀ {l:List b9} {K:List b9->Prop},IX l K↔K l
 |[],K=>j2
 |x::l,K=>by simp only [IX,PB,Pt]
def Vb (v:b9) (K:b9->Prop):Prop:=match v with
 | .eN c=>IX c λc=>K (.eN c)
 | .dn c=>IY c λc=>K (.dn c)
 |v=>I5 v K
where
 IY:List b9->(List b9->Prop)->Prop
  |[],K=>K []
  | .eN c::l,K=>IX c λc=>IY l λl=>K (.eN c::l)
  |x::l,K=>I5 x λx=>IY l λl=>K (x::l)
theorem Va:∀ {l:List b9} {K:List b9->Prop},Vb.IY l K↔K l
 |[],K=>j2
 |x::l,K=>by cases x<;>simp only [Vb.IY,Pt,PB,Va]
theorem afn {v K}:Vb v K↔K v:=by
 cases v with
 |eN c=>exact Pt
 |dn c=>exact Va
 |_=>exact j2
def CP (R:b9->b9->Prop) (σ:eK) (v res:b9):Prop:=match Ef v with
 |true=>Vb (Gl v) λv=>R v res
 |false=>oI σ v res
def Bt (R:b9->b9->Prop) (T:iw) (fn:Func) (res:b9) (e:Exit) (σ:eK) (n:Nat):Prop:=
 match e with
 | .normal=>match qY σ T fn.results.toList with|some v=>CP R σ (Br v) res|none=>False
 | .ret=>match qY σ T fn.results.toList with|some v=>CP R σ (Br v) res|none=>False
 |_=>False
theorem pL {f fn c} (e:P.funcs[f]? =some fn) (d:fn.body=some c) (n:(fn.name== "runtime.NumGoroutine")=false):s5 P f:=by
 intro r w;have h:¬fn.name= "runtime.NumGoroutine" :=by simpa using n
 simp [callFunc,e,d,h]
theorem fl.Uo (w F d) (c:∀ k o,F k o->k<w.heap.size) (args):fl (P:=P) (jL.A5 w F d c) (sj args) (·<0) ⟨F,λ_=>none,λ_=>none⟩ w where
 jF:=sV.K4 _ _ _
 lv:=c
 pq:=λ_ _ h=>h
 oE:=λ_ _ h _ _=>h
 pI:=λ_ _ h=>by cases h
 oF:=λ_ _ h=>by cases h
 ko:=λ_ _ h=>by cases h
 mc:=λ_ _ _ h=>by cases h
 iR:=λ_ h=>by cases h
 sc:=λ_ _ _ _ h=>by cases h
 sY:=λ_ _ _ _ h=>by cases h
 Ix:=λ_ _ _ _ h=>by cases h
 xz:=λ_ _ _ h=>by cases h
 pJ:=λ_ _ _ h=>by cases h
 CB:=λ_ _ _ _ _ _ _ _ _ h=>by cases h
 np:=λ_ _ _ h=>by cases h
 ln:=λ_ _ _ _ h=>by cases h
structure xI (n0:Nat) (w w':World):Prop where
 O6:w'.os=w.os
 O8:w'.tape=w.tape
 O7:w'.output=w.output
 Bo:w'.heap.size=w.heap.size
 LM:∀ (k:Nat),k<n0->w'.heap[k]? =w.heap[k]?
 D9:∀ (k:Nat),(∀ ds:Option (List Deferred),w.heap[k]?≠some (Obj.deferred ds))->w'.heap[k]? =w.heap[k]?
 LP:∀ (k:Nat) (ds:Option (List Deferred)),w.heap[k]? =some (Obj.deferred ds)->∃ ds':Option (List Deferred),w'.heap[k]? =some (Obj.deferred ds')
 O4:w'.drawn=w.drawn
theorem xI.aeM (n0 w):xI n0 w w:=⟨rfl,rfl,rfl,rfl,λ_ _=>rfl,λ_ _=>rfl,λ_ d h=>⟨d,h⟩,rfl⟩
theorem xI.aeN {n0 w w' d} (h:xI n0 w w') (k:xI n0 w' d):xI n0 w d:=
 ⟨k.O6.trans h.O6,k.O8.trans h.O8,k.O7.trans h.O7,k.Bo.trans h.Bo,λi c=>(k.LM i c).trans (h.LM i c),
  λi c=>(k.D9 i (λs e=>c s (by rw [<-h.D9 i c];exact e))).trans (h.D9 i c),λi s c=>(let ⟨f,j⟩:=h.LP i s c;k.LP i f j),k.O4.trans h.O4⟩
theorem xI.aeL {n0 r d} (e:n0<=r) (h:w.heap[r]? =some (.deferred d)):xI n0 w (w.putObj r (.deferred none)):=by
 have l:r<w.heap.size:=(bm.1 h).1;refine ⟨rfl,rfl,rfl,World.putObj_size,λk c=>World.putObj_heap_other om,λk c=>?_,λk s c=>?_,rfl⟩
 .grind [World.putObj_heap_other]
 grind [World.putObj_heap_same,World.putObj_heap_other]
theorem xI.Uz {n0 w'} (h:xI n0 w w') (x):w'.cell? x=w.cell? x:=by
 unfold World.cell?
 by_cases c:∃ d:Option (List Deferred),w.heap[x.block]? =some (Obj.deferred d)
 .obtain ⟨d,c⟩:=c;obtain ⟨s,f⟩:=h.LP _ d c;rw [c,f]
 .rw [h.D9 _ (λd e=>c ⟨d,e⟩)]
theorem xI.LN {n0 w'} (h:xI n0 w w') (k):w'.shape? k=w.shape? k:=by
 unfold World.shape?
 by_cases c:∃ d:Option (List Deferred),w.heap[k]? =some (Obj.deferred d)
 .obtain ⟨d,c⟩:=c;obtain ⟨s,f⟩:=h.LP _ d c;rw [c,f]
 .rw [h.D9 _ (λd e=>c ⟨d,e⟩)]
theorem xI.O5 {n0 w'} (h:xI n0 w w') (g):zP g w g w':=
 ⟨λ_ _ e=>⟨e,h.Uz _⟩,λ_ c d=>⟨d,h.LN c⟩,λ_ k N r=>⟨k,N,r,aq _,λ_=>⟨rfl,λc _=>h.LN c⟩⟩,λ_ _ N h=> .inl ⟨N,h⟩⟩
theorem xI.aeK {n0 B w'} (h:xI n0 w w') (c:B<=n0):Below B w w':=⟨h.O6,h.O8,h.O7,by grind [h.Bo],λk d=>h.LM k om⟩
theorem iN.aeA {m l w'} (E:iN m l g w) (h:xI l.heap.size w w'):iN m l g w':=by
 have z:=h.O5 g;refine ⟨⟨λk o q=>⟨(E.jC k o q).1,(h.Uz _).trans (E.jC k o q).2⟩,λi c f=>⟨(E.oT i c f).1,(h.LN c).trans (E.oT i c f).2⟩,λi s N y=>?_,E.zQ⟩,
  by rw [h.Bo];exact E.wA,by rw [h.O4];exact E.yz,λd u p=>(h.LM d (bm.1 p).1).trans (E.wy d u p)⟩
 obtain ⟨j,r,v,x,n⟩:=E.zR i s N y;exact ⟨j,r,v,x,λe=>⟨(n e).1,λc f=>(h.LN c).trans ((n e).2 c f)⟩⟩
theorem qP.aez {c X} (h:qP w g c X) (n:X.jb=true) (j):w.heap[c]?≠some (Obj.deferred j):=by
 intro e;cases X with
 |dc t cells=>obtain ⟨d,f,_⟩:=h;simp_all
 |eY t cells=>obtain ⟨d,z,f,_⟩:=h;simp_all
 |mP s pos=>obtain ⟨p,f,_⟩:=h;simp_all
 |kn st pend nt tm ps assign body=>obtain ⟨r,o⟩:=h;grind [o.uQ]
 |iD X=>
  cases X with
  |jq clock es=>obtain ⟨d,f,_⟩:=h;simp_all
  |sZ m i seen l=>obtain ⟨k,_,f⟩:=h;simp_all
 |_=>cases n
theorem fl.aeC {n0 w'} (h:fl b σ D g w) (s:xI n0 w w') (B:b.pH.heap.size<=n0):fl b σ D g w':=by
 refine fl.qs (h.jF.Cy (.Oz (s.aeK B))) (λk o E=>by rw [s.Bo];exact h.lv k o E) h.pq h.oE h.pI h.oF (λi c d=>by rw [s.Bo];exact h.ko i c d) (λi c N d=>by rw [s.Bo];exact h.mc i c N d)
  (λi f=>by rw [s.Bo];exact h.iR i f) (λi c f d=>?_) h.np h.pJ (λi t H N F=>?_)
 .have l:=h.po d;exact l.Iu (s.O5 g) (s.D9 c (l.aez f))
 .obtain ⟨x,y,A⟩:=h.ln i t H N F;refine ⟨x,y,λc d=>?_⟩;obtain ⟨m,n,p,q,u,r,z,j,v⟩:=A c d;exact ⟨m,by rw [s.Bo];exact n,p,q,u,r,z,(s.D9 c (λI e=>by rw [j] at e;cases e)).trans j,v⟩
theorem CK.Uq {n0 r o}:∀ {l:List Deferred},CK n0 w l->(∀ e∈l,e.target≠ .collected r)->CK n0 (w.putObj r o) l
 |[],_,_=>trivial
 |d::ds,⟨⟨i,c,j,k,m⟩,h⟩,f=>by
  have n:i≠r:=λe=>f d (by simp) (by rw [c,e])
  exact ⟨⟨i,c,j,(World.putObj_heap_other n).trans k,m⟩,h.Uq (λe p=>f e (by simp [p]))⟩
theorem U3 {F n n0 fn tmps R}:∀ {l:List Deferred} {w:World},CK n0 w l->(∀ w',xI n0 w w'->∃ v,(results fn tmps).run P w'= .ok v w'/\R (.returned v) w')->
  LeavesInM F n P fn tmps R l .returning w
 |[],w,_,h=>h w (xI.aeM n0 w)
 |d::ds,w,⟨⟨r,e,f,c,i⟩,m⟩,h=>by
  refine ⟨by simp, .inl ⟨r,w.putObj r (.deferred none),by rw [e],run_takeDeferred c,?_⟩⟩;exact U3 (m.Uq i) λw' s=>h w' ((xI.aeL f c).aeN s)
def yN (T:iw) (fn:Func) (K:b9->eK->Nat->Prop) (e:Exit) (σ:eK) (n:Nat):Prop:=
 match e with
 | .normal=>match qY σ T fn.results.toList with|some v=>K (Br v) σ n|none=>False
 | .ret=>match qY σ T fn.results.toList with|some v=>K (Br v) σ n|none=>False
 |_=>False
theorem fF.Bm (hT:jc P T) {f fn c} (X:P.funcs[f]? =some fn) (U:fn.body=some c) (hn:(fn.name== "runtime.NumGoroutine")=false) {args σ n K} (hl:Nat.ble args.length fn.ntmps=true) (Q:pN fn.ntmps fn.results.toList=true)
  (h:iE P none fn.ntmps n c (CQ σ args) n (yN T fn K)):fF P f args σ n K:=by
 refine ⟨pL X U hn,λb g w l I hvl hv=>?_⟩;have hle:args.length<=fn.ntmps:=cO hl;refine callsIn_wide.1 (callsIn_of_wp_marks (F:=Fence.wide) (n:=0) X U trivial ?_)
 let t:se:=⟨g,w,n,(λR c hc=>I.pI R c hc),(λR x J=>I.oF R x J)⟩
 have B:si b t fn.ntmps (CQ σ args) n {tmps:=l.toArray++Array.replicate (fn.ntmps - l.toArray.size) undef,defers:=[]} w:=by
  refine ⟨g,I.xx (λ_=>rfl) (λ_=>rfl),⟨by simp;omega,trivial,λi Y=>?_⟩,iN.uO _ _,aq _⟩;unfold jx;simp only [CQ,xE];cases J:args[i]? with
  |none=>exact .nY
  |some x=>
   have y:i<l.length:=by have:=(aB.1 J).1;omega
   have:(l.toArray++Array.replicate (fn.ntmps - l.toArray.size) undef).getD i undef=l[i]:=by
    simp [Array.getElem?_append,y]
   simp only;rw [this];exact hv i x _ J (aj y)
 refine wpIn_mono (h.nM b t _ w (aq n) B) ?_;rintro e L H ⟨σ',q,k,m,d,o,hE,O⟩;have r:∀ j,qY σ' T fn.results.toList=some j->K (Br j) σ' q->LeavesInM Fence.wide 0 P fn L.tmps (λe H=>∃ v x σ' q m,e= .returned v/\K x σ' q/\n<=q/\eH H m x v/\fl b σ' (·<q) m H/\iN g w m H) L.defers .returning H:=by
  intro j s u;refine U3 o.sg λS p=>?_
  have Z:b.pH.heap.size<=w.heap.size:=I.jF.pZ;have d:=d.aeC p Z;have N:qv w.heap.size fn.ntmps σ' m ⟨L.tmps,[]⟩ S:=⟨o.qU,trivial,λi Y=>(o.oW i Y).Ld (p.O5 m)⟩;obtain ⟨E,A,z⟩:=afr hT d N Q s;exact ⟨E,A,E,Br j,σ',q,m,rfl,u,O,z,d,hE.aeA p⟩
 cases e with
 |normal=>
  simp only [yN] at k;cases s:qY σ' T fn.results.toList with
  |none=>simp only [s] at k
  |some j=>
   simp only [s] at k;exact r j s k
 |ret=>
  simp only [yN] at k;cases s:qY σ' T fn.results.toList with
  |none=>simp only [s] at k
  |some j=>
   simp only [s] at k;exact r j s k
 |_=>exact k.elim
theorem fF.IR {f:FuncId} {args:List b9} {σ0:eK} {n0:Nat} {K:b9->eK->Nat->Prop} (h:fF P f args σ0 n0 K) (w:World) (F:Nat->Nat->Prop) (m:sX P w) (j:∀ k o,F k o->k<w.heap.size) {g:gX} (q:fl (jL.A5 w F m j) σ0 (·<n0) g w)
  {vals:List Value} (l:vals.length=args.length) (u:∀ (i:Nat) (x:b9) (v:Value),args[i]? =some x->vals[i]? =some v->eH w g x v):
  Calls P f vals.toArray w λe w'=>∃ v x σ' n g',e= .returned v/\K x σ' n/\eH w' g' x v/\fl (jL.A5 w F m j) σ' (·<n) g' w'/\(Below w.heap.size w w'/\w.drawn<=w'.drawn)/\(∀ k o,F k o->g'.fP k o)/\(∀ k o,g'.fP k o->F k o\/(w.heap.size<=k/\k<w'.heap.size)):=
 (h.vC _ g w vals q l u).mono λ_ w' ⟨v,x,σ',n,g',p,c,_,r,s,E⟩=>⟨v,x,σ',n,g',p,c,r,s,⟨s.jF.Oy (λ_ h=>h),E.yz⟩,λk o c=>s.pq k o c,λk o c=>by
  rcases bu k w.heap.size with d|d
  .exact .inl (s.oE k o c d (λh=>h))
  .exact .inr ⟨d,s.lv k o c⟩⟩
theorem fl.LG (w F c) (h:∀ k o,F k o->k<w.heap.size):fl (P:=P) (jL.A5 w F c h) (λ_=> .fB) (·<0) ⟨F,λ_=> .none,λ_=> .none⟩ w:=
 (fl.Uo w F c h []).xx (λ_=>rfl) (λ_=>rfl)
theorem CP.Pn {R:b9->b9->Prop} (n:∀ x y,R x y->mR x y) {w:World} {F:Nat->Nat->Prop} {m:sX P w} {l:∀ k o,F k o->k<w.heap.size} {σ':eK} {D:Nat->Prop} {g':gX} {w':World} (s:fl (jL.A5 w F m l) σ' D g' w') {x res:b9} {v:Value} (f:CP R σ' x res) (r:eH w' g' x v):
  gb w' (λk o=>g'.fP k o\/(w.heap.size<=k/\k<w'.heap.size)) res v:=by
 unfold CP at f;cases p:Ef x with
 |true=>
  simp only [p] at f;have f:=afn.1 f;exact (n _ _ f).ue _ _ _ ((Gs p r).ka λk o d=>⟨.inl d,rfl⟩)
 |false=>
  simp only [p] at f;exact f.aeB s (λk o d=> .inl d) (λz c q u o=>by
   obtain ⟨A,e,i,j,_⟩:=s.iR z u;rw [q] at e;cases e;exact .inr ⟨i.resolve_right (λh=>h),j⟩) r
theorem UY (args):sj args=CQ (λ_=> .fB) args:=by funext l;cases l<;>rfl
theorem Vg (R T fn res):Bt R T fn res=yN T fn (λv σ _=>CP R σ v res):=by funext e _ _;cases e<;>rfl
theorem er.Uw {R} (A:∀ x y,R x y->mR x y) (B:jc P T) {f fn c} (p:P.funcs[f]? =some fn) (e:fn.body=some c) (q:(fn.name== "runtime.NumGoroutine")=false) {args res} (H:Nat.ble args.length fn.ntmps=true) (j:pN fn.ntmps fn.results.toList=true)
  (h:iE P none fn.ntmps 0 c (sj args) 0 (Bt R T fn res)):er P f args res:=by
 rw [UY,Vg] at h;refine ⟨pL p e q,λw F s n m l J=>(fF.IR (fF.Bm B p e q H j h) w F n m (fl.LG w F n m) l λi x v K L=> .fJ (J i x v K L)).mono ?_⟩;rintro _ Q ⟨v,x,σ',O,N,E,d,r,I,e,u,z⟩;exact ⟨v,_,E,e,λk o d=> .inl (u k o d),λk o d=>d.elim (z k o) .inr,CP.Pn A I d r⟩
theorem er.Uv {R} (e:∀ x y,R x y->mR x y) (d:jc P T) (m:P.follows .mixedOrders=true) {f fn c} (j:P.funcs[f]? =some fn) (i:fn.body=some c) (n:(fn.name== "runtime.NumGoroutine")=false) {args res} (l:Nat.ble args.length fn.ntmps=true) (r:pN fn.ntmps fn.results.toList=true)
  (h:s7 P T none fn.ntmps 0 c (sj args) 0 (Bt R T fn res)):er P f args res:=er.Uw e d j i n l r (wO d m _ _ _ _ h)
theorem er.Uu (d:jc P T) (m:P.follows .mixedOrders=true) {f fn c} (i:P.funcs[f]? =some fn) (e:fn.body=some c) (n:(fn.name== "runtime.NumGoroutine")=false) {args res} (l:Nat.ble args.length fn.ntmps=true) (r:pN fn.ntmps fn.results.toList=true)
  (h:s7 P T none fn.ntmps 0 c (sj args) 0 (Bt Eq T fn res)):er P f args res:=
 er.Uv (λ_ _ h=>mR.qy h) d m i e n l r h
theorem er.Gd (d:jc P T) (m:P.follows .mixedOrders=true) {f fn c} (i:P.funcs[f]? =some fn) (e:fn.body=some c) (n:(fn.name== "runtime.NumGoroutine")=false) {args res} (l:Nat.ble args.length fn.ntmps=true) (r:pN fn.ntmps fn.results.toList=true)
  (h:s7 P T none fn.ntmps 0 c (sj args) 0 (Bt mR T fn res)):er P f args res:=
 er.Uv (λ_ _ h=>h) d m i e n l r h
end
def Pm:b9->b9->Bool
 | .ax j a, .ax k b=>wJ j k && (a==b)
 | .fU, .fU=>true
 | .fD, .fD=>true
 | .cp a, .cp b=>a==b
 | .fY, .fY=>true
 | .a8 true 1 [] .fW, .a8 true 1 [] .fW=>true
 | .gL, .gL=>true
 | .gy, .gy=>true
 | .ga, .ga=>true
 |_,_=>false
theorem afd {x y} (h:Pm x y=true):x=y:=by
 unfold Pm at h;grind [Lq]
def LW:List b9->List b9->Bool
 |[],[]=>true
 |x::l,y::m=>Pm x y && LW l m
 |_,_=>false
theorem UQ:∀ {l m:List b9},LW l m=true->l=m
 |[],[],_=>rfl
 |x::l,y::m,h=>by
  simp only [LW,az] at h;rw [afd h.1,UQ h.2]
 |[],_::_,h=>by cases h
 |_::_,[],h=>by cases h
def xB.UD (P:Program) (t:TypeId) (ti:FQ):Bool:=
 match ti,P.underlying t with
 | .kb k,some (.int j)=>wJ j k
 | .me,some .bool=>true
 | .kP,some .string=>true
 | .jn e,some (.slice c)=>c==e
 | .kq n e,some (.array d c)=>d==n && c==e
 | .g5 s,some (.struct l)=>l.toList.map (λf=>(f.offset,f.type))==s && (l.toList.mapM (λf=>(P.info? f.type).map λi=>(f.offset,i.size))).isSome
 | .ku e,some (.pointer c)=>c==e
 | .kK,some (.interface _)=>true
 | .mf,some (.func _ _ _)=>true
 | .lG,some (.map _ _)=>true
 |_,_=>false
def xB.Pb (P:Program) (t:TypeId) (r:xB):Bool:=
 xB.UD P t r.TQ && match P.info? t with
  |some i=>i.size==r.eV && i.bytes==r.Bd && match i.zero with
   |some z=>LW (z.cells.toList.map Ll) r.nZ && z.cells.size==r.eV
   |none=>false
  |none=>false
theorem xB.aeU {P t r} (h:xB.Pb P t r=true):r.TP P t:=by
 simp only [xB.Pb,az] at h;obtain ⟨j,c⟩:=h;refine ⟨?_,?_⟩
 .unfold xB.UD at j;grind [Lq,Option.isSome_iff_exists]
 .cases f:P.info? t with
  |none=>simp [f] at c
  |some i=>
   simp only [f,az,dC] at c;obtain ⟨⟨c,k⟩,d⟩:=c;cases e:i.zero with
   |none=>simp [e] at d
   |some z=>
    simp only [e,az,dC] at d;refine ⟨i,z,rfl,c,k,e,UQ d.1,d.2,?_⟩;cases z<;>first|(exact .inl rfl)|simp_all
def PD (P:Program):iw->Bool
 |[]=>true
 |(t,r)::l=>xB.Pb P t r && PD P l
theorem jc.UC {P}:∀ {T:iw},PD P T=true->jc P T
 |[],_,t,r,h=>by cases h
 |(k,e)::l,c,t,r,h=>by
  simp only [PD,az] at c;simp only [hU] at h;cases d:Nat.beq k t with
  |true=>
   grind [Nat.eq_of_beq_eq_true,xB.aeU]
  |false=>
   simp only [d] at h;exact jc.UC c.2 t r h
theorem fq {x} (h:-9223372036854775808<=x) (c:x<=9223372036854775807):IntKind.i64.wrap x=x:=by rw [IntKind.wrap_i64];omega
theorem afD (a b:Nat):((a:Int)).tmod (b:Int)=((a % b:Nat):Int):=by
 trivial
theorem PE {a b:Int} (h:0<=a):a.tdiv b=a / b:=Int.tdiv_eq_ediv_of_nonneg h
theorem Vn {a b:Int} (h:0<=a):a.tmod b=a % b:=Int.tmod_eq_emod_of_nonneg h
section
theorem LR (a b):ir (a++b)=ir a++ir b:=aU
theorem LU (a n):ir (a.take n)=(ir a).take n:=cr
theorem LS (a n):ir (a.drop n)=(ir a).drop n:=jV
theorem Px (n):jM n [b9.ax .u8 0]=ir (List.replicate n 0):=by
 unfold jM ir;simp_all
theorem afa (s):0+s.length<=(ir s).length/\((ir s).drop 0).take s.length=ir s:=by
 grind [rs]
theorem LQ {s n} (h:n=s.length):0+n<=(ir s).length/\((ir s).drop 0).take n=ir s:=by
 grind [afa]
theorem ji {n b} (h:n<=4294967296) (c:b<=4096):ua n b:=by
 unfold ua;have:n*b<=4294967296*4096:=dQ h c;omega
variable {P:Program}
theorem qV.UB:∀ {l m:List b9},qV l m->∀ (i:Nat) y,m[i]? =some y->∃ x,l[i]? =some x/\mR x y
 |_,_, .kv,i,y,h=>by simp at h
 |_,_, .fj h _,0,y,c=>by simp_all
 |_,_, .fj _ h,i+1,y,c=>by obtain ⟨x,d,e⟩:=h.UB i y (by simpa using c);simp_all
theorem er.Ut {f args args' res} (h:er P f args res) (s:qV args' args):er P f args' res:=
 ⟨h.O1,λw F l d e j k=>h.LI w F l d e (j.trans s.zY) λi y v o m=>by
  obtain ⟨x,n,c⟩:=s.UB i y o;exact c.ue _ _ _ (k i x v n m)⟩
theorem iE.CI {σ r nt v n c K} (t e s) {isNil sz els} (R:σ (.ct t)= .bg (.a8 isNil sz els .fW)) (S:Nat.blt t nt=true) (J:s=sz\/els=[])
  (h:iE P r nt v c (fc (fc σ (.eT n) (.eU e s els.length)) (.ct t) (.bg (.a8 isNil s els (.je n)))) (n+1) K):iE P r nt v c σ n K:=by
 refine ⟨λb O a w E m=>?_⟩;obtain ⟨g,l,f,I,Q⟩:=m;obtain ⟨F,d⟩:=l.FE (t:=e) (sz:=s) (N:=els.length) l.sh.2;have H:fl b (fc (fc σ (.eT n) (.eU e s els.length)) (.ct t) (.bg (.a8 isNil s els (.je n)))) (·<n+1) (g.p7 n els.length) w:=
  (F.xx (λL=>g9 (by intro e;cases e)) (λL=>g9 (by intro e;cases e))).mQ (λi q=>by omega)
 refine h.nM b O a w E ⟨_,H,⟨f.qU,f.sg,λi q=>?_⟩,I.lF d,om⟩;have k:=f.oW i q
 by_cases j:i=t
 .subst j;have z:jx σ i= .a8 isNil sz els .fW:=by grind [jx]
  rw [z] at k;rw [Gx];obtain ⟨x,y,B,u,o⟩:=(k.oU d).nq;rw [B];have p:gb w (g.p7 n els.length).fP (.a8 isNil s els .dm) (.slice x els.length y):=by
   rcases J with rfl|rfl
   .exact u
   .exact (mR.kd _ _ _).ue _ _ _ u
  refine .m7 p ?_;exact ⟨none,els.length,by simp [gX.p7],aq _,λ_=> .inl o⟩
 .rw [Ac (by grind)];have A:jx (fc σ (.eT n) (.eU e s els.length)) i=jx σ i:=by trivial
  rw [A];exact k.oU d
end
section
variable {P:Program}
def Gz:b9->Option Value
 | .ax k n=>some (.int k n)
 | .cp s=>some (.string ⟨s.toArray⟩)
 | .eD b=>some (.bool b)
 | .fU=>some (.bool true)
 | .fD=>some (.bool false)
 |_=>none
theorem PF {w:World} {F:Nat->Nat->Prop} {x:b9} {v u:Value} (h:gb w F x v) (hu:Gz x=some u):v=u:=by
 cases h<;>simp only [Gz,aG,reduceCtorEq] at hu<;>try (subst hu;rfl)
 rename_i s b h;subst hu;congr 1;cases b with|mk d=>congr 1;grind
def xR:List b9->Option (List Value)
 |[]=>some []
 |x::l=>match Gz x,xR l with|some v,some m=>some (v::m)|_,_=>none
theorem Vp {w F}:∀ {args:List b9} {us vals:List Value},xR args=some us->vals.length=args.length->(∀ (i:Nat) x v,args[i]? =some x->vals[i]? =some v->gb w F x v)->vals=us
 |[],us,vals,h,hl,_=>by
  grind [xR]
 |x::l,us,[],h,hl,_=>by simp at hl
 |x::l,us,v::vals,h,hl,e=>by
  simp only [xR] at h;cases c:Gz x with
  |none=>simp [c] at h
  |some u=>
   cases d:xR l with
   |none=>simp [c,d] at h
   |some m=>
    simp only [c,d,aG] at h;subst h;rw [PF (e 0 x v rfl rfl) c,Vp d (by simpa using hl) (λi=>e (i+1))]
theorem er.D8 {f} (E:s5 P f) {args us res r} (u:xR args=some us) (j:∀ w,sX P w->Calls P f us.toArray w λe w'=>e= .returned r/\(Below w.heap.size w w'/\w.drawn<=w'.drawn)) (k:∀ w F,gb w F res r):er P f args res:=
 ⟨E,λw F v i _ l m=>by
  rw [Vp u l m];exact (j w i).mono λe w' ⟨c,d⟩=>⟨r,F,c,d,λ_ _ h=>h,λ_ _ h=> .inl h,k _ _⟩⟩
theorem gb.Uy {w F} {xs:List b9} {vs:List Value} (l:vs.length=xs.length) (h:∀ (i:Nat) (x:b9) (v:Value),xs[i]? =some x->vs[i]? =some v->gb w F x v):gb w F (.dn xs) (.tuple vs.toArray):= .wC l h
theorem gb.LJ {w F a b u v} (h:gb w F a u) (c:gb w F b v):gb w F (.dn [a,b]) (.tuple #[u,v]):=
 .Uy (vs:=[u,v]) rfl λi x y d e=>by
  grind
theorem gb.LK {w F a b c u v x} (h:gb w F a u) (d:gb w F b v) (e:gb w F c x):gb w F (.dn [a,b,c]) (.tuple #[u,v,x]):=
 .Uy (vs:=[u,v,x]) rfl λi x y f j=>by
  grind
theorem gb.aeG {w F} (s):gb w F (.cp s) (.string ⟨s.toArray⟩):= .lW rfl
end
section
variable {P:Program} {T:iw}
theorem fF.wM (d:jc P T) (m:P.follows .mixedOrders=true) {f fn c} (i:P.funcs[f]? =some fn) (e:fn.body=some c) (j:(fn.name== "runtime.NumGoroutine")=false) {args σ n K} (l:Nat.ble args.length fn.ntmps=true) (r:pN fn.ntmps fn.results.toList=true)
  (h:s7 P T none fn.ntmps n c (CQ σ args) n (yN T fn K)):fF P f args σ n K:=fF.Bm d i e j l r (wO d m _ _ _ _ h)
end
end Go.Am
