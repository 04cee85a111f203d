import Derived.Laws.MakeOwn
import Derived.Scope
import Derived.TacticsIn
import Derived.OrdersIn
import Derived.RangeFuncCalls
import Derived.RangeFuncRecord
import Derived.Test.YtffboamedcmpaaaGreatDoorCb
set_option linter.all false
set_option maxHeartbeats 4000000
set_option maxRecDepth 100000
namespace Go.Am
open Go.RowKit
section
variable {P:Program} {T:cN} {b:ek P} {σ:az} {D:Nat->Prop} {g:cf} {a:Act} {w:World}
theorem bh.P7 (h:bh b σ D g w) (id:Nat):bh b (aU σ (.af id) .bq) D g w:=h.s7 _
theorem Zu (hT:dA P T) (h:bh b σ D g w) {f:Nat} (_hf1:g.aZ f=none) (hf2:g.cu f=none) {t tx ty e:TypeId} {n0 b0:Nat} {z0:List ae} (hr:cP T t=some ⟨.dK e,n0,b0,z0⟩) {r:lz} (he:cP T e=some r)
  {id len:Nat} {els news:List (List ae)} {nv:List Value} {xv sv:Value} (hs:aF w g (.aL id 0 r.aO len true) sv) (hn:xp P w g.bJ r.aO tx xv news nv) (hbk:σ (.af id)= .aR e els.flatten) (hlen:els.length=len) (hes:∀ el∈els,el.length=r.aO)
  (hpu:fL els.flatten=true) (hfit:pD (els.length+news.length) r.xx):
  ∃ val w' g',(Builtin.append_ #[t,tx] ty #[sv,xv]).run P w= .ok val w'/\aF w' g' (.ag false r.aO (els++news) (.dB f)) val/\
   bh b (aU (aU σ (.af id) .bq) (.aJ f) (.aN e r.aO (els.length+news.length))) (λi=>D i\/i=f) g' w'/\dp g w g' w':=by
 obtain ⟨i,zv,q1,q2,q3,q3',q4,q5,q6,_⟩:=lz.pG hT he;have hrow:=(hT t _ hr).1;simp only at hrow;obtain ⟨c,cap,ad,p1,rfl,p3,p4,p5,p6⟩:=hs.mK;obtain ⟨_,rfl,tt,hshape⟩:=p6 rfl;subst hlen;obtain ⟨c',l1,l2,l3,l4⟩:=h.dq id (by rw [hbk];rfl);rw [p1] at l1;cases l1;obtain ⟨arr,z,m1,m2,m3,m4⟩:=h.oN id e els.flatten c hbk p1;have hal:arr.length=cap*r.aO:=by
  grind [World.shape?]
 have hfle:=lA r.aO els hes;have hnl:nv.length=news.length*r.aO:=hn.ng.newsLen;have hsrc:=hn.ng;rw [<-q3] at hsrc;have hfl:(els++news).flatten=els.flatten++news.flatten:=by simp
 have hln:=lA r.aO news hn.vU;have hold1:∀ (i:Nat) (x:ae) (v:Value),els.flatten[i]? =some x->arr[i]? =some v->v.oneCell'=true:=λi x v hx hv=>te (.bC (m4 i x v hx hv)) (zb hpu i x hx)
 have hnid:∀ id',((aU σ (.af id) .bq) (.af id')).dw=true->g.aZ id'≠some c:=λid' hl hc=>by
  by_cases hid:id'=id
  ·subst hid;rw [gY] at hl;cases hl
  ·rw [cL (by simp_all)] at hl;exact hid (h.iT id' id c hl (by rw [hbk];rfl) hc p1)
 have hnrow:∀ id' t sz N N',id'≠f->(aU σ (.af id) .bq) (.aJ id')= .aN t sz N->g.cu id'≠some (some c,N'):=λid' t sz N N' _ hs' hc=>by
  rw [cL (by intro e;cases e)] at hs';obtain ⟨bk,b1,b2⟩:=h.fA id' t sz N hs';have hbb:bk=some c:=by simp_all
  exact (b2 c hbb).2.2.2.1 id (by rw [hbk];rfl) p1
 by_cases hroom:els.length+news.length<=cap
 ·have hle:els.length*r.aO+nv.length<=arr.length:=by rw [hnl,hal,<-Nat.add_mul];exact Nat.mul_le_mul_right _ hroom
  obtain ⟨s1,s2,s3,s4⟩:=EY c (els.length*r.aO) nv m1 hle m3 hn.ng.one;have hrun:=run_append_room_src (P:=P) w t tx ty e i hrow q1 c 0 els.length cap xv news.length nv hsrc hroom (by simp_all) (by simp_all);rw [Nat.zero_add,q3] at hrun;obtain ⟨h1,e1⟩:=h.j8 (X:= .bq) (by rw [hbk];rfl) p1 s1 (λh=>by cases h);have mn:min (els.length*r.aO) arr.length=els.length*r.aO:=om;have hget:∀ (j:Nat) (x:ae) (v:Value),(els++news).flatten[j]? =some x->(arr.take (els.length*r.aO)++nv++arr.drop (els.length*r.aO+nv.length))[j]? =some v->
    (els.flatten[j]? =some x/\arr[j]? =some v)\/(news.flatten[j - els.length*r.aO]? =some x/\nv[j - els.length*r.aO]? =some v):=by
   grind
  obtain ⟨k1,k2,k3⟩:=h1.Av (id:=f) (c:=c) (sz:=r.aO) (N:=els.length+news.length) (cap:=cap) (t:=e) (z:=z) (els:=els++news) (by simp) (λbk M hM=>by simp_all) (.inr l4) l2 (by grind)
   (λo ho=>absurd ho (l4 o)) hnid hnrow s2 (λo ho=>m3 o (by simp at ho;omega)) (by simp;omega) hroom
   (λel hel=>by rcases List.mem_append.1 hel with h'|h';exact hes el h';exact hn.vU el h')
   (λj x v hx hv=>by
    rcases hget j x v hx hv with ⟨h',h''⟩|⟨_,h'⟩
    ·grind
    ·exact hn.ng.one v (List.mem_of_getElem? h'))
   (λj x v hx hv=>by
    rcases hget j x v hx hv with ⟨h',h''⟩|⟨h',h''⟩
    ·exact (m4 j x v h' h'').eO e1.ee
    ·exact (hn.Cj _ x v h' h'').eO e1.ee)
  exact ⟨_,_,_,hrun,k3.Cq,k1,e1.gD k2⟩
 ·have hle2:els.length*r.aO<=arr.length:=om;obtain ⟨val,w',g',k1,k2,k3,k4⟩:=Hs (ty:=ty) (c:=cap) (ad:=some ⟨c,0,none⟩) hT (h.s7 (.af id)) hr he (id:=f) (els:=els) (λbk M hM=>by simp_all) hn hfit om (olds:=arr.take (els.length*r.aO)) (by simp_all)
   (λw' hw=>Ct P (w:=w) (by simp_all) (λh0=>⟨c,0,rfl,λi v hv=>by
    grind [nk]⟩) w' hw) hes (λi x v hx hv=>by
    grind) (λu hu=>by
    obtain ⟨i,hi,rfl⟩:=List.getElem_of_mem hu;have hi2:i<els.flatten.length:=by grind
    rw [List.getElem_take];exact hold1 i _ _ (List.getElem?_eq_getElem hi2) (List.getElem?_eq_getElem om))
  grind [k2.Cq]
theorem Zt (hT:dA P T) (h:bh b σ D g w) {f:Nat} {t tx ty e:TypeId} {n0 b0:Nat} {z0:List ae} (hr:cP T t=some ⟨.dK e,n0,b0,z0⟩) {r:lz} (he:cP T e=some r)
  {id len:Nat} {cells:List ae} {news:List (List ae)} {nv:List Value} {xv sv:Value} (hs:aF w g (.aL id 0 r.aO len true) sv) (hn:xp P w g.bJ r.aO tx xv news nv) (hbk:σ (.af id)= .aR e cells) (hroom:(len+news.length)*r.aO<=cells.length) (hpos:0<r.aO):
  ∃ val w' g',(Builtin.append_ #[t,tx] ty #[sv,xv]).run P w= .ok val w'/\aF w' g' (.aL id 0 r.aO (len+news.length) true) val/\
   bh b (aU σ (.af id) (.aR e (cells.take (len*r.aO)++news.flatten++cells.drop ((len+news.length)*r.aO)))) (λi=>D i\/i=f) g' w'/\dp g w g' w':=by
 obtain ⟨i,zv,q1,q2,q3,q3',q4,q5,q6,_⟩:=lz.pG hT he;have hrow:=(hT t _ hr).1;simp only at hrow;obtain ⟨c,cap,ad,p1,rfl,p3,p4,p5,p6⟩:=hs.mK;obtain ⟨_,rfl,tt,hshape⟩:=p6 rfl;obtain ⟨arr,z,m1,m2,m3,m4⟩:=h.oN id e cells c hbk p1;have hal:arr.length=cap*r.aO:=by
  grind [World.shape?]
 have hcap:len+news.length<=cap:=Nat.le_of_mul_le_mul_right (Nat.le_trans hroom om) hpos;have hnl:nv.length=news.length*r.aO:=hn.ng.newsLen;have hln:=lA r.aO news hn.vU;have hsrc:=hn.ng;rw [<-q3] at hsrc;have hmul:(len+news.length)*r.aO=len*r.aO+news.length*r.aO:=Nat.add_mul _ _ _;have hle:len*r.aO+nv.length<=arr.length:=om;obtain ⟨s1,s2,s3,s4⟩:=EY c (len*r.aO) nv m1 hle m3 hn.ng.one;have hrun:=run_append_room_src (P:=P) w t tx ty e i hrow q1 c 0 len cap xv news.length nv hsrc hcap (by simp_all) (by simp_all);rw [Nat.zero_add,q3] at hrun;have hlens:(cells.take (len*r.aO)++news.flatten++cells.drop ((len+news.length)*r.aO)).length<=(arr.take (len*r.aO)++nv++arr.drop (len*r.aO+nv.length)).length:=by
  grind
 have hreps:∀ (p:Nat) (x:ae) (v:Value),(cells.take (len*r.aO)++news.flatten++cells.drop ((len+news.length)*r.aO))[p]? =some x->(arr.take (len*r.aO)++nv++arr.drop (len*r.aO+nv.length))[p]? =some v->cb (w.setCells c (len*r.aO) nv) g.bJ x v:=by
  intro p x v hx hv;have m4':∀ (j:Nat) (x:ae) (v:Value),cells[j]? =some x->arr[j]? =some v->cb (w.setCells c (len*r.aO) nv) g.bJ x v:=λj x v hx hv=>(m4 j x v hx hv).eO (dp.pC (g:=g) s1 (h.dq id (by rw [hbk];rfl)|>.elim λc' hc'=>by
   simp_all)).ee
  have hnr:∀ (j:Nat) (x:ae) (v:Value),news.flatten[j]? =some x->nv[j]? =some v->cb (w.setCells c (len*r.aO) nv) g.bJ x v:=λj x v hx hv=>(hn.Cj j x v hx hv).eO (dp.pC (g:=g) s1 (h.dq id (by rw [hbk];rfl)|>.elim λc' hc'=>by
   simp_all)).ee
  have t1:(cells.take (len*r.aO)).length=len*r.aO:=by grind
  have t2:(arr.take (len*r.aO)).length=len*r.aO:=by simp_all
  by_cases hp1:p<len*r.aO
  ·grind
  ·by_cases hp2:p<len*r.aO+nv.length
   ·grind
   ·rw [List.getElem?_append_right (by simp_all),List.length_append,t1,hln,List.getElem?_drop] at hx;rw [List.getElem?_append_right (by simp_all),List.length_append,t2,List.getElem?_drop] at hv;grind
 obtain ⟨h1,e1⟩:=h.j8 (X:= .aR e (cells.take (len*r.aO)++news.flatten++cells.drop ((len+news.length)*r.aO))) (by rw [hbk];rfl) p1 s1 (λ_=>⟨_,z,s2,hlens,λo ho=>m3 o (by simp at ho;omega),hreps⟩);exact ⟨_,_,_,hrun, .kH p1 (λ_=>rfl) rfl hcap (λ_=>⟨rfl,rfl,tt,by grind [s1.ET]⟩),h1.iU (λi hi=> .inl hi),e1⟩
theorem Zv (hT:dA P T) (h:bh b σ D g w) {f:Nat} (hf1:g.aZ f=none) (hf2:g.cu f=none) {t tx ty:TypeId} {s x:ae} {sv xv:Value} (hs:aF w g s sv) (hx:aF w g x xv) {v:ae} {us:List (aS×bs)} (hg:(CA σ T f t tx s x).fV v us):
  ∃ val w' g',(Builtin.append_ #[t,tx] ty #[sv,xv]).run P w= .ok val w'/\aF w' g' v val/\bh b (eG σ us) (λi=>D i\/i=f) g' w'/\dp g w g' w':=by
 simp only [CA,cY] at hg;cases hr:cP T t with
 |none=>simp only [hr] at hg;exact hg.elim
 |some r=>
  obtain ⟨ti,n0,b0,z0⟩:=r;simp only [hr] at hg;cases ti with
  |dK e=>
   simp only at hg;cases he:cP T e with
   |none=>simp only [he] at hg;exact hg.elim
   |some r=>
    obtain ⟨tie,sz,bytes,ze⟩:=r;simp only [he] at hg;obtain ⟨news,nv,hn,hq⟩:=YD hT h hx hg;clear hg;cases s with
    |ag isNil sz' els tk=>
     simp only at hq;cases hb:Nat.beq sz' sz with
     |true=>
      simp only [hb] at hq;have e0:=Nat.eq_of_beq_eq_true hb;subst e0;exact Pw hT h hf1 hf2 hr he hs hn hq
     |false=>
      simp only [hb] at hq;obtain ⟨e0,hq⟩:=hq;subst e0;refine Pw hT h hf1 hf2 hr he (tk:=AH tk) ?_ hn hq;obtain ⟨ad,c,e1,e2,e3⟩:=hs.jj;rw [e1];refine .jc (Hw e2) ?_;cases tk with
      |av=>trivial
      |bR=>exact e3
      |dB id=>trivial
      |cO id=>trivial
    |aL id off sz' len full=>
     cases off with
     |succ off=>exact hq.elim
     |zero=>
      cases full with
      |false=>exact hq.elim
      |true=>
       simp only at hq;cases hb:Nat.beq sz' sz with
       |false=>simp only [hb] at hq;exact hq.elim
       |true=>
        simp only [hb] at hq;have e0:=Nat.eq_of_beq_eq_true hb;subst e0;cases hbk:σ (.af id) with
        |aR bt cells=>
         simp only [hbk] at hq;cases hb2:Nat.beq bt e with
         |false=>simp only [hb2] at hq;exact hq.elim
         |true=>
          simp only [hb2] at hq;have e0:=Nat.eq_of_beq_eq_true hb2;subst e0;split at hq
          ·obtain ⟨⟨h1,h2⟩,e1,e2⟩:=hq;subst e1 e2;exact Zt hT h hr he hs hn hbk h1 h2
          obtain ⟨els,⟨h1,h2,h3,h4,h5⟩,e1,e2⟩:=hq;subst e1 e2 h3;exact Zu hT h hf1 hf2 hr he hs hn hbk h1 h2 h4 h5
        |_=>simp only [hbk] at hq;exact hq.elim
    |_=>exact hq.elim
  |_=>exact hg.elim
end
section
variable {P:Program} {T:cN} {b:ek P} {σ:az} {D:Nat->Prop} {g:cf} {a:Act} {w:World}
theorem ZK (hT:dA P T) (h:bh b σ D g w) {f:Nat} (hf1:g.aZ f=none) (hf2:g.cu f=none) {t:TypeId} {l c:Operand} {us:List (aS×bs)} {v:ae} {dst ty pos after guard}
  (hg:(df P T σ f ⟨dst, .makeSlice t l c,ty,pos,after,guard⟩).fV v us) (hl:aF w g (aM σ l) (a.eval l)) (hc:aF w g (aM σ c) (a.eval c)):gk P b σ us f D g a w ⟨dst, .makeSlice t l c,ty,pos,after,guard⟩ v:=by
 simp only [df,cY] at hg;cases hr:cP T t with
 |none=>simp only [hr] at hg;exact hg.elim
 |some r=>
  have hrow:=(hT t _ hr).1;obtain ⟨ti,n0,b0,z0⟩:=r;simp only [hr] at hg hrow;cases ti with
  |dK e=>
   simp only at hg hrow;cases he:cP T e with
   |none=>simp only [he] at hg;exact hg.elim
   |some r=>
    obtain ⟨tie,sz,bytes,zero⟩:=r;simp only [he] at hg;obtain ⟨i,z,q1,q2,q3,q3',q4,q5,q6,_⟩:=lz.pG hT he;simp only at q3 q3' q4 q5 q6;have run:∀ (kl kc:IntKind) (n m:Int),a.eval l= .int kl n->a.eval c= .int kc m->0<=n->n<=m->pD m.toNat bytes->(execOp a.eval ⟨dst, .makeSlice t l c,ty,pos,after,guard⟩).run P w= .ok (.value (.slice (some ⟨w.heap.size,0,none⟩) n.toNat m.toNat)) (w.alloc (.cells (madeCells z.cells (m.toNat*sz)).toList.toArray e)):=by
     intro kl kc n m e1 e2 h0 h1 h2;obtain ⟨f1,f2⟩:=h2;have hm:=run_make (P:=P) w t e i z hrow q1 q2 kl kc n m h0 h1 (by
      grind) om
     rw [q3] at hm;simp only [execOp,e1,e2,Sem.run_bind,hm,Result.andThen_ok,Sem.run_pure]
    have hmc:∀ (n:Nat) (w:World) (g:cf) (j:Nat) (x:ae) (v:Value),(eB n zero)[j]? =some x->(madeCells z.cells (n*sz)).toList[j]? =some v->aF w g x v:=by
     intro n w g j x v hx hv;obtain ⟨i',z',p1,p2,_,_,_,_,p6⟩:=P2 hT he n;rw [q1] at p1;cases p1;rw [q2] at p2;cases p2;exact p6 w g j x v hx hv
    have hml:∀ n,(madeCells z.cells (n*sz)).toList.length=n*sz:=λn=>size_madeCells _ _
    have row0:∀ (m:Int),(∃ kl,a.eval l= .int kl 0)->(∃ kc,aM σ c= .aa kc m)->0<=m->pD m.toNat bytes->v= .ag false sz [] (.dB f)->us=[(.aJ f, .aN e sz 0)]->gk P b σ us f D g a w ⟨dst, .makeSlice t l c,ty,pos,after,guard⟩ v:=by
     intro m ⟨kl,e1⟩ ⟨kc,e2⟩ h0 h1 e3 e4;subst e3 e4;rw [e2] at hc;have hrun:=run kl kc 0 m e1 hc.lR (Int.le_refl _) h0 h1;obtain ⟨h1,ev1⟩:=h.pE ((Below.refl _ w).alloc (Nat.le_refl _) (.cells (madeCells z.cells (m.toNat*sz)).toList.toArray e));obtain ⟨k1,k2,k3⟩:=h1.Av (id:=f) (c:=w.heap.size) (sz:=sz) (N:=0) (cap:=m.toNat) (t:=e) (z:=(0,0)) (els:=[]) rfl (λbk M hM=>by simp_all) (.inr λo hF=>absurd (h.fU _ _ hF) (Nat.lt_irrefl _)) (.inl h.dU.kX) (by simp)
      (λo hF=>absurd (h.fU _ _ hF) (Nat.lt_irrefl _)) (λid' hl hc=>absurd (h.eU _ _ hc) (Nat.lt_irrefl _)) (λid' t sz N N' _ _ hc=>absurd (h.gV _ _ _ hc) (Nat.lt_irrefl _)) (heap_alloc_new w _) (λo _=>by simp only;omega) (hml _) (Nat.zero_le _)
      (by simp) (λi x v hx=>by simp at hx) (λi x v hx=>by simp at hx)
     exact ⟨_,_,_,_,hrun, .inl rfl,k3.Cq,k1,ev1.gD k2⟩
    have mem:∀ (n m:Int),(∃ kl,aM σ l= .aa kl n)->(∃ kc,aM σ c= .aa kc m)->kZ zero=true->0<=n->n=m->pD m.toNat bytes->v= .aL f 0 sz n.toNat true->us=[(.af f, .aR e (eB n.toNat (iB zero)))]->gk P b σ us f D g a w ⟨dst, .makeSlice t l c,ty,pos,after,guard⟩ v:=by
     intro n m ⟨kl,e1⟩ ⟨kc,e2⟩ hpu h0 h1 h2 e3 e4;subst e3 e4 h1;rw [e1] at hl;rw [e2] at hc;have hrun:=run kl kc n n hl.lR hc.lR h0 (Int.le_refl _) h2;obtain ⟨k1,k2⟩:=h.Hk hf1 (t:=e) (cells:=eB n.toNat (iB zero)) (arr:=(madeCells z.cells (n.toNat*sz)).toList) (z:=(0,0)) (by grind [r8,rZ]) (λo _=>by simp only;omega)
      (λi x v hx hv=>by
       obtain ⟨g1,g2⟩:=EX _ _ _ _ hx;obtain ⟨y,hy,rfl⟩:=rY g1;rw [rZ] at hy g2;have hz0:(eB n.toNat zero)[i]? =some y:=by
        have hi:i<(eB n.toNat zero).length:=by rw [r8];exact g2
        obtain ⟨g3,_⟩:=EX n.toNat zero i _ (List.getElem?_eq_getElem hi);simp_all
       grind [tg,tf])
     refine ⟨_,_,_,_,hrun, .inl rfl, .kH (cf.mJ _ _ _) (λ_=>rfl) rfl (Nat.le_refl _) (λ_=>⟨rfl,rfl,e,?_⟩),k1,k2⟩;grind [World.shape?,heap_alloc_new]
    have fin:(match aM σ l,aM σ c with
      | .aa _ n, .aa _ m=>match kZ zero with
       |true=>jW.dJ (0<=n/\n=m/\pD m.toNat bytes) (.bP (.aL f 0 sz n.toNat true) [(.af f, .aR e (eB n.toNat (iB zero)))])
       |false=> .bD
      |_,_=> .bD:jW).fV v us->gk P b σ us f D g a w ⟨dst, .makeSlice t l c,ty,pos,after,guard⟩ v:=by
     intro hg;cases hL:aM σ l with
     |aa kl n=>
      cases hC:aM σ c with
      |aa kc m=>
       simp only [hL,hC] at hg;cases hp:kZ zero with
       |false=>simp only [hp] at hg;exact hg.elim
       |true=>
        simp only [hp] at hg;obtain ⟨⟨h0,h1,h2⟩,e1,e2⟩:=hg;simp_all
      |_=>simp only [hL,hC] at hg;exact hg.elim
     |_=>simp only [hL] at hg;exact hg.elim
    clear mem;cases hz:H2 l with
    |true=>
     simp only [hz] at hg;cases hC:aM σ c with
     |aa kc m=>
      simp only [hC] at hg;obtain ⟨⟨h0,h1⟩,e1,e2⟩:=hg;exact row0 m (YR hz a) ⟨kc,hC⟩ h0 h1 e1 e2
     |_=>simp_all
    |false=>
     grind
  |_=>exact hg.elim
end
section
variable {P:Program} {T:cN} {b:ek P} {σ:az} {D:Nat->Prop} {g:cf} {a:Act} {w:World}
structure K8 (P:Program) (w:World) (F:Nat->Nat->Prop) (sz:Nat) (xv:Value) (n:Nat) (src:List ae) (nv:List Value):Prop where
 Zd:(Builtin.lenOf xv).run P w= .ok n w
 Zh:src.length=n*sz
 Ze:nv.length=n*sz
 Zc:∀ m,m<=n->(Builtin.firstCells sz m xv).run P w= .ok (nv.take (m*sz)).toArray w
 Zg:∀ (i:Nat) (x:ae) (v:Value),src[i]? =some x->nv[i]? =some v->cb w F x v
 Zf:∀ u∈nv,u.oneCell'=true
theorem ZX (h:bh b σ D g w) {sz:Nat} {x:ae} {xv:Value} (hx:aF w g x xv) {k:Nat->List ae->jW} {v:ae} {us:List (aS×bs)} (hg:(Cz σ x k sz).fV v us):
  ∃ n src nv,K8 P w g.bJ sz xv n src nv/\(k n src).fV v us:=by
 unfold Cz at hg;cases x with
 |ai s=>
  simp only at hg;cases hb:Nat.beq sz 1 with
  |false=>simp only [hb] at hg;exact hg.elim
  |true=>
   simp only [hb] at hg;have e0:=Nat.eq_of_beq_eq_true hb;subst e0;obtain ⟨ba,rfl,q2⟩:=hx.qV;have hsz:ba.size=s.length:=by rw [<-q2];rfl
   refine ⟨s.length,cW s,s.map (λc=>Value.int .u8 (c.toNat:Int)),⟨by simp [Builtin.lenOf,hsz],by simp [cW],by simp,λm hm=>?_,λi x v hx hv=>?_,λu hu=>?_⟩,hg⟩
   ·simp only [Builtin.firstCells,Sem.run_pure];congr 1;grind [Array.toList_map,Px,List.map_take]
   ·obtain ⟨c,hc,rfl⟩:=Py hx;rw [List.getElem?_map,hc] at hv;simp at hv;subst hv;exact .fK _ _
   ·obtain ⟨c,_,rfl⟩:=List.mem_map.1 hu;rfl
 |ag isNil sz' els tk=>
  simp only at hg;obtain ⟨ad,c,rfl,hp,_⟩:=hx.jj;have go:∀ els:List (List ae),cb w g.bJ (.ag isNil sz els .av) (.slice ad els.length c)->∃ nv,K8 P w g.bJ sz (.slice ad els.length c) els.length els.flatten nv:=by
   intro els hp;obtain ⟨olds,o1,o2,o3,o4,o5,o6,o7⟩:=hp.KA;refine ⟨olds,by trivial,lA sz els o4,o1,λm hm=>?_,o5,o6⟩;have hle:m*sz<=els.length*sz:=Nat.mul_le_mul_right _ hm;have key:=Ct (w:=w) P (sz:=sz) (n:=m) (c:=c) (ad:=ad) (vs:=olds.take (m*sz)) (by simp_all) (λh0=>by
    grind) w rfl
   cases ad<;>simpa [Builtin.firstCells] using key
  cases hb:Nat.beq sz' sz with
  |true=>
   grind [Nat.eq_of_beq_eq_true]
  |false=>
   simp only [hb] at hg;obtain ⟨e0,hg⟩:=hg;grind [Hw]
 |aL id off sz' len full=>
  simp only at hg;cases hb:Nat.beq sz' sz with
  |false=>simp only [hb] at hg;exact hg.elim
  |true=>
   simp only [hb] at hg;have e0:=Nat.eq_of_beq_eq_true hb;subst e0;obtain ⟨c,cap,ad,q1,rfl,q3,q4,q5,q6⟩:=hx.mK;have go:∀ (cells src:List ae),off+len*sz'<=cells.length->src.length=len*sz'->(∃ vs:Nat->Value,(∀ j x,cells[j]? =some x->w.cell? ⟨c,j,none⟩=some (vs j))/\∀ i x,src[i]? =some x->(vs (off+i)).oneCell'=true/\cb w g.bJ x (vs (off+i)))->
     ∃ nv,K8 P w g.bJ sz' (.slice ad len cap) len src nv:=by
    intro cells src h1 h2 h3;obtain ⟨vs,h3,h4⟩:=h3;have hat:∀ (i:Nat) (v:Value),((List.range (len*sz')).map λi=>vs (off+i))[i]? =some v->v=vs (off+i)/\i<len*sz':=by
     grind
    refine ⟨(List.range (len*sz')).map λi=>vs (off+i),by trivial,h2,by simp,λm hm=>?_,λi x v hx hv=>?_,λu hu=>?_⟩
    ·have hle:m*sz'<=len*sz':=Nat.mul_le_mul_right _ hm;have key:=Ct (w:=w) P (sz:=sz') (n:=m) (c:=cap) (ad:=ad) (vs:=((List.range (len*sz')).map λi=>vs (off+i)).take (m*sz')) (by simp_all) (λh0=>by
      have hl0:0<len:=by
       grind
      refine ⟨c,off,q3 hl0,λi v hv=>?_⟩;rw [List.getElem?_take] at hv;split at hv
      ·obtain ⟨rfl,hi⟩:=hat i v hv;exact h3 (off+i) cells[off+i] (List.getElem?_eq_getElem om)
      ·cases hv) w rfl
     grind [Builtin.firstCells]
    ·grind
    ·obtain ⟨i,hi,rfl⟩:=List.getElem_of_mem hu;obtain ⟨e,hi'⟩:=hat i _ (List.getElem?_eq_getElem hi);simp_all
   cases hbk:σ (.af id) with
   |aR bt cells=>
    simp only [hbk] at hg;obtain ⟨⟨h1,h2⟩,hg⟩:=hg;obtain ⟨vs,hvs⟩:=h.EH hbk q1;obtain ⟨nv,hn⟩:=go cells ((cells.drop off).take (len*sz')) h1 (by grind) ⟨vs,λj x hx=>(hvs j x hx).1,λi x hx=>by
     have h3:=zb h2 i x hx;rw [List.getElem?_take] at hx;split at hx
     ·rw [List.getElem?_drop] at hx;exact ⟨te (.bC (hvs _ x hx).2) h3,(hvs _ x hx).2⟩
     ·cases hx⟩
    grind
   |au bt cells=>
    simp only [hbk] at hg;cases hp:kZ cells with
    |false=>simp only [hp] at hg;exact hg.elim
    |true=>
     simp only [hp] at hg;obtain ⟨h1,hg⟩:=hg;obtain ⟨vs,hvs⟩:=h.EF hbk q1;obtain ⟨nv,hn⟩:=go cells (iB ((cells.drop off).take (len*sz'))) h1 (by grind [rZ]) ⟨vs,λj x hx=>(hvs j x hx).1,λi x hx=>by
      grind [rY,tf,te,KR,tg]⟩
     grind
   |_=>simp only [hbk] at hg;exact hg.elim
 |_=>exact hg.elim
theorem Q3 {R:ae->Value->Prop} {cells src:List ae} {arr nv:List Value} {off:Nat} (hle:off+src.length<=cells.length) (hal:cells.length<=arr.length) (hlen:src.length=nv.length)
  (h1:∀ (i:Nat) (x:ae) (v:Value),cells[i]? =some x->arr[i]? =some v->R x v) (h2:∀ (i:Nat) (x:ae) (v:Value),src[i]? =some x->nv[i]? =some v->R x v) (i:Nat) (x:ae) (v:Value)
  (hx:(cells.take off++src++cells.drop (off+src.length))[i]? =some x) (hv:(arr.take off++nv++arr.drop (off+nv.length))[i]? =some v):R x v:=by
 grind
theorem ZA (hT:dA P T) (h:bh b σ D g w) {t tx ty:TypeId} {d x:ae} {dv xv:Value} (hd:aF w g d dv) (hx:aF w g x xv) {v:ae} {us:List (aS×bs)} (hg:(CC σ T t d x).fV v us):
  ∃ val w',(Builtin.copy_ #[t,tx] ty #[dv,xv]).run P w= .ok val w'/\aF w' g v val/\bh b (eG σ us) D g w'/\dp g w g w':=by
 simp only [CC,cY] at hg;cases hr:cP T t with
 |none=>simp only [hr] at hg;exact hg.elim
 |some r=>
  have hrow:=(hT t _ hr).1;obtain ⟨ti,n0,b0,z0⟩:=r;simp only [hr] at hg hrow;cases ti with
  |dK e=>
   simp only at hg hrow;cases he:cP T e with
   |none=>simp only [he] at hg;exact hg.elim
   |some r=>
    have hsz:=xE hT he;obtain ⟨tie,sz,bytes,ze⟩:=r;simp only [he] at hg hsz;obtain ⟨n,src,nv,hs,hq⟩:=ZX (P:=P) h hx hg;clear hg;cases d with
    |aL id off sz' len full=>
     simp only at hq;cases hb:Nat.beq sz' sz with
     |false=>simp only [hb] at hq;exact hq.elim
     |true=>
      simp only [hb] at hq;have e0:=Nat.eq_of_beq_eq_true hb;subst e0;obtain ⟨c,cap,ad,q1,rfl,q3,q4,q5,q6⟩:=hd.mK;obtain ⟨ad',rfl⟩:=Option.isSome_iff_exists.1 q4;have hnl:(nv.take (min n len*sz')).length=min n len*sz':=by
       grind [hs.Ze,Nat.mul_le_mul_right]
      have hsl:(src.take (min n len*sz')).length=min n len*sz':=by
       grind [hs.Zh,Nat.mul_le_mul_right]
      have hml:min n len*sz'<=len*sz':=Nat.mul_le_mul_right _ (Nat.min_le_right _ _);have run:∀ w',(storeCells ad' (nv.take (min n len*sz')) 0).run P w= .ok () w'->(Builtin.copy_ #[t,tx] ty #[.slice (some ad') len cap,xv]).run P w= .ok (.int .i64 ((min n len:Nat):Int)) w':=by
       intro w' hst;have hc:=hs.Zc (min n len) (Nat.min_le_left _ _);have hl:=hs.Zd;simp only [Builtin.copy_,List.getElem?_toArray,List.getElem?_cons_zero,List.getElem?_cons_succ,Sem.run_bind,run_underlying hrow,Result.andThen_ok,hl,hsz,Nat.min_def] at hc ⊢;grind [Result.andThen_ok,Sem.run_pure,goInt]
      have hsrep:∀ (i:Nat) (x:ae) (v:Value),(src.take (min n len*sz'))[i]? =some x->(nv.take (min n len*sz'))[i]? =some v->cb w g.bJ x v:=by
       intro i x v hx hv;rw [List.getElem?_take] at hx hv;split at hx
       ·rename_i hi;rw [if_pos hi] at hv;exact hs.Zg i x v hx hv
       ·cases hx
      have hone:∀ u∈nv.take (min n len*sz'),u.oneCell'=true:=λu hu=>hs.Zf u (List.mem_of_mem_take hu)
      have store:∀ (arr:List Value) (bt:TypeId) (z:Nat×Nat),w.heap[c]? =some (.cells arr.toArray bt z)->off+len*sz'<=arr.length->(∀ o,o<arr.length->¬(z.1<=o/\o<z.2))->
        ∃ w',(storeCells ad' (nv.take (min n len*sz')) 0).run P w= .ok () w'/\kj c w w'/\w'.heap[c]? =some (.cells (arr.take off++nv.take (min n len*sz')++arr.drop (off+(nv.take (min n len*sz')).length)).toArray bt z):=by
       intro arr bt z h1 h2 h3;rcases Nat.eq_zero_or_pos len with h0|h0
       ·have h00:min n len*sz'=0:=by rw [h0];simp
        rw [h00];exact ⟨w,by simp [storeCells],⟨rfl,rfl,rfl,rfl,λ_ _=>rfl,rfl,λ_ h=>h,rfl⟩,by simp [h1]⟩
       ·have e:=q3 h0;cases e;obtain ⟨w',r1,r2,r3⟩:=AG (P:=P) c (nv.take (min n len*sz')) off 0 arr w h1 om h3 hone;simp_all
      cases hbk:σ (.af id) with
      |aR bt cells=>
       simp only [hbk] at hq;obtain ⟨h1,e1,e2⟩:=hq;subst e1 e2;obtain ⟨arr,z,m1,m2,m3,m4⟩:=h.oN id bt cells c hbk q1;obtain ⟨w',r1,r2,r3⟩:=store arr bt z m1 om m3;obtain ⟨k1,k2⟩:=h.j8 (X:= .aR bt (cells.take off++src.take (min n len*sz')++cells.drop (off+min n len*sz'))) (by rw [hbk];rfl) q1 r2 (λ_=>by
        have hE:dp g w g w':=dp.pC r2 (λo=>by obtain ⟨c',p1,_,_,p2⟩:=h.dq id (by rw [hbk];rfl);simp_all);refine ⟨_,z,r3,by simp;omega,λo ho=>m3 o (by simp at ho;omega),λi y u hy hu=>?_⟩;refine cb.eO hE.ee (Q3 (R:=cb w g.bJ) (cells:=cells) (src:=src.take (min n len*sz')) (arr:=arr) (nv:=nv.take (min n len*sz')) (off:=off) om m2 om m4 hsrep i y u ?_ hu);rw [hsl];exact hy)
       exact ⟨_,w',run w' r1, .bC (.fK _ _),k1,k2⟩
      |au bt cells=>
       simp only [hbk] at hq;obtain ⟨h1,e1,e2⟩:=hq;subst e1 e2;obtain ⟨arr,m1,m2,m4⟩:=h.nS id bt cells c hbk q1;obtain ⟨w',r1,r2,r3⟩:=store arr bt (0,0) m1 om (λo _=>by simp only;omega);obtain ⟨k1,k2⟩:=h.j8 (X:= .au bt (cells.take off++src.take (min n len*sz')++cells.drop (off+min n len*sz'))) (by rw [hbk];rfl) q1 r2 (λ_=>by
        have hE:dp g w g w':=dp.pC r2 (λo=>by obtain ⟨c',p1,_,_,p2⟩:=h.dq id (by rw [hbk];rfl);simp_all);refine ⟨_,r3,by simp_all,λi y u hy hu=>?_⟩;refine aF.kG hE (Q3 (R:=aF w g) (cells:=cells) (src:=src.take (min n len*sz')) (arr:=arr) (nv:=nv.take (min n len*sz')) (off:=off) om om om m4 (λi x v hx hv=> .bC (hsrep i x v hx hv)) i y u ?_ hu);rw [hsl];exact hy)
       exact ⟨_,w',run w' r1, .bC (.fK _ _),k1,k2⟩
      |_=>simp only [hbk] at hq;exact hq.elim
    |_=>exact hq.elim
  |_=>exact hg.elim
end
section
variable {P:Program} {T:cN} {b:ek P} {σ:az} {D:Nat->Prop} {g:cf} {a:Act} {w:World}
theorem ZP (hT:dA P T) (h:bh b σ D g w) {f:Nat} (hf:g.aZ f=none) {t:TypeId} {x:Operand} {us:List (aS×bs)} {v:ae} {dst ty pos after guard}
  (hg:(df P T σ f ⟨dst, .range t x,ty,pos,after,guard⟩).fV v us) (hx:aF w g (aM σ x) (a.eval x)):gk P b σ us f D g a w ⟨dst, .range t x,ty,pos,after,guard⟩ v:=by
 simp only [df,cY] at hg;cases hX:aM σ x with
 |ai s=>
  simp only [hX] at hg;rw [hX] at hx;obtain ⟨sb,e,hs⟩:=hx.qV;cases hr:cP T t with
  |none=>simp only [hr] at hg;exact hg.elim
  |some r=>
   have hrow:=(hT t _ hr).1;obtain ⟨ti,n0,b0,z0⟩:=r;simp only [hr] at hg hrow;cases ti with
   |fF=>
    obtain ⟨e1,e2⟩:=hg;subst e1 e2;obtain ⟨k1,k2⟩:=h.EI hf (X:= .iR s 0) rfl (.stringIter sb 0) (λg' w' _ hh _=>⟨sb,hh,hs⟩);refine ⟨_, .pointer (some ⟨w.heap.size,0,none⟩),_,_,?_, .inl rfl, .qS (cf.mJ _ _ _),k1,k2⟩;simp only [execOp,Sem.run_bind,e,run_range_string w t sb hrow,Result.andThen_ok,Sem.run_pure];rfl
   |_=>exact hg.elim
 |_=>simp only [hX] at hg;exact hg.elim
theorem ZL (h:bh b σ D g w) {f:Nat} {x:Operand} {str:Bool} {us:List (aS×bs)} {v:ae} {dst ty pos after guard}
  (hg:(df P T σ f ⟨dst, .next x str,ty,pos,after,guard⟩).fV v us) (hx:aF w g (aM σ x) (a.eval x)):gk P b σ us f D g a w ⟨dst, .next x str,ty,pos,after,guard⟩ v:=by
 simp only [df] at hg;cases str with
 |false=>trivial
 |true=>
  cases hX:aM σ x with
  |cz id=>
   simp only [hX] at hg;rw [hX] at hx;obtain ⟨c,hc,e⟩:=hx.Hm;cases hs:σ (.af id) with
   |iR s p=>
    simp only [hs] at hg;obtain ⟨q,hq,hg⟩:=hg;obtain ⟨sb,hh,hsb⟩:=h.EG id s p c hs hc;have hsz:sb.size=s.length:=by rw [<-hsb];rfl
    have hbe:(⟨s.toArray⟩:ByteArray)=sb:=by cases sb with|mk d=>congr 1;grind
    rw [hbe] at hg;cases q with
    |false=>
     obtain ⟨e1,e2⟩:=hg;subst e1 e2;have hn:¬p<sb.size:=by simp_all
     refine gk.fq h (val:= .tuple #[.bool false]) ?_ (.jN (vs:=[_]) rfl (λi x v h1 h2=>?_))
     ·simp [execOp,e,Instr.next,getObj,Sem.run,hh,hn]
     ·match i,h1,h2 with
      |0,h1,h2=>cases h1;cases h2;exact .bC .qj
      |i+1,h1,_=>cases h1
    |true=>
     obtain ⟨e1,e2⟩:=hg;subst e1 e2;have hn:p<sb.size:=by simp_all
     have hlt:c<w.heap.size:=(Array.getElem?_eq_some_iff.1 hh).1
     let w':World:={w with heap:=w.heap.setIfInBounds c (.stringIter sb (p+(Utf8.decode sb p).2))}
     have hh':w'.heap[c]? =some (.stringIter sb (p+(Utf8.decode sb p).2)):=by simp [w',hlt]
     have hw:kj c w w':=⟨rfl,rfl,rfl,by simp [w'],λk hk=>by grind,by grind [World.shape?],λds hd=>(by simp_all),rfl⟩;obtain ⟨k1,k2⟩:=h.j8 (X:= .iR s (p+(Utf8.decode sb p).2)) (by rw [hs];rfl) hc hw (λ_=>⟨sb,hh',hsb⟩);refine ⟨_, .tuple #[.bool true, .int .i64 p, .int .i32 (Utf8.decode sb p).1],w',g,?_, .inl rfl, .jN (vs:=[_,_,_]) rfl (λi x v h1 h2=>?_),k1.iU (λ_ hi=> .inl hi),k2⟩
     ·simp [execOp,e,Instr.next,getObj,setObj,Sem.run,hh,hn,Result.andThen,goInt,w']
     ·match i,h1,h2 with
      |0,h1,h2=>cases h1;cases h2;exact .bC .rS
      |1,h1,h2=>cases h1;cases h2;exact .bC (.fK _ _)
      |2,h1,h2=>cases h1;cases h2;exact .bC (.fK _ _)
      |i+3,h1,_=>cases h1
   |_=>simp only [hs] at hg;exact hg.elim
  |_=>simp only [hX] at hg;exact hg.elim
theorem Q9 (hT:dA P T) {t:TypeId} {ti:y8} {n0 b0:Nat} {zero:List ae} (hr:cP T t=some ⟨ti,n0,b0,zero⟩) {q:Bool} {x:ae} (hz:xF ti zero=some (q,x)) (hq:HW P t=some q):∃ z,(zeroValue t).run P w= .ok z w/\aF w g x z:=by
 obtain ⟨i,z,h1,h2,h3,h4,h5,h6,h7,h8⟩:=lz.pG hT hr;refine ⟨z,by simp [zeroValue,typeInfo,h1,h2],?_⟩;simp only [HW,h1,h2] at hq;have agg:q=true->x= .aK zero->aF w g x z:=by
  intro e1 e2;subst e1 e2;cases z with
  |agg cs=>
   refine .nT (vs:=cs.toList) (by grind [Value.cells]) (λj y v hy hv=>h7 w g j y v hy (by trivial))
  |_=>simp at hq
 have one:q=false->zero=[x]->aF w g x z:=by
  intro e1 e2;subst e1;have hc:z.cells=#[z]:=by grind
  refine h7 w g 0 x z (by rw [e2];rfl) ?_;rw [hc];rfl
 cases ti with
 |bO fs=>grind [xF]
 |e7 n e=>grind [xF]
 |_=>
  match zero,hz with
  |[y],hz=>grind [xF]
  |[],hz=>simp [xF] at hz
  |_::_::_,hz=>simp [xF] at hz
theorem Z4 (hT:dA P T) (h:bh b σ D g w) {f:Nat} {x:Operand} {xt at_:TypeId} {ok:Bool} {us:List (aS×bs)} {v:ae} {dst ty pos after guard}
  (hg:(df P T σ f ⟨dst, .typeAssert x xt at_ ok,ty,pos,after,guard⟩).fV v us) (hx:aF w g (aM σ x) (a.eval x)):gk P b σ us f D g a w ⟨dst, .typeAssert x xt at_ ok,ty,pos,after,guard⟩ v:=by
 simp only [df,cY] at hg;cases hr:cP T at_ with
 |none=>simp only [hr] at hg;exact hg.elim
 |some r=>
  have hrow:=(hT at_ _ hr).1;obtain ⟨ti,n0,b0,zero⟩:=r;simp only [hr] at hg hrow;have two:∀ {y:ae} {u:Value} {p:Bool},aF w g y u->aF w g (.aw [y,match p with|true=> .bN|false=> .bo]) (.tuple #[u, .bool p]):=fun {y u p} hy=> .jN (vs:=[_,_]) rfl (λi z v h1 h2=>by
   match i,h1,h2 with
   |0,h1,h2=>simp_all
   |1,h1,h2=>cases h1;cases h2;cases p<;>first|exact .bC .rS|exact .bC .qj
   |i+2,h1,_=>cases h1)
  have fin:(∃ d,P.underlying at_=some d/\∀ ms,d≠ .interface ms)->(KK P ti zero at_ ok (aM σ x)).fV v us->gk P b σ us f D g a w ⟨dst, .typeAssert x xt at_ ok,ty,pos,after,guard⟩ v:=by
   rintro ⟨d,hd,hni⟩ hg;have fails:∀ {u:Value},a.eval x=u->(u= .nilIface\/∃ t y,u= .iface t y/\t≠at_)->(Hx P ti zero at_ ok).fV v us->gk P b σ us f D g a w ⟨dst, .typeAssert x xt at_ ok,ty,pos,after,guard⟩ v:=by
    intro u hu hne hg;cases ok with
    |false=>exact hg.elim
    |true=>
     simp only [Hx] at hg;cases hz:xF ti zero with
     |none=>simp only [hz] at hg;exact hg.elim
     |some qz=>
      obtain ⟨q,z⟩:=qz;simp only [hz] at hg;obtain ⟨hq,e1,e2⟩:=hg;subst e1 e2;obtain ⟨zv,z1,z2⟩:=Q9 (w:=w) (g:=g) hT hr hz hq;refine gk.fq h (val:= .tuple #[zv, .bool false]) ?_ (two (p:=false) z2);rcases hne with rfl|⟨t,y,rfl,hne⟩
      ·cases d<;>first|exact absurd rfl (hni _)|simp [execOp,hu,Instr.typeAssert,run_underlying hd,z1]
      ·cases d<;>first|exact absurd rfl (hni _)|simp [execOp,hu,Instr.typeAssert,run_underlying hd,z1,hne]
   cases hX:aM σ x with
   |cm t y=>
    rw [hX] at hg hx;obtain ⟨u,e,hu⟩:=hx.Ay;simp only [KK] at hg;cases hb:Nat.beq t at_ with
    |true=>
     have ht:t=at_:=Nat.eq_of_beq_eq_true hb;subst ht;cases ok with
     |true=>
      simp only [hb] at hg;obtain ⟨e1,e2⟩:=hg;subst e1 e2;refine gk.fq h (val:= .tuple #[u, .bool true]) ?_ (two (p:=true) hu);cases d<;>first|exact absurd rfl (hni _)|simp [execOp,e,Instr.typeAssert,run_underlying hd]
     |false=>
      simp only [hb] at hg;obtain ⟨e1,e2⟩:=hg;subst e1 e2;refine gk.fq h (val:=u) ?_ hu;cases d<;>first|exact absurd rfl (hni _)|simp [execOp,e,Instr.typeAssert,run_underlying hd]
    |false=>
     simp only [hb] at hg;exact fails e (.inr ⟨t,u,rfl,λht=>by simp_all⟩) hg
   |cq=>
    rw [hX] at hg hx;exact fails hx.Cp (.inl rfl) hg
   |_=>rw [hX] at hg;exact hg.elim
  cases ti with
  |fB=>exact hg.elim
  |im=>exact hg.elim
  |eP k=>simp_all
  |ij=>simp_all
  |fF=>simp_all
  |dK e=>simp_all
  |e7 n e=>simp_all
  |bO fs=>grind
  |e8 e=>simp_all
  |il=>grind
  |gE=>grind
end
section
variable {P:Program} {T:cN} {b:ek P} {σ:az} {D:Nat->Prop} {g:cf} {a:Act} {w:World}
theorem QU:∀ (xs:List Operand) (i:Nat) (x:ae),(dQ σ xs)[i]? =some x->∃ o,xs[i]? =some o/\x=aM σ o
 |[],i,x,h=>by simp [dQ] at h
 |o::xs,0,x,h=>by grind [dQ]
 |o::xs,i+1,x,h=>QU xs i x (by trivial)
theorem qu:∀ (xs:List Operand),(dQ σ xs).length=xs.length
 |[]=>rfl
 |_::xs=>by simp [dQ,qu xs]
theorem uN {xs:Array Operand} (h:∀ x∈xs,aF w g (aM σ x) (a.eval x)) (i:Nat) (y:ae) (v:Value) (hy:(dQ σ xs.toList)[i]? =some y) (hv:(xs.map a.eval).toList[i]? =some v):aF w g y v:=by
 grind [QU]
theorem ZI (h:bh b σ D g w) {f fn:Nat} {first captured:Array Operand} {us:List (aS×bs)} {v:ae} {dst ty pos after guard}
  (hg:(df P T σ f ⟨dst, .makeFunc (.func fn) first captured,ty,pos,after,guard⟩).fV v us) (hop:∀ x∈(Op.makeFunc (.func fn) first captured).operands,aF w g (aM σ x) (a.eval x)):
  gk P b σ us f D g a w ⟨dst, .makeFunc (.func fn) first captured,ty,pos,after,guard⟩ v:=by
 obtain ⟨e1,e2⟩:=hg;subst e1 e2;refine gk.fq h (val:= .func (.func fn) (first.map a.eval).toList.toArray (captured.map a.eval).toList.toArray) ?_ (.rU (by rw [qu];simp) (by rw [qu];simp) (λi x u h1 h2=>uN (λx hx=>hop x (by simp [Op.operands,hx])) i x u h1 h2)
  (λi x u h1 h2=>uN (λx hx=>hop x (by simp [Op.operands,hx])) i x u h1 h2))
 trivial
theorem ZJ (hT:dA P T) (h:bh b σ D g w) {f:Nat} {t:TypeId} {x:Operand} {us:List (aS×bs)} {v:ae} {dst ty pos after guard}
  (hg:(df P T σ f ⟨dst, .makeInterface t x,ty,pos,after,guard⟩).fV v us) (hx:aF w g (aM σ x) (a.eval x)):gk P b σ us f D g a w ⟨dst, .makeInterface t x,ty,pos,after,guard⟩ v:=by
 simp only [df,cY] at hg;cases hr:cP T t with
 |none=>simp only [hr] at hg;exact hg.elim
 |some r=>
  have hrow:=(hT t _ hr).1;obtain ⟨ti,n0,b0,z0⟩:=r;simp only [hr] at hg hrow;have fin:(∃ d,P.underlying t=some d/\∀ ms,d≠ .interface ms)->v= .cm t (aM σ x)->us=[]->gk P b σ us f D g a w ⟨dst, .makeInterface t x,ty,pos,after,guard⟩ v:=by
   intro ⟨d,h1,h2⟩ e1 e2;subst e1 e2;refine gk.fq h (val:= .iface t (a.eval x)) ?_ (.rV hx);cases d<;>first|(exact absurd rfl (h2 _))|simp [execOp,Instr.makeInterface,run_underlying h1]
  cases ti with
  |fB=>exact hg.elim
  |im=>exact hg.elim
  |bO fs=>obtain ⟨_,_,h1,_⟩:=hrow;exact fin ⟨_,h1,by simp⟩ hg.1 hg.2
  |il=>obtain ⟨_,_,_,h1⟩:=hrow;exact fin ⟨_,h1,by simp⟩ hg.1 hg.2
  |gE=>obtain ⟨_,_,h1⟩:=hrow;exact fin ⟨_,h1,by simp⟩ hg.1 hg.2
  |_=>exact fin ⟨_,hrow,by simp⟩ hg.1 hg.2
theorem ZQ {bt:Builtin} {c:Call} {t:TypeId} (hc:c.callee= .builtin bt):resolve a.eval c t=pure {target:= .builtin bt c.argTypes t (c.args.map fun| .const _=>true|_=>false),args:=c.args.map a.eval}:=by
 grind [resolve]
theorem tl {bt:Builtin} {c:Call} {dst ty pos after guard} {w':World} {val:Value} (hc:c.callee= .builtin bt) (h:(builtin bt c.argTypes ty (c.args.map fun| .const _=>true|_=>false) (c.args.map a.eval)).run P w= .ok (.value val) w'):
  (execOp a.eval ⟨dst, .call c,ty,pos,after,guard⟩).run P w= .ok (.value val) w':=by
 simp only [execOp,ZQ hc,Sem.run_bind,Sem.run_pure,Result.andThen_ok,invoke];exact h
theorem QQ {mx:Bool} {xs:List ae} {v:ae} (h:qX mx xs=some v) {vs:List Value} (hl:vs.length=xs.length) (hr:∀ (i:Nat) (x:ae) (u:Value),xs[i]? =some x->vs[i]? =some u->aF w g x u):
  ∃ val,(match mx with|true=>Builtin.max_ #[] 0 vs.toArray|false=>Builtin.min_ #[] 0 vs.toArray:Sem Value).run P w= .ok val w/\aF w g v val:=by
 match xs,vs with
 |[],_=>simp [qX] at h
 |[x],[u]=>
  cases x with
  |aa k n=>
   simp only [qX,Option.some.injEq] at h;subst h;have e:=(hr 0 _ u rfl rfl).lR;subst e;cases mx<;>exact ⟨_,by trivial, .bC (.fK _ _)⟩
  |_=>simp [qX] at h
 |[x,y],[u,z]=>
  cases x with
  |aa k n=>
   cases y with
   |aa j m=>
    simp only [qX] at h;cases hk:r7 k j with
    |false=>simp [hk] at h
    |true=>
     simp only [hk,Option.some.injEq] at h;subst h;have e1:=(hr 0 _ u rfl rfl).lR;have e2:=(hr 1 _ z rfl rfl).lR;subst e1 e2;cases mx
     ·refine ⟨.int k (min n m),?_, .bC (.fK _ _)⟩;grind [Builtin.min_,Builtin.min2,Sem.run_pure]
     ·refine ⟨.int k (max n m),?_, .bC (.fK _ _)⟩;grind [Builtin.max_,Builtin.max2,Sem.run_pure]
   |_=>simp [qX] at h
  |_=>simp [qX] at h
 |[x,y,z],[u1,u2,u3]=>
  cases x with
  |aa k n=>
   cases y with
   |aa j m=>
    cases z with
    |aa l q=>
     simp only [qX] at h;cases hk:r7 k j with
     |false=>simp [hk] at h
     |true=>
      cases hk2:r7 k l with
      |false=>simp [hk,hk2] at h
      |true=>
       simp only [hk,hk2,Option.some.injEq] at h;subst h;have e1:=(hr 0 _ u1 rfl rfl).lR;have e2:=(hr 1 _ u2 rfl rfl).lR;have e3:=(hr 2 _ u3 rfl rfl).lR;subst e1 e2 e3;cases mx
       ·refine ⟨.int k (min (min n m) q),?_, .bC (.fK _ _)⟩;grind [Builtin.min_,Builtin.min2,Sem.run_pure]
       ·refine ⟨.int k (max (max n m) q),?_, .bC (.fK _ _)⟩;grind [Builtin.max_,Builtin.max2,Sem.run_pure]
    |_=>simp [qX] at h
   |_=>trivial
  |_=>trivial
 |x::y::z::q::r,_=>simp [qX] at h
 |[_,_,_],[]=>simp at hl
 |[_,_,_],[_]=>simp at hl
 |[_,_,_],[_,_]=>simp at hl
 |[_,_,_],_::_::_::_::_=>simp at hl
 |[_],[]=>simp at hl
 |[_],_::_::_=>simp at hl
 |[_,_],[]=>simp at hl
 |[_,_],[_]=>simp at hl
 |[_,_],_::_::_::_=>simp at hl
theorem Qq {xs:Array Operand} {x y:ae} (h:dQ σ xs.toList=[x,y]):∃ p q,xs=#[p,q]/\x=aM σ p/\y=aM σ q:=by
 obtain ⟨l⟩:=xs
 match l with
 |[]=>simp [dQ] at h
 |[p]=>simp [dQ] at h
 |[p,q]=>grind [dQ]
 |p::q::r::l=>simp [dQ] at h
theorem Zw {xs:Array Operand} {x:ae} (h:dQ σ xs.toList=[x]):∃ p,xs=#[p]/\x=aM σ p:=by
 obtain ⟨l⟩:=xs
 match l with
 |[]=>simp [dQ] at h
 |[p]=>grind [dQ]
 |p::q::l=>simp [dQ] at h
theorem Zy (hT:dA P T) (h:bh b σ D g w) {f:Nat} (hf1:g.aZ f=none) (hf2:g.cu f=none) {bt:Builtin} {c:Call} (hc:c.callee= .builtin bt) {us:List (aS×bs)} {v:ae} {dst ty pos after guard}
  (hg:(CB P σ T f ⟨dst, .call c,ty,pos,after,guard⟩ bt c.argTypes.toList (dQ σ c.args.toList)).fV v us) (hop:∀ x∈(Op.call c).operands,aF w g (aM σ x) (a.eval x)):
  gk P b σ us f D g a w ⟨dst, .call c,ty,pos,after,guard⟩ v:=by
 have harg:∀ x∈c.args,aF w g (aM σ x) (a.eval x):=λx hx=>hop x (by simp [Op.operands,Call.operands,hx])
 unfold CB at hg;split at hg
 ·
  rename_i t x heq1 heq2;obtain ⟨p,hp,rfl⟩:=Zw heq2;have hat:c.argTypes=#[t]:=by grind
  have hx:=harg p (by rw [hp];simp);simp only [cY] at hg;have run:∀ {r:Value},(Builtin.len_ #[t] ty #[a.eval p]).run P w= .ok r w->(execOp a.eval ⟨dst, .call c,ty,pos,after,guard⟩).run P w= .ok (.value r) w:=by
   grind [tl,builtin,Sem.run_bind,Result.andThen_ok,Sem.run_pure]
  cases hr:cP T t with
  |none=>simp only [hr] at hg;exact hg.elim
  |some r=>
   have hrow:=(hT t _ hr).1;obtain ⟨ti,n0,b0,z0⟩:=r;simp only [hr] at hg hrow;cases ti with
   |e7 n e=>
    simp only at hg hrow;obtain ⟨e1,e2⟩:=hg;subst e1 e2;refine gk.fq h (run (r:= .int .i64 (n:Int)) ?_) (.bC (.fK _ _));simp [Builtin.len_,run_underlying hrow,goInt]
   |fF=>
    simp only at hg hrow;cases hX:aM σ p with
    |ai s=>
     simp only [hX] at hg;obtain ⟨e1,e2⟩:=hg;subst e1 e2;rw [hX] at hx;obtain ⟨ba,q1,q2⟩:=hx.qV;have hsz:ba.size=s.length:=by rw [<-q2];rfl
     refine gk.fq h (run (r:= .int .i64 (s.length:Int)) ?_) (.bC (.fK _ _));simp [Builtin.len_,run_underlying hrow,goInt,q1,hsz]
    |_=>simp only [hX] at hg;exact hg.elim
   |dK e=>
    simp only at hg hrow;cases hX:aM σ p with
    |ag isNil sz els tk=>
     simp only [hX] at hg;obtain ⟨e1,e2⟩:=hg;subst e1 e2;rw [hX] at hx;obtain ⟨ad,cc,q1,_⟩:=hx.jj;refine gk.fq h (run (r:= .int .i64 (els.length:Int)) ?_) (.bC (.fK _ _));simp [Builtin.len_,run_underlying hrow,goInt,q1]
    |aL id off sz n full=>
     simp only [hX] at hg;obtain ⟨e1,e2⟩:=hg;subst e1 e2;rw [hX] at hx;obtain ⟨cc,cap,ad,_,q1,_⟩:=hx.mK;refine gk.fq h (run (r:= .int .i64 (n:Int)) ?_) (.bC (.fK _ _));simp [Builtin.len_,run_underlying hrow,goInt,q1]
    |_=>simp only [hX] at hg;exact hg.elim
   |_=>exact hg.elim
 ·
  rename_i t tx s x heq1 heq2;obtain ⟨p,q,hp,rfl,rfl⟩:=Qq heq2;have hat:c.argTypes=#[t,tx]:=by grind
  obtain ⟨val,w',g',k1,k2,k3,k4⟩:=Zv (ty:=ty) hT h hf1 hf2 (harg p (by rw [hp];simp)) (harg q (by rw [hp];simp)) hg;refine ⟨_,val,w',g',tl hc ?_, .inl rfl,k2,k3,k4⟩;grind [builtin,Sem.run_bind,Result.andThen_ok,Sem.run_pure]
 ·
  rename_i t tx s x heq1 heq2;obtain ⟨p,q,hp,rfl,rfl⟩:=Qq heq2;have hat:c.argTypes=#[t,tx]:=by grind
  obtain ⟨val,w',k1,k2,k3,k4⟩:=ZA (tx:=tx) (ty:=ty) hT h (harg p (by rw [hp];simp)) (harg q (by rw [hp];simp)) hg;refine ⟨_,val,w',g,tl hc ?_, .inl rfl,k2,k3.iU (λ_ hi=> .inl hi),k4⟩;grind [builtin,Sem.run_bind,Result.andThen_ok,Sem.run_pure]
 ·
  cases hm:qX false (dQ σ c.args.toList) with
  |none=>simp only [hm] at hg;exact hg.elim
  |some y=>
   simp only [hm] at hg;obtain ⟨e1,e2⟩:=hg;subst e1 e2;obtain ⟨val,k1,k2⟩:=QQ (P:=P) (w:=w) (g:=g) hm (vs:=(c.args.map a.eval).toList) (by rw [qu];simp) (uN harg);refine gk.fq h (tl hc ?_) k2;simp only [builtin,Sem.run_bind,Builtin.min_] at k1 ⊢;rw [k1];simp
 ·
  cases hm:qX true (dQ σ c.args.toList) with
  |none=>simp only [hm] at hg;exact hg.elim
  |some y=>
   simp only [hm] at hg;obtain ⟨e1,e2⟩:=hg;subst e1 e2;obtain ⟨val,k1,k2⟩:=QQ (P:=P) (w:=w) (g:=g) hm (vs:=(c.args.map a.eval).toList) (by rw [qu];simp) (uN harg);refine gk.fq h (tl hc ?_) k2;simp only [builtin,Sem.run_bind,Builtin.max_] at k1 ⊢;rw [k1];simp
 grind [xD]
theorem Q4 (hT:dA P T) (h:bh b σ D g w) {f:Nat} (hf1:g.aZ f=none) (hf2:g.cu f=none) {o:Oper} {us:List (aS×bs)} {v:ae} (hg:(df P T σ f o).fV v us) (hop:∀ x∈o.op.operands,aF w g (aM σ x) (a.eval x)):
  gk P b σ us f D g a w o v:=by
 obtain ⟨dst,op,ty,pos,after,guard⟩:=o;cases op with
 |move x=>obtain ⟨e1,e2⟩:=hg;subst e1 e2;exact gk.fq h (val:=a.eval x) (by simp [execOp]) (hop x (by simp [Op.operands]))
 |assign x=>obtain ⟨e1,e2⟩:=hg;subst e1 e2;exact gk.fq h (val:=a.eval x) (by simp [execOp]) (hop x (by simp [Op.operands]))
 |pick c x y=>
  have hc:=hop c (by simp [Op.operands]);simp only [df] at hg;cases hC:aM σ c with
  |bN=>
   simp only [hC] at hg;obtain ⟨e1,e2⟩:=hg;subst e1 e2;rw [hC] at hc;exact gk.fq h (val:=a.eval x) (by simp [execOp,asBool,hc.xw]) (hop x (by simp [Op.operands]))
  |bo=>
   simp only [hC] at hg;obtain ⟨e1,e2⟩:=hg;subst e1 e2;rw [hC] at hc;exact gk.fq h (val:=a.eval y) (by simp [execOp,asBool,hc.xr]) (hop y (by simp [Op.operands]))
  |aE q=>
   simp only [hC] at hg;rw [hC] at hc;have hx:=hop x (by simp [Op.operands]);have hy:=hop y (by simp [Op.operands]);cases h1:nV (aM σ x) with
   |none=>simp only [h1] at hg;exact hg.elim
   |some p=>
    cases h2:nV (aM σ y) with
    |none=>simp only [h1,h2] at hg;exact hg.elim
    |some r=>
     simp only [h1,h2] at hg;obtain ⟨e1,e2⟩:=hg;subst e1 e2;have ex:=Cs hx h1;have ey:=Cs hy h2;cases q with
     |true=>exact gk.fq h (val:=a.eval x) (by simp [execOp,asBool,hc.s9]) (by rw [ex];exact .bC (.nh _))
     |false=>exact gk.fq h (val:=a.eval y) (by simp [execOp,asBool,hc.s9]) (by rw [ey];exact .bC (.nh _))
  |_=>simp only [hC] at hg;exact hg.elim
 |alloc t=>
  simp only [df,cY] at hg;cases hr:cP T t with
  |none=>simp only [hr] at hg;exact hg.elim
  |some r=>simp only [hr] at hg;obtain ⟨e1,e2⟩:=hg;grind [Yi]
 |box t x=>
  simp only [df] at hg;cases hr:xy (aM σ x) with
  |none=>simp only [hr] at hg;exact hg.elim
  |some r=>simp only [hr] at hg;obtain ⟨e1,e2⟩:=hg;grind [Ym,Op.operands]
 |build t ps=>exact Yo hT h hg (λp hp=>hop p.2 (by grind [Op.operands]))
 |buildSlice t n ps=>exact Yn hT h hf1 hg (λp hp=>hop p.2 (by grind [Op.operands]))
 |load t x=>
  obtain ⟨e,val,k1,k2⟩:=Yx hT h (hop x (by simp [Op.operands])) hg;subst e;exact gk.fq h (by grind [execOp,Sem.run_bind,Result.andThen_ok,Sem.run_pure]) k2
 |store t x y=>
  obtain ⟨e,w',k1,k2,k3⟩:=YP hT h (hop x (by simp [Op.operands])) (hop y (by simp [Op.operands])) hg;subst e;exact ⟨.skip,undef,w',g,by grind [execOp,Sem.run_bind,Result.andThen_ok,Sem.run_pure], .inr ⟨rfl,rfl⟩, .jV,k2.iU (λ_ hi=> .inl hi),k3⟩
 |nilCheck x=>grind [Yz,Op.operands]
 |binOp op t x y t'=>grind [Yl]
 |unOp op t x=>
  cases op with
  |not=>grind [YB,Op.operands]
  |neg=>grind [Yy,Op.operands]
  |_=>exact xD h hop hg
 |convert s d x=>exact Yq hT h hf1 hg (hop x (by simp [Op.operands]))
 |slice t x lo hi mx=>exact YJ hT h hg (hop x (by simp [Op.operands])) (λy hy=>hop y (by grind [Op.operands]))
 |fieldAddr s x i=>grind [Ys,Op.operands]
 |field s x i=>grind [Yt,Op.operands]
 |indexAddr t x i=>grind [Yu,Op.operands]
 |index t x i=>grind [Yv]
 |extract x i=>grind [Yr,Op.operands]
 |makeSlice t l c=>grind [ZK,Op.operands]
 |range t x=>grind [ZP,Op.operands]
 |next x str=>grind [ZL,Op.operands]
 |typeAssert x t at_ ok=>grind [Z4,Op.operands]
 |makeInterface t x=>grind [ZJ,Op.operands]
 |makeFunc fn first captured=>
  cases fn with
  |func fn=>exact ZI h hg hop
  |_=>exact xD h hop hg
 |call c=>
  simp only [df] at hg;cases hc:c.callee with
  |builtin bt=>grind [Zy]
  |value x=>simp only [hc] at hg;exact hg.elim
  |invoke x m=>simp only [hc] at hg;exact hg.elim
 |_=>exact xD h hop hg
end
section
variable {P:Program} {T:cN} {b:ek P} {t:nU} {σ:az} {D:Nat->Prop} {g:cf} {a:Act} {w:World}
def zg (n0:Nat) (w:World):List Deferred->Prop
 |[]=>True
 |d::ds=>(∃ r,d={target:= .collected r,args:=#[]}/\n0<=r/\w.heap[r]? =some (.deferred (some []))/\∀ e∈ds,e.target≠ .collected r)/\zg n0 w ds
theorem zg.H6 {n0:Nat} {w w':World} (hw:∀ (d:Nat) (ds:Option (List Deferred)),w.heap[d]? =some (.deferred ds)->w'.heap[d]? =some (.deferred ds)):∀ {l:List Deferred},zg n0 w l->zg n0 w' l
 |[],_=>trivial
 |_::_,⟨⟨r,h1,h2,h3,h4⟩,h⟩=>⟨⟨r,h1,h2,hw r _ h3,h4⟩,h.H6 hw⟩
structure mg (n0 nt:Nat) (σ:az) (g:cf) (a:Act) (w:World):Prop where
 mN:a.tmps.size=nt
 nW:zg n0 w a.defers
 kI:∀ i,i<nt->aF w g (dV σ i) (a.tmps.getD i undef)
def nY (b:ek P) (t:nU) (nt:Nat) (σ:az) (n:Nat) (a:Act) (w:World):Prop:=
 ∃ g,bh b σ (·<n) g w/\mg t.uG.heap.size nt σ g a w/\dp t.AA t.uG g w/\t.Hr<=n
theorem C3 {σ:az} {i:Nat} {v:ae}:dV (aU σ (.aj i) (.ah v)) i=v:=by unfold dV;rw [gY]
theorem wg {σ:az} {l:aS} {c:bs} {i:Nat} (h:l≠ .aj i):dV (aU σ l c) i=dV σ i:=by grind [dV,cL]
def n9:List (aS×bs)->Bool
 |[]=>true
 |(.aj _,_)::_=>false
 |_::l=>n9 l
theorem Fm:∀ (us:List (aS×bs)) (σ:az) (i:Nat),n9 us=true->dV (eG σ us) i=dV σ i
 |[],_,_,_=>rfl
 |(.aj _,_)::_,_,_,h=>by cases h
 |(.af k,c)::us,σ,i,h=>by
  rw [eG,Fm us _ i (by trivial),wg (by simp)]
 |(.aJ k,c)::us,σ,i,h=>by
  rw [eG,Fm us _ i (by trivial),wg (by simp)]
def Fg (σ:az) (dst:Option Tmp) (v:ae):az:=match dst with|none=>σ|some d=>aU σ (.aj d) (.ah v)
def tv (nt:Nat):Option Tmp->Bool
 |none=>true
 |some d=>Nat.blt d nt
theorem mg.xH {n0 nt:Nat} {g g':cf} {w w':World} (h:mg n0 nt σ g a w) (hE:dp g w g' w'):mg n0 nt σ g' a w':=⟨h.mN,h.nW.H6 hE.rQ,λi hi=>(h.kI i hi).kG hE⟩
theorem mg.qo {n0 nt:Nat} {σ':az} (h:mg n0 nt σ g a w) (hs:∀ i,dV σ' i=dV σ i):mg n0 nt σ' g a w:=⟨h.mN,h.nW,λi hi=>by rw [hs];exact h.kI i hi⟩
theorem eH {a b:Nat} (h:Nat.blt a b=true):a<b:=by simp_all
theorem mg.vY {n0 nt:Nat} (h:mg n0 nt σ g a w) {dst:Option Tmp} (hd:tv nt dst=true) {v:ae} {val:Value} (hv:aF w g v val):mg n0 nt (Fg σ dst v) g (a.put dst val) w:=by
 cases dst with
 |none=>exact h
 |some d=>
  have hlt:d<nt:=eH hd;refine ⟨by simp [Act.put,h.mN],by simpa [Act.put] using h.nW,λi hi=>?_⟩;simp only [Fg,Act.put]
  by_cases hid:i=d
  ·subst hid;rw [C3];have:(a.tmps.setIfInBounds i val).getD i undef=val:=by simp [h.mN,hlt]
   grind
  ·rw [wg (by grind)];have:(a.tmps.setIfInBounds d val).getD i undef=a.tmps.getD i undef:=by simp [Array.getElem?_setIfInBounds_ne (λe=>hid e.symm)]
   rw [this];exact h.kI i hi
theorem bh.vZ (h:bh b σ D g w) (dst:Option Tmp) (v:ae):bh b (Am.Fg σ dst v) D g w:=by
 cases dst with
 |none=>exact h
 |some d=>exact h.sZ (σ':=aU σ (.aj d) (.ah v)) (λid=>cL (by intro e;cases e)) (λid=>cL (by intro e;cases e))
def xM (nt:Nat):Operand->Bool
 | .tmp t=>Nat.blt t nt
 |_=>true
theorem mg.KW {n0 nt:Nat} (h:mg n0 nt σ g a w) (x:Operand):aF w g (aM σ x) (a.eval x)\/∃ i,x= .tmp i/\nt<=i:=by
 cases x with
 |tmp i=>
  by_cases hi:(i:Nat)<nt
  ·exact .inl (h.kI i hi)
  simp_all
 |const v=>exact .inl (PE w g v)
 |global k=>exact .inl .jV
 |func f=>exact .inl (.bC (.Ax f))
def ra:Op->List Operand
 | .alloc _| .ready _| .waits _=>[]
 | .move x| .assign x| .box _ x| .load _ x| .nilCheck x| .unOp _ _ x| .convert _ _ x| .sliceToArrayPointer _ x| .makeInterface _ x
 | .makeChan _ x| .fieldAddr _ x _| .field _ x _| .range _ x| .next x _| .entry x| .typeAssert x _ _ _| .extract x _| .panic x| .recv _ x _=>[x]
 | .pick c a b=>[c,a,b]
 | .build _ ps| .buildSlice _ _ ps=>Is ps.toList
 | .store _ a v| .binOp _ _ a v _| .makeSlice _ a v| .indexAddr _ a v| .index _ a v| .lookup _ a v _| .mapEntry _ a v| .send a v=>[a,v]
 | .makeFunc _ first captured=>Ir first.toList captured.toList
 | .makeMap _ r=>CY r []
 | .slice _ x l h m=>x::CY l (CY h (CY m []))
 | .mapUpdate _ m k v| .entryStore _ m k v| .insert _ m k v=>[m,k,v]
 | .call c| .go c| .defer c=>(match c.callee with| .value f=>[f]| .invoke r _=>[r]| .builtin _=>[]).append c.args.toList
 | .select cs _=>(Op.select cs false).operands.toList
where
 Is:List (Nat×Operand)->List Operand
  |[]=>[]
  |(_,x)::l=>x::Is l
 Ir:List Operand->List Operand->List Operand
  |[],m=>m
  |x::l,m=>x::Ir l m
 CY:Option Operand->List Operand->List Operand
  |none,l=>l
  |some x,l=>x::l
theorem Lx:∀ (l:List (Nat×Operand)),ra.Is l=l.map (·.2)
 |[]=>rfl
 |(_,x)::l=>by simp [ra.Is,Lx l]
theorem Qs:∀ (l m:List Operand),ra.Ir l m=l++m
 |[],m=>rfl
 |x::l,m=>by simp [ra.Ir,Qs l m]
theorem QV (op:Op) (x:Operand) (h:x∈op.operands):x∈ra op:=by
 cases op with
 |build t ps=>grind [Op.operands,ra,Lx]
 |buildSlice t n ps=>grind [Op.operands,ra,Lx]
 |makeFunc fn a b=>grind [Op.operands,ra,Qs]
 |makeMap t r=>grind [Op.operands,ra,ra.CY]
 |slice t x lo hi mx=>cases lo<;>cases hi<;>cases mx<;>simp_all [Op.operands,ra,ra.CY]
 |call c=>obtain ⟨ce,args,ts⟩:=c;cases ce<;>simp_all [Op.operands,ra,Call.operands]
 |go c=>obtain ⟨ce,args,ts⟩:=c;cases ce<;>simp_all [Op.operands,ra,Call.operands]
 |defer c=>obtain ⟨ce,args,ts⟩:=c;cases ce<;>simp_all [Op.operands,ra,Call.operands]
 |select cs b=>grind [ra,Op.operands]
 |_=>grind [Op.operands,ra]
def Fe (nt:Nat):List Operand->Bool
 |[]=>true
 |x::l=>match xM nt x with|true=>Fe nt l|false=>false
theorem QW {nt:Nat}:∀ {l:List Operand},Fe nt l=true->∀ x∈l,xM nt x=true
 |[],_,x,hx=>by simp at hx
 |y::l,h,x,hx=>by
  simp only [Fe] at h;cases hy:xM nt y with
  |false=>simp [hy] at h
  |true=>
   simp only [hy] at h;rcases List.mem_cons.1 hx with rfl|hx
   ·exact hy
   ·exact QW h x hx
def wb (nt:Nat) (o:Oper):Bool:=match Fe nt (ra o.op) with|true=>tv nt o.dst|false=>false
theorem mg.KX {n0 nt:Nat} (h:mg n0 nt σ g a w) {o:Oper} (ho:wb nt o=true):(∀ x∈o.op.operands,aF w g (aM σ x) (a.eval x))/\tv nt o.dst=true:=by
 unfold wb at ho;cases h1:Fe nt (ra o.op) with
 |false=>simp [h1] at ho
 |true=>
  simp only [h1] at ho;refine ⟨λx hx=>?_,ho⟩;rcases h.KW x with h2|⟨i,rfl,hi⟩
  ·exact h2
  ·have:=QW h1 _ (QV o.op _ hx);simp only [xM] at this;have:=eH this;omega
def oP (P:Program) (f:FuncId):Prop:=∀ args w,(callFunc f args).run P w= .ok (.enter f args) w
def nr (r:Option Nat):Fence:={Fence.wide with round:=r}
theorem zk (r:Option Nat) (n:Nat):(nr r).depth.isSome=true->1<=n:=λh=>by cases h
theorem CP {r:Option Nat} {n:Nat} {f:FuncId} {args:Array Value} {w:World} {R:Ending->World->Prop} (h:Calls P f args w R):CallsIn (nr r) n P f args w R:=callsIn_wide.2 h
theorem QZ {r:Option Nat} {n l:Nat} {f:FuncId} {tmps:Array Value} {assign body:Code} {w:World} {R:Ending->World->Prop} (h:RoundIn Fence.wide n P l f tmps assign body w R):RoundIn (nr r) n P l f tmps assign body w R:=h
structure aC (P:Program) (f:FuncId) (args:List ae) (res:ae):Prop where
 KZ:oP P f
 H7:∀ (w:World) (F:Nat->Nat->Prop) (vals:List Value),mb P w->(∀ k o,F k o->k<w.heap.size)->vals.length=args.length->(∀ (i:Nat) (x:ae) (v:Value),args[i]? =some x->vals[i]? =some v->cb w F x v)->
  Calls P f vals.toArray w λe w'=>∃ v F',e= .returned v/\(Below w.heap.size w w'/\w.drawn<=w'.drawn)/\(∀ k o,F k o->F' k o)/\(∀ k o,F' k o->F k o\/(w.heap.size<=k/\k<w'.heap.size))/\cb w' F' res v
structure bz (P:Program) (f:FuncId) (args:List ae) (σ:az) (n:Nat) (K:ae->az->Nat->Prop):Prop where
 r9:oP P f
 q8:∀ (b:ek P) (g:cf) (w:World) (vals:List Value),bh b σ (·<n) g w->vals.length=args.length->(∀ (i:Nat) (x:ae) (v:Value),args[i]? =some x->vals[i]? =some v->aF w g x v)->
  Calls P f vals.toArray w λe w'=>∃ v x σ' n' g',e= .returned v/\K x σ' n'/\n<=n'/\aF w' g' x v/\bh b σ' (·<n') g' w'/\dp g w g' w'
structure CH (P:Program) (id:Nat) (args:List ae) (σ:az) (n:Nat) (K:ae->az->Nat->Prop):Prop where
 P5:∀ (b:ek P) (g:cf) (w:World) (c:Nat) (vals:List Value),bh b σ (·<n) g w->g.aZ id=some c->vals.length=args.length->(∀ (i:Nat) (x:ae) (v:Value),args[i]? =some x->vals[i]? =some v->aF w g x v)->
  ∃ f tmps assign body,(Instr.yield c vals.toArray).run P w= .ok (.round c f tmps assign body) w/\
   RoundIn Fence.wide 0 P c f tmps assign body w λe w'=>∃ v x σ' n' g',e= .returned v/\K x σ' n'/\n<=n'/\aF w' g' x v/\bh b σ' (·<n') g' w'/\dp g w g' w'
structure mf (P:Program) (o:Oper) (σ:az) (n:Nat) (K:ae->az->Nat->Prop):Prop where
 P3:∀ (b:ek P) (g:cf) (a:Act) (w:World),bh b σ (·<n) g w->(∀ x∈o.op.operands,aF w g (aM σ x) (a.eval x))->
  ∃ nx val w' v σ' n' g',(execOp a.eval o).run P w= .ok nx w'/\(nx= .value val\/(nx= .skip/\val=undef))/\K v σ' n'/\n<=n'/\aF w' g' v val/\bh b σ' (·<n') g' w'/\dp g w g' w'
def QJ:ae->Bool
 | .cg _=>true
 |_=>false
def ZF:ae->Bool
 | .ag _ _ _ _=>true
 |_=>false
def ZG:ae->Bool
 | .aL _ _ _ _ true=>true
 |_=>false
def Io (σ:az):Op->Bool
 | .makeMap _ _=>true
 | .lookup _ _ _ _=>true
 | .mapUpdate _ _ _ _=>true
 | .insert _ _ _ _=>true
 | .entry _=>true
 | .next _ false=>true
 | .range _ x=>QJ (aM σ x)
 | .call ⟨.builtin .delete,_,_⟩=>true
 | .call ⟨.builtin .clear,_,_⟩=>true
 | .call ⟨.builtin .cap,_,_⟩=>true
 | .call ⟨.builtin .append,args,_⟩=>match dQ σ args.toList with
  |[_, .aa _ _]=>true
  |_=>false
 | .slice _ x none (some _) none=>match σ (.aJ 1) with
  | .ah .bN=>ZF (aM σ x)
  |_=>false
 | .slice _ x (some _) (some _) none=>match σ (.aJ 1) with
  | .ah _=>ZG (aM σ x)
  |_=>false
 | .call ⟨.builtin .len,args,_⟩=>match dQ σ args.toList with
  |[x]=>QJ x
  |_=>false
 |_=>false
theorem QF {x:ae} {v:Value} (h:aF w g x v):aF w g (xA x) v:=by
 cases x with
 |ag isNil sz els tk=>obtain ⟨ad,c,rfl,h2,_⟩:=h.jj;exact .bC h2
 |bN=>rw [h.xw];exact .bC (.nh _)
 |bo=>rw [h.xr];exact .bC (.nh _)
 |_=>exact h
def AU:ae->Bool
 | .aK cs=>kZ cs
 | .aw cs=>AV cs
 |x=>xC x
where
 AV:List ae->Bool
  |[]=>true
  | .aK cs::l=>match kZ cs with|true=>AV l|false=>false
  |x::l=>match xC x with|true=>AV l|false=>false
def CT:ae->ae
 | .aK cs=> .aK (iB cs)
 | .aw cs=> .aw (wa cs)
 |x=>xA x
where
 wa:List ae->List ae
  |[]=>[]
  | .aK cs::l=> .aK (iB cs)::wa l
  |x::l=>xA x::wa l
theorem Qo {cs:List ae} {v:Value} (hp:kZ cs=true) (h:aF w g (.aK cs) v):cb w g.bJ (.aK (iB cs)) v:=by
 obtain ⟨vs,rfl,h1,h2⟩:=h.Cn;refine .xq (by rw [rZ];exact h1) (λi x u hx hu=>?_);grind [rY,tg,tf]
theorem CZ {x:ae} {v:Value} (hp:AU x=true) (h:aF w g x v):cb w g.bJ (CT x) v:=by
 cases x with
 |aK cs=>exact Qo hp h
 |aw cs=>
  obtain ⟨vs,rfl,h1,h2⟩:=h.Hp;have key:∀ (cs:List ae) (vs:List Value),AU.AV cs=true->vs.length=cs.length->(∀ (i:Nat) (x:ae) (u:Value),cs[i]? =some x->vs[i]? =some u->aF w g x u)->
    (CT.wa cs).length=cs.length/\∀ (i:Nat) (x:ae) (u:Value),(CT.wa cs)[i]? =some x->vs[i]? =some u->cb w g.bJ x u:=by
   intro cs
   induction cs with
   |nil=>grind [CT.wa]
   |cons c cs ih=>
    intro vs hp hl hr;cases vs with
    |nil=>simp at hl
    |cons u vs=>
     have h0:=hr 0 c u rfl rfl;have step:AU.AV cs=true->∀ c',cb w g.bJ c' u->CT.wa (c::cs)=c'::CT.wa cs->(CT.wa (c::cs)).length=(c::cs).length/\∀ (i:Nat) (x:ae) (z:Value),(CT.wa (c::cs))[i]? =some x->(u::vs)[i]? =some z->cb w g.bJ x z:=by
      intro hp' c' hc' e;obtain ⟨i1,i2⟩:=ih vs hp' (by simpa using hl) (λi x z h1 h2=>hr (i+1) x z (by simpa using h1) (by simpa using h2));grind
     cases c with
     |aK as=>
      simp only [AU.AV] at hp;cases ha:kZ as with
      |false=>simp [ha] at hp
      |true=>simp only [ha] at hp;exact step hp _ (Qo ha h0) rfl
     |_=>
      simp only [AU.AV] at hp;split at hp
      ·rename_i ha;exact step hp _ (tg ha h0) rfl
      ·cases hp
  obtain ⟨k1,k2⟩:=key cs vs hp h1 h2;exact .rT (by rw [k1];exact h1) k2
 |_=>refine tg ?_ h;exact hp
def rb:List ae->Bool
 |[]=>true
 |x::l=>match AU x with|true=>rb l|false=>false
def q9:List ae->List ae
 |[]=>[]
 |x::l=>CT x::q9 l
theorem E8:∀ (l:List ae),(q9 l).length=l.length
 |[]=>rfl
 |_::l=>by simp [q9,E8 l]
theorem Ff:∀ {l:List ae},rb l=true->∀ {i:Nat} {y:ae},(q9 l)[i]? =some y->∃ x,l[i]? =some x/\AU x=true/\y=CT x
 |[],_,i,y,h=>by trivial
 |x::l,hp,i,y,h=>by
  simp only [rb] at hp;cases hx:AU x with
  |false=>simp [hx] at hp
  |true=>
   simp only [hx] at hp;cases i with
   |zero=>grind [q9]
   |succ i=>
    obtain ⟨z,h1,h2,h3⟩:=Ff hp (i:=i) (y:=y) (by trivial);simp_all
theorem aC.Qg {f:FuncId} {args:List ae} {res:ae} (hp:aC P f (q9 args) res) (hpure:rb args=true) (h:bh b σ D g w) {vals:List Value} (hl:vals.length=args.length)
  (hv:∀ (i:Nat) (x:ae) (v:Value),args[i]? =some x->vals[i]? =some v->aF w g x v):
  Calls P f vals.toArray w λe w'=>∃ v g',e= .returned v/\aF w' g' res v/\bh b σ D g' w'/\dp g w g' w'/\g'.aZ=g.aZ/\g'.cu=g.cu:=by
 refine (hp.H7 w g.bJ vals h.Au h.fU (by rw [E8];exact hl) (λi x v hx hvv=>?_)).mono ?_
 ·grind [Ff,CZ]
 ·rintro e w' ⟨v,F',h1,h2,h3,h4,h5⟩;exact ⟨v,{g with bJ:=F'},h1, .bC h5,h.yZ h2.1 h2.2 h3 h4,h.xn h2.1 h2.2 h3,rfl,rfl⟩
theorem bz.eV {f:FuncId} {args:List ae} {res:ae} {n:Nat} {K:ae->az->Nat->Prop} (hp:aC P f (q9 args) res) (hpure:rb args=true) (hk:K res σ n):bz P f args σ n K:=
 ⟨hp.KZ,λ_ _ _ _ h hl hv=>(aC.Qg hp hpure h hl hv).mono λ_ _ ⟨v,g',h1,h2,h3,h4,_⟩=>⟨v,res,σ,n,g',h1,hk,Nat.le_refl _,h2,h3,h4⟩⟩
def Qa (P:Program) (t:TypeId) (name:String) (f:FuncId):Prop:=∀ (v:Value) (w:World),(method (P.types.size+Made.depth) t v name).run P w= .ok (f,v) w
def AT (P:Program) (t:TypeId) (name:String) (f:FuncId):Bool:=match P.info? t,P.underlying t with
 |some i,some d=>(match d with| .pointer _=>false|_=>true) && match i.methods.find? (λm=>m.name==name) with
  |some m=>m.path.toList.isEmpty && (match m.func with|some (g,q)=>g==f && !q|none=>false)
  |none=>false
 |_,_=>false
theorem Qa.Qb {t:TypeId} {name:String} {f:FuncId} (h:AT P t name f=true):Qa P t name f:=by
 unfold AT at h;cases hi:P.info? t with
 |none=>simp [hi] at h
 |some i=>
  cases hu:P.underlying t with
  |none=>simp [hi,hu] at h
  |some d=>
   simp only [hi,hu,Bool.and_eq_true] at h;obtain ⟨h1,h2⟩:=h;cases hm:i.methods.find? (λm=>m.name==name) with
   |none=>simp [hm] at h2
   |some m=>
    simp only [hm,Bool.and_eq_true] at h2;obtain ⟨h2,h3⟩:=h2;have hp:m.path.toList=[]:=by simpa using h2
    cases hf:m.func with
    |none=>simp [hf] at h3
    |some gq=>
     obtain ⟨g',q⟩:=gq;simp only [hf,Bool.and_eq_true,beq_iff_eq,Bool.not_eq_true'] at h3;obtain ⟨e1,e2⟩:=h3;subst e1 e2;intro v w;have hd:P.types.size+Made.depth=(P.types.size+Made.depth - 1)+1:=by
      trivial
     rw [hd];cases d<;>first|(cases h1;done)|simp [method,typeInfo,hi,hm,hp,follow,hf,receiverAt,run_underlying hu,Place.get]
def iM (σ σ':az):az:=λl=>match l with| .aj i=>σ (.aj i)|l=>σ' l
def qt (σ:az) (all:List Oper):Option (Nat×Bool)->Option Bool
 |none=>some true
 |some (j,want)=>match lS all j with
  |some o=>match o.dst with
   |some d=>match dV σ d with
    | .bN=>some want
    | .bo=>some (!want)
    | .aw []=>some false
    |_=>none
   |none=>none
  |none=>none
def E9:List Oper->List Nat
 |[]=>[]
 |o::l=>match o.guard with|some (j,_)=>j::E9 l|none=>E9 l
def gO (i:Nat):List Nat->Bool
 |[]=>false
 |j::l=>match Nat.beq i j with|true=>true|false=>gO i l
def Fj (v:ae) (K:ae->Prop):Prop:=
 match v with
 | .aa k n=>K (.aa k n)
 | .aE b=>K (.aE b)
 | .bN=>K .bN
 | .bo=>K .bo
 | .ai s=>K (.ai s)
 | .aK cs=>K (.aK cs)
 | .aw cs=>K (.aw cs)
 | .ar b o=>K (.ar b o)
 | .cB cs o=>K (.cB cs o)
 | .bU=>K .bU
 | .ag a b c d=>K (.ag a b c d)
 | .aL a b c d e=>K (.aL a b c d e)
 | .aP f a b=>K (.aP f a b)
 | .cA=>K .cA
 | .cm t v=>K (.cm t v)
 | .cq=>K .cq
 | .cz b=>K (.cz b)
 | .cw b=>K (.cw b)
 | .cg b=>K (.cg b)
 | .bV=>K .bV
theorem Ly {v:ae} {K:ae->Prop}:Fj v K↔K v:=by cases v<;>exact Iff.rfl
def gN (need:Bool) (v:ae) (K:ae->Prop):Prop:=
 match need with
 |false=>Fj v K
 |true=>match v with
  | .aE q=>(q=true->K .bN)/\(q=false->K .bo)
  | .bN=>K .bN
  | .bo=>K .bo
  |_=>False
theorem uL {need:Bool} {v:ae} {K:ae->Prop} (h:gN need v K):∃ v',(∀ (w:World) (g:cf) (val:Value),aF w g v val->aF w g v' val)/\K v':=by
 cases need with
 |false=>exact ⟨v,λ_ _ _ h=>h,Ly.1 h⟩
 |true=>
  cases v with
  |aE q=>
   cases q with
   |true=>exact ⟨.bN,λw g val h=>by rw [h.s9];exact .bC .rS,h.1 rfl⟩
   |false=>exact ⟨.bo,λw g val h=>by rw [h.s9];exact .bC .qj,h.2 rfl⟩
  |bN=>exact ⟨_,λ_ _ _ h=>h,h⟩
  |bo=>exact ⟨_,λ_ _ _ h=>h,h⟩
  |_=>exact h.elim
def fW (σ:az) (dst:Option Tmp) (v:ae) (K:az->Prop):Prop:=match dst with
 |none=>K σ
 |some d=>K (aU σ (.aj d) (.ah v))
theorem sf {σ:az} {dst:Option Tmp} {v:ae} {K:az->Prop}:fW σ dst v K↔K (Fg σ dst v):=by cases dst<;>exact Iff.rfl
def sg (σ:az) (us:List (aS×bs)) (K:az->Prop):Prop:=match us with
 |[]=>K σ
 |[(l,c)]=>K (aU σ l c)
 |us=>K (eG σ us)
theorem Fo {σ:az} {us:List (aS×bs)} {K:az->Prop}:sg σ us K↔K (eG σ us):=by
 match us with
 |[]=>exact Iff.rfl
 |[(_,_)]=>exact Iff.rfl
 |_::_::_=>exact Iff.rfl
def tw (P:Program) (T:cN) (nt:Nat) (all:List Oper) (gs:List Nat):List Oper->Nat->az->Nat->(az->Nat->Prop)->Prop
 |[],_,σ,n,K=>K σ n
 |⟨dst,op,ty,pos,after,guard⟩::rest,i,σ,n,K=>
  match wb nt ⟨dst,op,ty,pos,after,guard⟩ with
  |false=>False
  |true=>match qt σ all guard with
   |none=>False
   |some false=>fW σ dst (.aw []) λσ=>tw P T nt all gs rest (i+1) σ (n+1) K
   |some true=>match op with
    | .call ⟨.value fo,args,_⟩=>match aM σ fo with
     | .aP f first captured=>
      bz P f (gm first (gm (dQ σ args.toList) captured)) σ n λv σ' n'=>gN (gO i gs) v λv=>fW (iM σ σ') dst v λσ=>tw P T nt all gs rest (i+1) σ n' K
     | .cw id=>CH P id (dQ σ args.toList) σ n λv σ' n'=>gN (gO i gs) v λv=>fW (iM σ σ') dst v λσ=>tw P T nt all gs rest (i+1) σ n' K
     |_=>False
    | .call ⟨.invoke recv m,args,_⟩=>match aM σ recv with
     | .cm t x=>
      ∃ f,AT P t m f=true/\bz P f (x::dQ σ args.toList) σ n λv σ' n'=>gN (gO i gs) v λv=>fW (iM σ σ') dst v λσ=>tw P T nt all gs rest (i+1) σ n' K
     |_=>False
    |op=>match Io σ op with
     |true=>mf P ⟨dst,op,ty,pos,after,guard⟩ σ n λv σ' n'=>gN (gO i gs) v λv=>fW (iM σ σ') dst v λσ=>tw P T nt all gs rest (i+1) σ n' K
     |false=>(df P T σ n ⟨dst,op,ty,pos,after,guard⟩).Az λv us=>match n9 us with
      |true=>gN (gO i gs) v λv=>sg σ us λσ=>fW σ dst v λσ=>tw P T nt all gs rest (i+1) σ (n+1) K
      |false=>False
where
 gm:List ae->List ae->List ae
  |[],m=>m
  |x::l,m=>x::gm l m
theorem Le:∀ (l m:List ae),tw.gm l m=l++m
 |[],_=>rfl
 |x::l,m=>by simp [tw.gm,Le l m]
theorem Im {n0 nt:Nat} {ops:Array Oper} (h:mg n0 nt σ g a w) {o:Oper} {want:Bool} (hg:qt σ ops.toList o.guard=some want) (hok:∀ (j:Nat) (o':Oper),ops[j]? =some o'->tv nt o'.dst=true):Region.wanted o (yielded ops a.tmps)=want:=by
 unfold Region.wanted;cases hgd:o.guard with
 |none=>grind [qt]
 |some jw=>
  obtain ⟨j,wt⟩:=jw;rw [hgd] at hg;simp only [qt,td] at hg;cases ho:ops.toList[j]? with
  |none=>simp [ho] at hg
  |some o'=>
   simp only [ho] at hg;have ho':ops[j]? =some o':=by simpa using ho
   cases hd:o'.dst with
   |none=>simp [hd] at hg
   |some d=>
    simp only [hd] at hg;have hlt:d<nt:=by have:=hok j o' ho';rw [hd] at this;exact eH this
    have hrep:=h.kI d hlt;have hsz:d<a.tmps.size:=by grind [h.mN]
    have hget:a.tmps[d]? =some (a.tmps.getD d undef):=by simp_all
    unfold yielded;simp only [ho',Option.bind_some,hd,hget];cases hv:dV σ d with
    |bN=>
     rw [hv] at hrep hg;simp at hg;subst hg;rw [hrep.xw];cases wt<;>rfl
    |bo=>
     rw [hv] at hrep hg;simp at hg;subst hg;rw [hrep.xr];cases want<;>rfl
    |aw cs=>
     rw [hv] at hrep hg;grind [hrep.Hp]
    |_=>simp_all
theorem QH {f:FuncId} (hE:oP P f) {t:TypeId} {name:String} (hm:Qa P t name f) {c:Call} {recv:Operand} (hc:c.callee= .invoke recv name) {u:Value} (hv:a.eval recv= .iface t u) {dst ty pos after guard}:
  (execOp a.eval ⟨dst, .call c,ty,pos,after,guard⟩).run P w= .ok (.enter f (u::(c.args.map a.eval).toList).toArray) w:=by
 simp only [execOp,resolve,hc,hv,Sem.run_bind,Sem.run_pure,Result.andThen_ok,invoke];have e0:((#[Value.iface t u]++c.args.map a.eval)[0]?:Option Value)=some (.iface t u):=by grind
 simp only [e0,callMethod,Sem.run_bind,run_program,Result.andThen_ok,hm u w];rw [hE];congr 2;grind
theorem Ld {f:FuncId} (hE:oP P f) {c:Call} {fo:Operand} (hc:c.callee= .value fo) {vs us:List Value} (hv:a.eval fo= .func (.func f) vs.toArray us.toArray) {dst ty pos after guard}:
  (execOp a.eval ⟨dst, .call c,ty,pos,after,guard⟩).run P w= .ok (.enter f (vs++(c.args.map a.eval).toList++us).toArray) w:=by
 have hr:(resolve a.eval c ty).run P w= .ok {target:= .fn (.func f) us.toArray,args:=vs.toArray++c.args.map a.eval} w:=by
  grind [resolve,Deferred.ofValue,Sem.run_pure]
 simp only [execOp,Sem.run_bind,hr,Result.andThen_ok,invoke];rw [hE];simp_all
theorem Q8 {c:Call} {fo:Operand} (hc:c.callee= .value fo) {l:Nat} (hv:a.eval fo= .func (.yield l) #[] #[]) {dst ty pos after guard}:
  (execOp a.eval ⟨dst, .call c,ty,pos,after,guard⟩).run P w=(Instr.yield l (c.args.map a.eval)).run P w:=by
 have hr:(resolve a.eval c ty).run P w= .ok {target:= .fn (.yield l) #[],args:=#[]++c.args.map a.eval} w:=by
  grind [resolve,Deferred.ofValue,Sem.run_pure]
 grind [execOp,Sem.run_bind,Result.andThen_ok,invoke]
theorem Ip {ρ:Operand->Value} {o:Oper} {nx:Next} {w':World} {val:Value} (hr:(execOp ρ o).run P w= .ok nx w') (hnx:nx= .value val\/(nx= .skip/\val=undef)) (c:Call):o.op≠ .defer c:=by
 intro h;simp only [execOp,h,Sem.run_bind] at hr;cases hres:(resolve ρ c o.type).run P w with
 |ok d w1=>
  grind [Result.andThen_ok,Sem.run_pure]
 |halt h1 w1=>simp_all
theorem Lf {f1 f2:List ae} {v1 v2:List Value} (hl:v1.length=f1.length) (h1:∀ (i:Nat) (x:ae) (v:Value),f1[i]? =some x->v1[i]? =some v->aF w g x v) (h2:∀ (i:Nat) (x:ae) (v:Value),f2[i]? =some x->v2[i]? =some v->aF w g x v)
  (i:Nat) (x:ae) (v:Value) (hx:(f1++f2)[i]? =some x) (hv:(v1++v2)[i]? =some v):aF w g x v:=by
 grind
theorem bh.CK {σ':az} (h:bh b σ' D g w):bh b (Am.iM σ σ') D g w:=h.sZ (λ_=>rfl) (λ_=>rfl)
theorem Fk {σ σ':az} (i:Nat):dV (Am.iM σ σ') i=dV σ i:=rfl
theorem bh.qp {n m:Nat} (h:bh b σ (·<n) g w) (hn:n<=m):bh b σ (·<m) g w:=h.iU λ_ hi=>Nat.lt_of_lt_of_le hi hn
theorem bh.nX {n:Nat} (h:bh b σ (·<n) g w):g.aZ n=none/\g.cu n=none:=by
 constructor
 ·cases hc:g.aZ n with
  |none=>rfl
  |some c=>exact absurd (h.lu n c hc) (Nat.lt_irrefl _)
 ·cases hc:g.cu n with
  |none=>rfl
  |some c=>exact absurd (h.ki n c hc) (Nat.lt_irrefl _)
theorem AR (hT:dA P T) {r:Option Nat} {nt:Nat} {ops:Array Oper} (hok:∀ (j:Nat) (o':Oper),ops[j]? =some o'->tv nt o'.dst=true) {gs:List Nat} {Q:Exit->Act->World->Prop}:
  ∀ (l:List Oper) (i:Nat) (σ:az) (n:Nat) (K:az->Nat->Prop) (a:Act) (w:World),tw P T nt ops.toList gs l i σ n K->nY b t nt σ n a w->(∀ σ' n' a' w',K σ' n'->nY b t nt σ' n' a' w'->Q .normal a' w')->wpListIn (nr r) 0 P ops Q l a w
 |[],i,σ,n,K,a,w,hev,hs,hQ=>hQ σ n a w hev hs
 |⟨dst,op,ty,pos,after,guard⟩::rest,i,σ,n,K,a,w,hev,hs,hQ=>by
  obtain ⟨g,h,hf,hE,hn⟩:=hs;simp only [tw] at hev;cases hoo:wb nt ⟨dst,op,ty,pos,after,guard⟩ with
  |false=>simp_all
  |true=>
   simp only [hoo] at hev;obtain ⟨hop,hdst⟩:=hf.KX hoo;cases hgd:qt σ ops.toList guard with
   |none=>simp_all
   |some want=>
    simp only [hgd] at hev;have hwant:=Im (o:=⟨dst,op,ty,pos,after,guard⟩) hf hgd hok;unfold wpListIn;cases want with
    |false=>
     rw [if_neg (by rw [hwant];simp)];refine ⟨λ_ _=>trivial,?_⟩;exact AR hT hok rest (i+1) _ (n+1) K _ w (sf.1 hev) ⟨g,(h.vZ _ _).qp (Nat.le_succ n),hf.vY hdst (.bC (.rT (vs:=[]) rfl (by simp))),hE,Nat.le_succ_of_le hn⟩ hQ
    |true=>
     rw [if_pos hwant];have plain:(match Io σ op with
       |true=>mf P ⟨dst,op,ty,pos,after,guard⟩ σ n λv σ' n'=>gN (gO i gs) v λv=>fW (iM σ σ') dst v λσ=>tw P T nt ops.toList gs rest (i+1) σ n' K
       |false=>(df P T σ n ⟨dst,op,ty,pos,after,guard⟩).Az λv us=>match n9 us with
        |true=>gN (gO i gs) v λv=>sg σ us λσ=>fW σ dst v λσ=>tw P T nt ops.toList gs rest (i+1) σ (n+1) K
        |false=>False)->Oper.wpIn (nr r) 0 P ⟨dst,op,ty,pos,after,guard⟩ a w (wpListIn (nr r) 0 P ops Q rest) Q:=by
      intro hev;cases hmo:Io σ op with
      |true=>
       simp only [hmo] at hev;obtain ⟨nx,val,w',v,σ',n',g',hr,hnx,hk,hnn,hrep,h',hE'⟩:=hev.P3 b g a w h hop;obtain ⟨v',hv',hk⟩:=uL hk;have fin:wpListIn (nr r) 0 P ops Q rest (a.put dst val) w':=
        AR hT hok rest (i+1) _ n' K _ w' (sf.1 hk) ⟨g',(h'.CK).vZ _ _,((hf.xH hE').qo (σ':=iM σ σ') (λi=>Fk i)).vY hdst (hv' _ _ _ hrep),hE.gD hE',Nat.le_trans hn hnn⟩ hQ
       unfold Oper.wpIn;refine ⟨λ_ _=>trivial,?_⟩;rw [Oper.semAt_eq _ _ _ (Ip hr hnx),hr];rcases hnx with rfl|⟨rfl,rfl⟩
       ·exact fin
       ·exact fin
      |false=>
      simp only [hmo] at hev;obtain ⟨v,us,hg,hk⟩:=jW.Hq _ hev;cases hnt:n9 us with
      |false=>simp_all
      |true=>
       simp only [hnt] at hk;obtain ⟨v',hv',hk⟩:=uL hk;obtain ⟨nx,val,w',g',hr,hnx,hrep,h',hE'⟩:=Q4 hT h h.nX.1 h.nX.2 hg hop;have hf':mg t.uG.heap.size nt (eG σ us) g' a w':=(hf.xH hE').qo (λi=>Fm us σ i hnt);have hD:bh b (eG σ us) (·<n+1) g' w':=h'.iU (λj hj=>by omega);have fin:wpListIn (nr r) 0 P ops Q rest (a.put dst val) w':=
        AR hT hok rest (i+1) _ (n+1) K _ w' (sf.1 (Fo.1 hk)) ⟨g',hD.vZ _ _,hf'.vY hdst (hv' _ _ _ hrep),hE.gD hE',Nat.le_succ_of_le hn⟩ hQ
       unfold Oper.wpIn;refine ⟨λ_ _=>trivial,?_⟩;rw [Oper.semAt_eq _ _ _ (Ip hr hnx),hr];rcases hnx with rfl|⟨rfl,rfl⟩
       ·exact fin
       ·exact fin
     cases op with
     |call c=>
      obtain ⟨callee,args,argTypes⟩:=c;cases callee with
      |value fo=>
       simp only at hev;cases hfo:aM σ fo with
       |aP f first captured=>
        simp only [hfo,Le] at hev;obtain ⟨hEn,hcall⟩:=hev;have hfr:=hop fo (by simp [Op.operands,Call.operands]);rw [hfo] at hfr;obtain ⟨vs,us,e1,l1,l2,r1,r2⟩:=hfr.y7;have hrun:=Ld (P:=P) (w:=w) (a:=a) hEn (c:=⟨.value fo,args,argTypes⟩) rfl e1 (dst:=dst) (ty:=ty) (pos:=pos) (after:=after) (guard:=guard);unfold Oper.wpIn;refine ⟨λ_ _=>trivial,?_⟩;rw [Oper.semAt_eq _ _ _ (λc h=>by cases h),hrun,Oper.uponIn_enter];refine ⟨zk r 0,?_⟩;have harg:∀ x∈args,aF w g (aM σ x) (a.eval x):=λx hx=>hop x (by simp [Op.operands,Call.operands,hx])
        have ha:=uN harg;refine CP ?_;refine (hcall b g w (vs++(args.map a.eval).toList++us) h (by simp [l1,l2,qu]) (by grind [qu])).mono ?_;rintro e w' ⟨v,x,σ',n',g',rfl,hk,hnn,hrep,h',hE'⟩;obtain ⟨v',hv',hk⟩:=uL hk;exact AR hT hok rest (i+1) _ n' K _ w' (sf.1 hk) ⟨g',(h'.CK).vZ _ _,((hf.xH hE').qo (σ':=iM σ σ') (λi=>Fk i)).vY hdst (hv' _ _ _ hrep),hE.gD hE',Nat.le_trans hn hnn⟩ hQ
       |cw id=>
        simp only [hfo] at hev;have hfr:=hop fo (by simp [Op.operands,Call.operands]);rw [hfo] at hfr;obtain ⟨l,q1,e1⟩:=hfr.KD;have harg:∀ x∈args,aF w g (aM σ x) (a.eval x):=λx hx=>hop x (by simp [Op.operands,Call.operands,hx])
        obtain ⟨f,tmps,assign,body,hy,hround⟩:=hev.P5 b g w l (args.map a.eval).toList h q1 (by simp [qu]) (uN harg);have hrun:=Q8 (P:=P) (w:=w) (a:=a) (c:=⟨.value fo,args,argTypes⟩) rfl e1 (dst:=dst) (ty:=ty) (pos:=pos) (after:=after) (guard:=guard);unfold Oper.wpIn;refine ⟨λ_ _=>trivial,?_⟩;have hy':(Instr.yield l (args.map a.eval)).run P w= .ok (.round l f tmps assign body) w:=by
         omega
        rw [Oper.semAt_eq _ _ _ (λc h=>by cases h),hrun,hy',Oper.uponIn_round];refine ⟨zk r 0,?_⟩;refine (QZ hround).mono ?_;rintro e w' ⟨v,x,σ',n',g',rfl,hk,hnn,hrep,h',hE'⟩;obtain ⟨v',hv',hk⟩:=uL hk;exact AR hT hok rest (i+1) _ n' K _ w' (sf.1 hk) ⟨g',(h'.CK).vZ _ _,((hf.xH hE').qo (σ':=iM σ σ') (λi=>Fk i)).vY hdst (hv' _ _ _ hrep),hE.gD hE',Nat.le_trans hn hnn⟩ hQ
       |_=>simp_all
      |builtin bt=>exact plain hev
      |invoke recv m=>
       simp only at hev;cases hfo:aM σ recv with
       |cm t x=>
        simp only [hfo] at hev;obtain ⟨f,hmb,hEn,hcall⟩:=hev;have hfr:=hop recv (by simp [Op.operands,Call.operands]);rw [hfo] at hfr;obtain ⟨u,e1,r1⟩:=hfr.Ay;have hrun:=QH (P:=P) (w:=w) (a:=a) hEn (Qa.Qb hmb) (c:=⟨.invoke recv m,args,argTypes⟩) rfl e1 (dst:=dst) (ty:=ty) (pos:=pos) (after:=after) (guard:=guard);unfold Oper.wpIn;refine ⟨λ_ _=>trivial,?_⟩;rw [Oper.semAt_eq _ _ _ (λc h=>by cases h),hrun,Oper.uponIn_enter];refine ⟨zk r 0,?_⟩;have harg:∀ x∈args,aF w g (aM σ x) (a.eval x):=λx hx=>hop x (by simp [Op.operands,Call.operands,hx])
        have ha:=uN harg;refine CP ?_;refine (hcall b g w (u::(args.map a.eval).toList) h (by simp [qu]) (λi y v hy hv=>by
         grind)).mono ?_
        rintro e w' ⟨v,x,σ',n',g',rfl,hk,hnn,hrep,h',hE'⟩;obtain ⟨v',hv',hk⟩:=uL hk;exact AR hT hok rest (i+1) _ n' K _ w' (sf.1 hk) ⟨g',(h'.CK).vZ _ _,((hf.xH hE').qo (σ':=iM σ σ') (λi=>Fk i)).vY hdst (hv' _ _ _ hrep),hE.gD hE',Nat.le_trans hn hnn⟩ hQ
       |_=>simp_all
     |_=>exact plain hev
structure db (P:Program) (r:Option Nat) (nt lo:Nat) (c:Code) (σ:az) (n:Nat) (K:Exit->az->Nat->Prop):Prop where
 jG:∀ (b:ek P) (t:nU) (a:Act) (w:World),t.Hr<=lo->nY b t nt σ n a w->c.wpIn (nr r) 0 P (λe a' w'=>∃ σ' n',K e σ' n'/\nY b t nt σ' n' a' w') a w
theorem db.KU {r:Option Nat} {nt lo:Nat} {c:Code} {n:Nat} {K K':Exit->az->Nat->Prop} (h:db P r nt lo c σ n K) (hk:∀ e σ n,K e σ n->K' e σ n):db P r nt lo c σ n K':=
 ⟨λb t a w h0 hs=>wpIn_mono (h.jG b t a w h0 hs) λ_ _ _ ⟨σ',n',h1,h2⟩=>⟨σ',n',hk _ _ _ h1,h2⟩⟩
theorem db.KV {r:Option Nat} {nt lo n:Nat} {K:Exit->az->Nat->Prop} (h:K .normal σ n):db P r nt lo .skip σ n K:=⟨λ_ _ _ _ _ hs=>wpIn_skip ⟨σ,n,h,hs⟩⟩
theorem db.YU {r:Option Nat} {nt lo n l:Nat} {K:Exit->az->Nat->Prop} (h:K .normal σ n):db P r nt lo (.label l) σ n K:=⟨λ_ _ _ _ _ hs=>wpIn_label ⟨σ,n,h,hs⟩⟩
theorem db.YW {r:Option Nat} {nt lo n:Nat} {K:Exit->az->Nat->Prop} (h:K .ret σ n):db P r nt lo .ret σ n K:=⟨λ_ _ _ _ _ hs=>wpIn_ret ⟨σ,n,h,hs⟩⟩
theorem db.YT {r:Option Nat} {nt lo n id:Nat} {K:Exit->az->Nat->Prop} (h:K (.exit id) σ n):db P r nt lo (.exit id) σ n K:=⟨λ_ _ _ _ _ hs=>wpIn_exit ⟨σ,n,h,hs⟩⟩
def Lw (ev:az->Nat->Prop) (K:Exit->az->Nat->Prop) (e:Exit) (σ:az) (n:Nat):Prop:=match e with| .normal=>ev σ n|e=>K e σ n
theorem db.CF {r:Option Nat} {nt lo n:Nat} {x y:Code} {K:Exit->az->Nat->Prop} (h:db P r nt lo x σ n (Lw (λσ n=>db P r nt lo y σ n K) K)):db P r nt lo (.seq x y) σ n K:=by
 refine ⟨λb t a w h0 hs=>?_⟩;refine wpIn_seq (wpIn_mono (h.jG b t a w h0 hs) ?_);rintro e a' w' ⟨σ',n',h1,h2⟩;cases e with
 |normal=>exact h1.jG b t a' w' h0 h2
 |_=>exact ⟨σ',n',h1,h2⟩
def Lc (id:Nat) (K:Exit->az->Nat->Prop) (e:Exit) (σ:az) (n:Nat):Prop:=match e with
 | .exit id'=>match Nat.beq id' id with|true=>K .normal σ n|false=>K (.exit id') σ n
 |e=>K e σ n
theorem db.YS {r:Option Nat} {nt lo n id:Nat} {c:Code} {K:Exit->az->Nat->Prop} (h:db P r nt lo c σ n (Lc id K)):db P r nt lo (.block id c) σ n K:=by
 refine ⟨λb t a w h0 hs=>?_⟩;refine wpIn_block (wpIn_mono (h.jG b t a w h0 hs) ?_);rintro e a' w' ⟨σ',n',h1,h2⟩;cases e with
 |exit id'=>
  simp only [Exit.inBlock];simp only [Lc] at h1;cases hb:Nat.beq id' id with
  |true=>
   grind [Nat.eq_of_beq_eq_true]
  |false=>
   rw [hb] at h1;rw [if_neg (λe=>by simp_all)];grind
 |_=>exact ⟨σ',n',h1,h2⟩
def Fi (σ:az) (c:Operand) (v:ae):az:=match c with
 | .tmp t=>aU σ (.aj t) (.ah v)
 |_=>σ
theorem nY.Qj {b:ek P} {t:nU} {nt n:Nat} (hs:nY b t nt σ n a w) {c:Operand} (ho:xM nt c=true) {v:ae} (hv:∀ g,aF w g (aM σ c) (a.eval c)->aF w g v (a.eval c)):nY b t nt (Am.Fi σ c v) n a w:=by
 obtain ⟨g,h,hf,hE,hn⟩:=hs;cases c with
 |tmp i=>
  have hi:i<nt:=eH ho;refine ⟨g,h.sZ (σ':=aU σ (.aj i) (.ah v)) (λid=>cL (by intro e;cases e)) (λid=>cL (by intro e;cases e)),⟨hf.mN,hf.nW,λj hj=>?_⟩,hE,hn⟩
  by_cases hij:j=i
  ·subst hij;show aF w g (dV (aU σ (.aj j) (.ah v)) j) _;rw [C3];exact hv g (hf.kI j hj)
  ·show aF w g (dV (aU σ (.aj i) (.ah v)) j) _;rw [wg (by grind)];exact hf.kI j hj
 |_=>exact ⟨g,h,hf,hE,hn⟩
theorem db.CE {r:Option Nat} {nt lo n:Nat} {c:Operand} {x y:Code} {K:Exit->az->Nat->Prop} (ho:xM nt c=true) (h:match aM σ c with| .bN=>db P r nt lo x σ n K| .bo=>db P r nt lo y σ n K| .aE q=>(q=true->db P r nt lo x (Fi σ c .bN) n K)/\(q=false->db P r nt lo y (Fi σ c .bo) n K)|_=>False):
  db P r nt lo (.cond c x y) σ n K:=by
 refine ⟨λb t a w h0 hs=>?_⟩;have hs':=hs;obtain ⟨g,_,hf,_,_⟩:=hs';have hr:aF w g (aM σ c) (a.eval c):=by
  rcases hf.KW c with h1|⟨i,rfl,hi⟩
  ·exact h1
  ·have:=eH ho;omega
 cases hc:aM σ c with
 |bN=>rw [hc] at h hr;exact wpIn_cond (t:=true) hr.xw (h.jG b t a w h0 hs)
 |bo=>rw [hc] at h hr;exact wpIn_cond (t:=false) hr.xr (h.jG b t a w h0 hs)
 |aE q=>
  rw [hc] at h hr;refine wpIn_cond_split hr.s9 (λe=>(h.1 e).jG b t a w h0 (hs.Qj ho λg' hg=>?_)) (λe=>(h.2 e).jG b t a w h0 (hs.Qj ho λg' hg=>?_))
  ·rw [hr.s9,e];exact .bC .rS
  ·rw [hr.s9,e];exact .bC .qj
 |_=>simp_all
theorem db.YV {r:Option Nat} {nt lo n id:Nat} {ops:List Oper} {K:Exit->az->Nat->Prop} (hT:dA P T) (hok:ops.all (λo=>tv nt o.dst)=true) (h:tw P T nt ops (E9 ops) ops 0 σ n (λσ n=>K .normal σ n)):db P r nt lo (.region id ops.toArray false) σ n K:=by
 refine ⟨λb t a w h0 hs=>?_⟩;refine wpIn_region_lit (AR hT (ops:=ops.toArray) (λj o' ho=>?_) ops 0 σ n _ a w h hs (λσ' n' a' w' hk hs'=>⟨σ',n',hk,hs'⟩));grind
def v8 (nt:Nat):List Oper->Bool
 |[]=>true
 |o::l=>match tv nt o.dst with|true=>v8 nt l|false=>false
theorem Ik {nt:Nat}:∀ {l:List Oper},v8 nt l=true->l.all (λo=>tv nt o.dst)=true
 |[],_=>rfl
 |o::l,h=>by
  simp only [v8] at h;cases ho:tv nt o.dst with
  |false=>simp [ho] at h
  |true=>simp only [ho] at h;simp [ho,Ik h]
end
section
variable {P:Program} {T:cN} {b:ek P} {t:nU} {σ σ':az} {D:Nat->Prop} {g:cf} {a:Act} {w:World}
def AX (σ:az):Op->List aS
 | .load _ x=>lU (aM σ x)
 | .store _ x _=>lU (aM σ x)
 | .convert _ _ x=>lU (aM σ x)
 | .next x _=>lU (aM σ x)
 | .call c=>match c.callee with
  | .builtin .append=>C0 (dQ σ c.args.toList)
  | .builtin .copy=>C0 (dQ σ c.args.toList)
  | .value fo=>match aM σ fo with
   | .aP _ first captured=>AZ (tw.gm first (tw.gm (dQ σ c.args.toList) captured))
   |_=>[]
  |_=>[]
 |_=>[]
where
 AZ:List ae->List aS
  |[]=>[]
  | .ar b _::l=> .af b::AZ l
  |_::l=>AZ l
 lU:ae->List aS
  | .ar b _=>[.af b]
  | .aL b _ _ _ _=>[.af b, .aJ 1]
  | .cz b=>[.af b]
  | .ag _ _ _ (.dB id)=>[.aJ id]
  | .ag _ _ _ (.cO id)=>[.aJ id]
  | .ag _ _ _ .bR=>[.aJ 0]
  |_=>[]
 C0:List ae->List aS
  |[]=>[]
  |x::l=>(lU x).append (C0 l)
theorem Lm {x:ae} {l:aS} (h:l∈AX.lU x):∀ {xs:List ae},x∈xs->l∈AX.C0 xs
 |y::ys,hx=>by
  simp only [AX.C0,List.append_eq,List.mem_append];rcases List.mem_cons.1 hx with rfl|hx
  ·exact .inl h
  ·exact .inr (Lm h hx)
theorem Y5 {o:Oper} (h:∀ x∈o.op.operands,aM σ x=aM σ' x):qk P σ o=qk P σ' o:=by
 funext v;apply propext;have key:∀ {σ σ':az},(∀ x∈o.op.operands,aM σ x=aM σ' x)->qk P σ o v->qk P σ' o v:=λh hp g a w hr=>hp g a w (λx hx=>by simp_all)
 grind
theorem Ls:∀ {ps:List (Nat×Operand)},(∀ p∈ps,aM σ p.2=aM σ' p.2)->nn σ ps=nn σ' ps
 |[],_=>rfl
 |(i,x)::ps,h=>by
  simp only [nn];rw [h (i,x) (by simp),Ls (λp hp=>h p (by simp [hp]))]
theorem Fc:∀ {xs:List Operand},(∀ x∈xs,aM σ x=aM σ' x)->dQ σ xs=dQ σ' xs
 |[],_=>rfl
 |x::xs,h=>by
  simp only [dQ];rw [h x (by simp),Fc (λp hp=>h p (by simp [hp]))]
theorem Lr {x:Option Operand} (h:∀ y,x=some y->aM σ y=aM σ' y):iq σ x=iq σ' x:=by
 cases x with
 |none=>rfl
 |some y=>grind [iq]
theorem ZT {tx:TypeId} {sz:Nat} {x:ae} {k k':List (List ae)->jW} (hk:∀ n,k n=k' n) (h:∀ l∈AX.lU x,σ l=σ' l):Cw σ T tx sz x k=Cw σ' T tx sz x k':=by
 have e:k=k':=funext hk;subst e;cases x with
 |aL b off sz' len full=>
  grind [AX.lU,Cw]
 |_=>rfl
theorem ZW {x:ae} {k k':Nat->List ae->jW} {sz:Nat} (hk:∀ n c,k n c=k' n c) (h:∀ l∈AX.lU x,σ l=σ' l):Cz σ x k sz=Cz σ' x k' sz:=by
 have e:k=k':=funext λn=>funext λc=>hk n c
 subst e;cases x with
 |aL b off sz' len full=>
  grind [AX.lU,Cz]
 |_=>rfl
theorem ZY {f:Nat} {t tx:TypeId} {s x:ae} (h1:∀ l∈AX.lU s,σ l=σ' l) (h2:∀ l∈AX.lU x,σ l=σ' l):CA σ T f t tx s x=CA σ' T f t tx s x:=by
 unfold CA;cases cY T t with
 |none=>rfl
 |some r=>
  obtain ⟨ti,a1,a2,a3⟩:=r;cases ti with
  |dK e=>
   simp only;cases cY T e with
   |none=>rfl
   |some r=>
    obtain ⟨ti2,sz,bytes,a4⟩:=r;simp only;refine ZT (λnews=>?_) h2;cases s with
    |ag isNil sz' els tk=>
     have hl:∀ tk',(∀ id,tk'=ql.dB id->tk= .dB id)->(∀ id,tk'=ql.cO id->tk= .cO id)->(tk'= .bR->tk= .bR)->∀ els,AB σ f e sz bytes isNil tk' news els=AB σ' f e sz bytes isNil tk' news els:=by
      intro tk' htk htb htt els;unfold AB;grind [AX.lU]
     simp only;rw [hl tk (λ_ h=>h) (λ_ h=>h) (λh=>h),hl (AH tk) (λid h=>by cases tk<;>cases h) (λid h=>by cases tk<;>cases h) (λh=>by cases tk<;>first|rfl|cases h)]
    |aL b off sz' len full=>
     have hb:=h1 (.af b) (by simp [AX.lU]);have hb2:=h1 (.aJ 1) (by simp [AX.lU]);cases off<;>cases full<;>simp only [hb,hb2]
    |_=>rfl
  |_=>rfl
theorem Z0 {t:TypeId} {d x:ae} (h1:∀ l∈AX.lU d,σ l=σ' l) (h2:∀ l∈AX.lU x,σ l=σ' l):CC σ T t d x=CC σ' T t d x:=by
 unfold CC;cases cY T t with
 |none=>rfl
 |some r=>
  obtain ⟨ti,a1,a2,a3⟩:=r;cases ti with
  |dK e=>
   simp only;cases cY T e with
   |none=>rfl
   |some r=>
    obtain ⟨ti2,sz,bytes,a4⟩:=r;simp only;refine ZW (λn c=>?_) h2;grind [AX.lU]
  |_=>rfl
theorem ZZ {f:Nat} {o:Oper} {bt:Builtin} {ts:List TypeId} {args:List ae} (hP:qk P σ o=qk P σ' o) (h:(bt= .append\/bt= .copy)->∀ l∈AX.C0 args,σ l=σ' l):CB P σ T f o bt ts args=CB P σ' T f o bt ts args:=by
 unfold CB;split
 ·rfl
 ·grind [ZY,Lm]
 ·grind [Z0,Lm]
 ·rfl
 ·rfl
 ·rw [hP]
theorem Z1 {f:Nat} {o:Oper} (ho:∀ x∈o.op.operands,aM σ x=aM σ' x) (hr:∀ l∈AX σ o.op,σ l=σ' l):df P T σ f o=df P T σ' f o:=by
 have hP:qk P σ o=qk P σ' o:=Y5 ho;obtain ⟨dst,op,ty,pos,after,guard⟩:=o;cases op with
 |load t x=>
  grind [Op.operands,df,HU,AX,AX.lU]
 |store t x y=>
  have hx:=ho x (by simp [Op.operands]);have hy:=ho y (by simp [Op.operands]);simp only [df,HV];rw [<-hx,<-hy];cases hX:aM σ x with
  |ar b off=>
   have hb:=hr (.af b) (by simp [AX,hX,AX.lU]);simp only [hb]
  |_=>rfl
 |convert s d x=>
  have hx:=ho x (by simp [Op.operands]);simp only [df,HQ];rw [<-hx];cases hX:aM σ x with
  |aL b off sz len full=>
   have hb:=hr (.af b) (by simp [AX,hX,AX.lU]);simp only [hb]
  |_=>rfl
 |next x str=>
  grind [Op.operands,df,AX,AX.lU]
 |range t x=>grind [df,Op.operands]
 |typeAssert x t at_ ok=>grind [df,Op.operands]
 |build t ps=>simp only [df];rw [Ls (λp hp=>ho p.2 (by grind [Op.operands]))]
 |buildSlice t n ps=>simp only [df];rw [Ls (λp hp=>ho p.2 (by grind [Op.operands]))]
 |slice t x lo hi mx=>
  simp only [df];rw [ho x (by simp [Op.operands]),Lr (x:=lo) (λy hy=>ho y (by simp [Op.operands,hy])),Lr (x:=hi) (λy hy=>ho y (by simp [Op.operands,hy])),Lr (x:=mx) (λy hy=>ho y (by simp [Op.operands,hy]))];rfl
 |makeFunc fn first captured=>
  cases fn with
  |func fn=>simp only [df];rw [Fc (xs:=first.toList) (λx hx=>ho x (by grind [Op.operands])),Fc (xs:=captured.toList) (λx hx=>ho x (by grind [Op.operands]))]
  |_=>simp only [df];rw [hP]
 |unOp op t x=>cases op<;>simp only [df]<;>first|grind [Op.operands]|rw [hP]
 |call c=>
  grind [df,Fc,Op.operands,Call.operands,ZZ,AX]
 |move x=>grind [df,Op.operands]
 |assign x=>grind [df,Op.operands]
 |pick c x y=>grind [df,Op.operands]
 |alloc t=>rfl
 |box t x=>grind [df,Op.operands]
 |nilCheck x=>grind [df,Op.operands]
 |binOp op t x y t'=>simp only [df];rw [ho x (by simp [Op.operands]),ho y (by simp [Op.operands]),hP]
 |fieldAddr s x i=>simp only [df];rw [ho x (by simp [Op.operands])]
 |field s x i=>simp only [df];rw [ho x (by simp [Op.operands])]
 |indexAddr t x i=>simp only [df];rw [ho x (by simp [Op.operands]),ho i (by simp [Op.operands])]
 |index t x i=>simp only [df];rw [ho x (by simp [Op.operands]),ho i (by simp [Op.operands]),hP]
 |extract x i=>grind [df,Op.operands]
 |makeSlice t l c=>simp only [df];rw [ho l (by simp [Op.operands]),ho c (by simp [Op.operands])]
 |makeInterface t x=>grind [df,Op.operands]
 |_=>simp only [df];rw [hP]
end
def jx (us:List (aS×bs)):List aS:=us.map (·.1)
theorem C4:∀ (us:List (aS×bs)) (σ:az) (l:aS),l∉jx us->eG σ us l=σ l
 |[],_,_,_=>rfl
 |(k,c)::us,σ,l,h=>by
  simp only [jx,List.map_cons,List.mem_cons,not_or] at h;rw [eG,C4 us _ l h.2,cL h.1]
theorem Ix:∀ (us:List (aS×bs)) (σ σ':az) (l:aS),l∈jx us->eG σ us l=eG σ' us l
 |[],_,_,_,h=>by simp [jx] at h
 |(k,c)::us,σ,σ',l,h=>by
  by_cases hm:l∈jx us
  ·rw [eG,eG,Ix us _ (aU σ' k c) l hm]
  ·have hk:l=k:=by
    grind [jx]
   subst hk;rw [eG,eG,C4 us _ l hm,C4 us _ l hm,gY,gY]
theorem xO:∀ (us vs:List (aS×bs)) (σ:az),eG σ (us++vs)=eG (eG σ us) vs
 |[],_,_=>rfl
 |(k,c)::us,vs,σ=>by simp only [List.cons_append,eG];exact xO us vs _
section
variable (W:Nat->List (aS×bs)) (σ0:az)
def kn (D:Nat->Bool):Nat->az
 |0=>σ0
 |k+1=>match D k with|true=>eG (kn D k) (W k)|false=>kn D k
theorem Lv {D D':Nat->Bool} (l:aS):∀ (k:Nat),(∀ j,j<k->l∈jx (W j)->D j=D' j)->kn W σ0 D k l=kn W σ0 D' k l
 |0,_=>rfl
 |k+1,h=>by
  have ih:=Lv (D:=D) (D':=D') l k (λj hj=>h j (Nat.lt_succ_of_lt hj))
  by_cases hl:l∈jx (W k)
  ·have e:=h k (Nat.lt_succ_self k) hl;simp only [kn];rw [e];cases D' k with
   |true=>grind [Ix]
   |false=>exact ih
  ·have key:∀ D,kn W σ0 D (k+1) l=kn W σ0 D k l:=λD=>by
    simp only [kn];cases D k with
    |true=>exact C4 _ _ _ hl
    |false=>rfl
   rw [key,key,ih]
def tA (D:Nat->Bool) (i:Nat):Nat->Bool:=λj=>match Nat.beq j i with|true=>true|false=>D j
theorem tB (D:Nat->Bool) (i:Nat):tA D i i=true:=by simp [tA]
theorem oS (D:Nat->Bool) {i j:Nat} (h:j≠i):tA D i j=D j:=by
 grind [Nat.eq_of_beq_eq_true,tA]
theorem ZV {D:Nat->Bool} {i N:Nat} (hi:i<N) (h0:D i=false) (hw:∀ j,j<N->i<j->D j=true->∀ l,l∈jx (W i)->l∉jx (W j)):kn W σ0 (tA D i) N=eG (kn W σ0 D N) (W i):=by
 funext l
 by_cases hl:l∈jx (W i)
 ·
  have key:∀ k,i+1<=k->k<=N->kn W σ0 (tA D i) k l=eG (kn W σ0 D k) (W i) l:=by
   intro k hk
   induction k with
   |zero=>omega
   |succ k ih=>
    intro hkN
    by_cases hki:k=i
    ·subst hki;simp only [kn,tB];grind [Ix]
    ·have ih:=ih om om;simp only [kn,oS D hki];cases hD:D k with
     |true=>
      grind [C4,Ix]
     |false=>exact ih
  grind
 grind [C4,Lv,oS]
end
def sd (D:Nat->Bool):Nat->Nat
 |0=>0
 |k+1=>sd D k+(match D k with|true=>0|false=>1)
theorem Qt {D D':Nat->Bool}:∀ (k:Nat),(∀ j,j<k->D j=D' j)->sd D k=sd D' k
 |0,_=>rfl
 |k+1,h=>by simp only [sd];rw [Qt k (λj hj=>h j (Nat.lt_succ_of_lt hj)),h k (Nat.lt_succ_self k)]
theorem Qu {D:Nat->Bool} {i:Nat} (h0:D i=false):∀ (k:Nat),i<k->sd (tA D i) k+1=sd D k
 |0,h=>by omega
 |k+1,h=>by
  simp only [sd]
  by_cases hki:k=i
  ·grind [tB,Qt,oS]
  ·rw [oS D hki,<-Qu h0 k om];omega
theorem Qv {D:Nat->Bool}:∀ (k:Nat),sd D k=0->∀ j,j<k->D j=true
 |0,_,j,hj=>by omega
 |k+1,h,j,hj=>by
  simp only [sd] at h;cases hD:D k with
  |false=>simp [hD] at h
  |true=>
   by_cases hjk:j=k
   ·subst hjk;exact hD
   ·exact Qv k om j om
def uM (o:Oper):List Nat:=CS o.after.toList
where
 CS:List Edge->List Nat
  |[]=>[]
  |e::l=>match Region.binds .any e with|true=>e.on::CS l|false=>CS l
theorem CR:∀ {l:List Edge} {d:Nat},d∈uM.CS l↔∃ e∈l,Region.binds .any e=true/\e.on=d
 |[],d=>by simp [uM.CS]
 |e::l,d=>by
  simp only [uM.CS];cases hb:Region.binds .any e with
  |true=>
   simp only [List.mem_cons,CR (l:=l)];grind
  |false=>
   simp only [CR (l:=l),List.mem_cons];simp_all
def CV (prev:List Nat):List Nat->Nat
 |[]=>0
 |d::l=>2^d|||(match lS prev d with|some m=>m|none=>0)|||CV prev l
def lT:List Oper->List Nat->List Nat
 |[],prev=>prev
 |o::l,prev=>lT l (prev++[CV prev (uM o)])
def E7:Nat->List Nat->Bool
 |_,[]=>true
 |i,d::l=>match Nat.blt d i with|true=>E7 i l|false=>false
def zj:Nat->List Oper->Bool
 |_,[]=>true
 |i,o::l=>match E7 i (uM o) with|true=>zj (i+1) l|false=>false
theorem Qy:∀ {i:Nat} {l:List Nat},E7 i l=true->∀ d∈l,d<i
 |i,[],_,d,h=>by simp at h
 |i,e::l,h,d,hd=>by
  simp only [E7] at h;cases hb:Nat.blt e i with
  |false=>simp [hb] at h
  |true=>
   simp only [hb] at h;rcases List.mem_cons.1 hd with rfl|hd
   ·exact eH hb
   ·exact Qy h d hd
theorem Li:∀ {l:List Oper} {i:Nat},zj i l=true->∀ (j:Nat) (o:Oper),l[j]? =some o->∀ d∈uM o,d<i+j
 |[],i,_,j,o,h,_,_=>by simp at h
 |o'::l,i,h,j,o,hj,d,hd=>by
  simp only [zj] at h;cases hb:E7 i (uM o') with
  |false=>simp [hb] at h
  |true=>
   simp only [hb] at h;cases j with
   |zero=>simp at hj;subst hj;have:=Qy hb d hd;omega
   |succ j=>have:=Li h j o (by simpa using hj) d hd;omega
def CI (ops:List Oper) (D:Nat->Bool):Prop:=∀ (j:Nat) (o:Oper),ops[j]? =some o->D j=true->∀ d∈uM o,D d=true
theorem QO {prev:List Nat} {D:Nat->Bool} (hp:∀ (d m:Nat),prev[d]? =some m->D d=true->∀ k,m.testBit k=true->D k=true):∀ {l:List Nat},(∀ d∈l,D d=true)->∀ k,(CV prev l).testBit k=true->D k=true
 |[],_,k,h=>by simp [CV] at h
 |d::l,hd,k,h=>by
  simp only [CV,Nat.testBit_or,Bool.or_eq_true] at h;rcases h with (h|h)|h
  ·grind
  ·grind [td]
  ·exact QO hp (λe he=>hd e (by simp [he])) k h
theorem Lo {all:List Oper} {D:Nat->Bool} (hD:CI all D):∀ (l:List Oper) (prev:List Nat),(∀ (j:Nat) (o:Oper),l[j]? =some o->all[prev.length+j]? =some o)->
  (∀ (d m:Nat),prev[d]? =some m->D d=true->∀ k,m.testBit k=true->D k=true)->∀ (d m:Nat),(lT l prev)[d]? =some m->D d=true->∀ k,m.testBit k=true->D k=true
 |[],prev,_,hp=>hp
 |o::l,prev,hl,hp=>by
  refine Lo hD l (prev++[CV prev (uM o)]) (λj o' hj=>?_) (λd m hm hd k hk=>?_)
  ·have:=hl (j+1) o' (by simpa using hj);grind
  ·by_cases hlt:d<prev.length
   ·grind
   ·have hdl:d=prev.length:=by
     grind
    subst hdl;rw [List.getElem?_append_right (Nat.le_refl _),Nat.sub_self] at hm;simp at hm;subst hm;have h0:=hl 0 o rfl;rw [Nat.add_zero] at h0;exact QO hp (hD _ o h0 hd) k hk
structure gl where
 H3:List aS
 CJ:List aS
def CW (l:aS):List aS->Bool
 |[]=>false
 |k::r=>match l.y6 k with|true=>true|false=>CW l r
theorem QP {l:aS}:∀ {r:List aS},CW l r=true↔l∈r
 |[]=>by simp [CW]
 |k::r=>by
  simp only [CW];cases hb:l.y6 k with
  |true=>simp [aS.EJ.1 hb]
  |false=>
   have hne:l≠k:=λe=>by grind [aS.EJ]
   simp [QP (r:=r),hne]
def CX:List aS->List aS->Bool
 |[],_=>true
 |l::r,m=>match CW l m with|true=>false|false=>CX r m
theorem Iq:∀ {r m:List aS},CX r m=true->∀ l∈r,l∉m
 |[],m,_,l,h=>by simp at h
 |k::r,m,h,l,hl=>by
  simp only [CX] at h;cases hk:CW k m with
  |true=>simp [hk] at h
  |false=>
   simp only [hk] at h;rcases List.mem_cons.1 hl with rfl|hl
   ·grind [QP]
   ·exact Iq h l hl
def xK (x y:gl):Bool:=match CX x.CJ y.CJ with
 |false=>false
 |true=>match CX x.CJ y.H3 with
  |false=>false
  |true=>CX y.CJ x.H3
def AQ (m:Nat) (y:gl):Nat->List gl->Bool
 |_,[]=>true
 |i,x::l=>match Nat.testBit m i with
  |true=>AQ m y (i+1) l
  |false=>match xK x y with|true=>AQ m y (i+1) l|false=>false
theorem Qp {m:Nat} {y:gl}:∀ {l:List gl} {i:Nat},AQ m y i l=true->∀ (j:Nat) (x:gl),l[j]? =some x->m.testBit (i+j)=true\/xK x y=true
 |[],i,_,j,x,h=>by simp at h
 |z::l,i,h,j,x,hj=>by
  simp only [AQ] at h;have step:AQ m y (i+1) l=true->∀ j',j=j'+1->m.testBit (i+j)=true\/xK x y=true:=λh j' e=>by
   subst e;have:=Qp h j' x (by simpa using hj);grind
  cases ht:Nat.testBit m i with
  |true=>
   simp only [ht] at h;cases j with
   |zero=>exact .inl ht
   |succ j=>exact step h j rfl
  |false=>
   simp only [ht] at h;cases ha:xK z y with
   |false=>simp [ha] at h
   |true=>
    simp only [ha] at h;cases j with
    |zero=>simp_all
    |succ j=>exact step h j rfl
def CQ (prev:List gl):List Nat->List gl->Bool
 |m::ms,y::ys=>match AQ m y 0 prev with|true=>CQ (prev++[y]) ms ys|false=>false
 |[],[]=>true
 |_,_=>false
theorem Qw:∀ {prev:List gl} {ms:List Nat} {ys:List gl},CQ prev ms ys=true->∀ (i j:Nat) (m:Nat) (x y:gl),ms[j]? =some m->ys[j]? =some y->(prev++ys)[i]? =some x->i<prev.length+j->m.testBit i=true\/xK x y=true
 |prev,[],ys,h,i,j,m,x,y,hm,hy,hx,hij=>by simp at hm
 |prev,m'::ms,[],h,i,j,m,x,y,hm,hy,hx,hij=>by simp at hy
 |prev,m'::ms,y'::ys,h,i,j,m,x,y,hm,hy,hx,hij=>by
  simp only [CQ] at h;cases ha:AQ m' y' 0 prev with
  |false=>simp [ha] at h
  |true=>
   simp only [ha] at h;cases j with
   |zero=>
    simp at hm hy;subst hm hy;rw [List.getElem?_append_left om] at hx;have:=Qp ha i x hx;simp_all
   |succ j=>
    exact Qw h i j m x y (by simpa using hm) (by simpa using hy) (by simp_all) (by simp;omega)
theorem Lp:∀ (l:List Oper) (prev:List Nat),(lT l prev).length=prev.length+l.length
 |[],prev=>by simp [lT]
 |o::l,prev=>by rw [lT,Lp l];simp;omega
def E6 (ops:List Oper) (fps:List gl):Bool:=match zj 0 ops with
 |true=>CQ [] (lT ops []) fps
 |false=>false
section
variable {P:Program} {T:cN} {b:ek P} {t:nU} {σ σ':az} {D:Nat->Prop} {g:cf} {a:Act} {w:World}
def A0:List Operand->List aS
 |[]=>[]
 | .tmp t::l=> .aj t::A0 l
 |_::l=>A0 l
theorem Q6:∀ {l:List Operand} {t:Nat},Operand.tmp t∈l->aS.aj t∈A0 l
 |x::l,t,h=>by
  rcases List.mem_cons.1 h with h|h
  ·grind [A0]
  ·have:=Q6 h;cases x<;>simp [A0,this]
def Ll (all:List Oper):Option (Nat×Bool)->List aS
 |none=>[]
 |some (j,_)=>match lS all j with
  |some o=>match o.dst with|some d=>[.aj d]|none=>[]
  |none=>[]
def lD (σ:az) (all:List Oper) (o:Oper):List aS:=(A0 (ra o.op)).append ((Ll all o.guard).append (AX σ o.op))
def oQ (dst:Option Tmp) (v:ae):List (aS×bs):=match dst with|none=>[]|some d=>[(.aj d, .ah v)]
theorem tC (σ:az) (dst:Option Tmp) (v:ae):eG σ (oQ dst v)=Fg σ dst v:=by cases dst<;>rfl
def Qn (v v':ae):Prop:=∀ (w:World) (g:cf) (val:Value),aF w g v val->aF w g v' val
def QI:Op->Bool
 | .call c=>match c.callee with| .value _=>true|_=>false
 |_=>false
structure K0 (P:Program) (f:FuncId) (args:List ae) (σ:az) (res:ae):Prop where
 Y6:oP P f
 Y7:∀ (σ':az),(∀ l∈AX.AZ args,σ' l=σ l)->∀ (b:ek P) (D:Nat->Prop) (g:cf) (w:World) (vals:List Value),bh b σ' D g w->vals.length=args.length->(∀ (i:Nat) (x:ae) (v:Value),args[i]? =some x->vals[i]? =some v->aF w g x v)->
  Calls P f vals.toArray w λe w'=>∃ v g',e= .returned v/\aF w' g' res v/\bh b σ' D g' w'/\dp g w g' w'
structure CN (P:Program) (f:FuncId) (args:List ae) (σ:az) (rx:List aS) (wx:List (aS×bs)) (res:ae):Prop where
 Zl:oP P f
 Zm:∀ (σ':az),(∀ l∈rx,σ' l=σ l)->∀ (b:ek P) (D:Nat->Prop) (g:cf) (w:World) (vals:List Value),bh b σ' D g w->vals.length=args.length->(∀ (i:Nat) (x:ae) (v:Value),args[i]? =some x->vals[i]? =some v->aF w g x v)->
  Calls P f vals.toArray w λe w'=>∃ v g',e= .returned v/\aF w' g' res v/\bh b (eG σ' wx) D g' w'/\dp g w g' w'
theorem K0.Ia {f:FuncId} {args:List ae} {res:ae} (h:K0 P f args σ res):CN P f args σ (AX.AZ args) [] res:=⟨h.Y6,h.Y7⟩
theorem CN.AP {f:FuncId} {args:List ae} {res:ae} (hp:aC P f (q9 args) res) (hpure:rb args=true):CN P f args σ [] [] res:=
 ⟨hp.KZ,λ_ _ _ _ _ _ _ h hl hv=>(aC.Qg hp hpure h hl hv).mono λ_ _ ⟨v,g',h1,h2,h3,h4,_⟩=>⟨v,g',h1,h2,h3,h4⟩⟩
structure mi (P:Program) (m0:Nat) (f:FuncId) (args:List ae) (σ:az) (n:Nat) (rx:List aS) (wx:List (aS×bs)) (res:ae):Prop where
 AI:oP P f
 AJ:∀ (σ':az),(∀ l∈rx,σ' l=σ l)->∀ (b:ek P) (D:Nat->Prop) (g:cf) (w:World) (vals:List Value),(∀ i,i<m0->D i)->bh b σ' D g w->g.aZ n=none->g.cu n=none->vals.length=args.length->(∀ (i:Nat) (x:ae) (v:Value),args[i]? =some x->vals[i]? =some v->aF w g x v)->
  Calls P f vals.toArray w λe w'=>∃ v g',e= .returned v/\aF w' g' res v/\bh b (eG σ' wx) (λi=>D i\/i=n) g' w'/\dp g w g' w'
theorem CN.zi {f:FuncId} {args:List ae} {n:Nat} {rx:List aS} {wx:List (aS×bs)} {res:ae} (h:CN P f args σ rx wx res):mi P 0 f args σ n rx wx res:=
 ⟨h.Zl,λσ' h1 b D g w vals _ h2 _ _ h5 h6=>(h.Zm σ' h1 b D g w vals h2 h5 h6).mono λ_ _ ⟨v,g',e1,e2,e3,e4⟩=>⟨v,g',e1,e2,e3.iU (λ_ hi=> .inl hi),e4⟩⟩
theorem mi.Y1 {m0:Nat} {f:FuncId} {args:List ae} {n:Nat} {rx:List aS} {wx:List (aS×bs)} {res:ae} (h:mi P m0 f args σ n rx wx res) (hr:∀ l∈rx,σ l=σ' l):mi P m0 f args σ' n rx wx res:=
 ⟨h.AI,λσ1 h1=>h.AJ σ1 λl hl=>(h1 l hl).trans (hr l hl).symm⟩
def AK (P:Program) (T:cN) (nt:Nat) (all:List Oper) (lo0 f:Nat) (σ:az) (o:Oper) (rx:List aS) (wr:List (aS×bs)):Prop:=
 wb nt o=true/\
 ((qt σ all o.guard=some false/\wr=oQ o.dst (.aw []))\/
  (qt σ all o.guard=some true/\
   ((∃ v us v',QI o.op=false/\(df P T σ f o).fV v us/\n9 us=true/\Qn v v'/\wr=us++oQ o.dst v')\/
    (∃ fo args ats fn first captured res v' wx m0,m0<=lo0/\o.op= .call ⟨.value fo,args,ats⟩/\aM σ fo= .aP fn first captured/\
     mi P m0 fn (first++(dQ σ args.toList++captured)) σ f rx wx res/\n9 wx=true/\Qn res v'/\wr=wx++oQ o.dst v'))))
inductive xJ (P:Program) (T:cN) (nt:Nat) (all:List Oper) (lo0:Nat):Nat->az->List Oper->List (List (aS×bs))->List gl->az->Prop
 |zh {f:Nat} {σ:az}:xJ P T nt all lo0 f σ [] [] [] σ
 |La {f:Nat} {σ σ':az} {o:Oper} {rest:List Oper} {wr:List (aS×bs)} {ws:List (List (aS×bs))} {fps:List gl} {rx:List aS} (h:AK P T nt all lo0 f σ o rx wr) (h':xJ P T nt all lo0 (f+1) (eG σ wr) rest ws fps σ'):
   xJ P T nt all lo0 f σ (o::rest) (wr::ws) (⟨rx++lD σ all o,jx wr⟩::fps) σ'
theorem ZE {all:List Oper} {gd:Option (Nat×Bool)} (h:∀ l∈Ll all gd,σ l=σ' l):qt σ all gd=qt σ' all gd:=by
 cases gd with
 |none=>rfl
 |some jw=>
  grind [qt,Ll,dV]
theorem ZO {x:Operand} {l:List Operand} (hx:x∈l) (h:∀ k∈A0 l,σ k=σ' k):aM σ x=aM σ' x:=by
 cases x with
 |tmp t=>
  have:=h (.aj t) (Q6 hx);show dV σ t=dV σ' t;grind [dV]
 |_=>rfl
theorem AK.Y2 {nt:Nat} {all:List Oper} {lo0 f:Nat} {o:Oper} {rx:List aS} {wr:List (aS×bs)} (h:AK P T nt all lo0 f σ o rx wr) (hr0:∀ l∈rx++lD σ all o,σ l=σ' l):AK P T nt all lo0 f σ' o rx wr:=by
 have hr:∀ l∈lD σ all o,σ l=σ' l:=λl hl=>hr0 l (List.mem_append_right _ hl)
 have h1:∀ x∈o.op.operands,aM σ x=aM σ' x:=λx hx=>ZO (QV o.op x hx) (λk hk=>hr k (by simp [lD,hk]))
 have h2:=ZE (σ:=σ) (σ':=σ') (all:=all) (gd:=o.guard) (λk hk=>hr k (by simp [lD,hk]));have h3:=Z1 (P:=P) (T:=T) (f:=f) h1 (λk hk=>hr k (by simp [lD,hk]));obtain ⟨ho,hh⟩:=h;refine ⟨ho,?_⟩;rw [<-h2,<-h3];rcases hh with hh|⟨hg,hh⟩
 ·exact .inl hh
 ·refine .inr ⟨hg,?_⟩;rcases hh with hh|⟨fo,args,ats,fn,first,captured,res,v',wx,m0,em,e1,e2,e4,en,e5,e6⟩
  ·exact .inl hh
  ·have hargs:dQ σ args.toList=dQ σ' args.toList:=Fc (λx hx=>h1 x (by grind [Op.operands,Call.operands]));refine .inr ⟨fo,args,ats,fn,first,captured,res,v',wx,m0,em,e1,?_,by rw [<-hargs];exact e4.Y1 (λl hl=>hr0 l (List.mem_append_left _ hl)),en,e5,e6⟩;grind [Op.operands,Call.operands]
theorem AK.Y3 (hT:dA P T) {r:Option Nat} {n0 nt:Nat} {ops:Array Oper} (hok:∀ (j:Nat) (o':Oper),ops[j]? =some o'->tv nt o'.dst=true) {Q:Exit->Act->World->Prop} {i lo0 f:Nat} {o:Oper} (hi:ops[i]? =some o) {rx:List aS} {wr:List (aS×bs)}
  (h1:AK P T nt ops.toList lo0 f σ o rx wr) (hD:∀ i,i<lo0->D i) (h:bh b σ D g w) (hf1:g.aZ f=none) (hf2:g.cu f=none) (hf:mg n0 nt σ g a w) {K:Act->World->Prop}
  (hK:∀ a' w' g',bh b (eG σ wr) (λj=>D j\/j=f) g' w'->mg n0 nt (eG σ wr) g' a' w'->dp g w g' w'->K a' w'):wpOpIn (nr r) 0 P ops Q i K a w:=by
 obtain ⟨hoo,hh⟩:=h1;obtain ⟨hop,hdst⟩:=hf.KX hoo;unfold wpOpIn;simp only [hi];rcases hh with ⟨hg,e⟩|⟨hg,hh⟩
 ·have hwant:=Im hf hg hok;rw [if_neg (by rw [hwant];simp)];subst e;refine ⟨λ_ _=>trivial,?_⟩;refine hK _ w g ?_ ?_ (dp.qg g w)
  ·rw [tC];exact (h.vZ _ _).iU (λ_ hi=> .inl hi)
  ·rw [tC];exact hf.vY hdst (.bC (.rT (vs:=[]) rfl (by simp)))
 ·have hwant:=Im hf hg hok;rw [if_pos hwant];rcases hh with ⟨v,us,v',hc,hgv,hnt,hup,e⟩|⟨fo,args,ats,fn,first,captured,res,v',wx,m0,em,e1,e2,e4,en,e5,e6⟩
  ·subst e;obtain ⟨nx,val,w',g',hr,hnx,hrep,h',hE'⟩:=Q4 hT h hf1 hf2 hgv hop;have hf':mg n0 nt (eG σ us) g' a w':=(hf.xH hE').qo (λi=>Fm us σ i hnt);have fin:K (a.put o.dst val) w':=by
    refine hK _ w' g' ?_ ?_ hE'
    ·rw [xO,tC];exact h'.vZ _ _
    ·rw [xO,tC];exact hf'.vY hdst (hup _ _ _ hrep)
   unfold Oper.wpIn;refine ⟨λ_ _=>trivial,?_⟩;rw [Oper.semAt_eq _ _ _ (Ip hr hnx),hr];rcases hnx with rfl|⟨rfl,rfl⟩
   ·exact fin
   ·exact fin
  ·subst e6;obtain ⟨dst,op,ty,pos,after,guard⟩:=o;simp only at e1;subst e1;have hfr:=hop fo (by simp [Op.operands,Call.operands]);rw [e2] at hfr;obtain ⟨vs,us,q1,l1,l2,r1,r2⟩:=hfr.y7;have hrun:=Ld (P:=P) (w:=w) (a:=a) e4.AI (c:=⟨.value fo,args,ats⟩) rfl q1 (dst:=dst) (ty:=ty) (pos:=pos) (after:=after) (guard:=guard);unfold Oper.wpIn;refine ⟨λ_ _=>trivial,?_⟩;rw [Oper.semAt_eq _ _ _ (λc h=>by cases h),hrun,Oper.uponIn_enter];refine ⟨zk r 0,?_⟩;have harg:∀ x∈args,aF w g (aM σ x) (a.eval x):=λx hx=>hop x (by simp [Op.operands,Call.operands,hx])
   have ha:=uN harg;refine CP ?_;refine (e4.AJ σ (λ_ _=>rfl) b D g w (vs++(args.map a.eval).toList++us) (λi hi=>hD i om) h hf1 hf2 (by simp [l1,l2,qu]) (by grind [qu])).mono ?_;rintro e w' ⟨v,g',rfl,hrep,h',hE'⟩;refine hK _ w' g' ?_ ?_ hE'
   ·rw [xO,tC];exact h'.vZ _ _
   ·rw [xO,tC];exact ((hf.xH hE').qo (λi=>Fm wx σ i en)).vY hdst (e5 _ _ _ hrep)
def oe (σ:az) (ws:List (List (aS×bs))):Nat->az
 |0=>σ
 |k+1=>eG (oe σ ws k) (ws.getD k [])
theorem Iw (σ:az) (wr:List (aS×bs)) (ws:List (List (aS×bs))):∀ k,oe σ (wr::ws) (k+1)=oe (eG σ wr) ws k
 |0=>rfl
 |k+1=>by rw [oe,Iw σ wr ws k];rfl
theorem xJ.Zj {nt:Nat} {all:List Oper} {lo0:Nat} {l:List Oper} {f:Nat} {σ σ':az} {ws:List (List (aS×bs))} {fps:List gl} (h:xJ P T nt all lo0 f σ l ws fps σ'):
  σ'=oe σ ws l.length/\∀ (i:Nat) (o:Oper),l[i]? =some o->∃ fp rx,fps[i]? =some fp/\fp.CJ=jx (ws.getD i [])/\fp.H3=rx++lD (oe σ ws i) all o/\AK P T nt all lo0 (f+i) (oe σ ws i) o rx (ws.getD i []):=by
 induction h with
 |zh=>exact ⟨rfl,λi o h=>by simp at h⟩
 |La h _ ih=>
  obtain ⟨e,ih⟩:=ih;refine ⟨?_,λi o' hi=>?_⟩
  ·grind [Iw]
  ·cases i with
   |zero=>
    simp at hi;subst hi;exact ⟨_,_,rfl,rfl,rfl,h⟩
   |succ i=>
    grind [Iw]
theorem Fh (σ0:az) (ws:List (List (aS×bs))) (i:Nat):∀ k,kn (λj=>ws.getD j []) σ0 (λj=>Nat.blt j i) k=oe σ0 ws (min k i)
 |0=>by simp [kn,oe]
 |k+1=>by
  simp only [kn];rw [Fh σ0 ws i k];cases hb:Nat.blt k i with
  |true=>
   have:=eH hb;rw [show min (k+1) i=k+1 by omega,show min k i=k by omega];rfl
  |false=>
   grind [Nat.blt_eq]
theorem xJ.Zk {nt:Nat} {all:List Oper} {lo0:Nat} {l:List Oper} {f:Nat} {σ σ':az} {ws:List (List (aS×bs))} {fps:List gl} (h:xJ P T nt all lo0 f σ l ws fps σ'):ws.length=l.length/\fps.length=l.length:=by
 induction h with
 |zh=>omega
 |La _ _ ih=>simp [ih.1,ih.2]
theorem Q2 (σ:az) (ws:List (List (aS×bs))):∀ (lo k:Nat),oe σ (List.replicate lo []++ws) (lo+k)=oe σ ws k
 |0,k=>by simp
 |lo+1,k=>by
  rw [List.replicate_succ,List.cons_append,show lo+1+k=(lo+k)+1 by omega,Iw];exact Q2 σ ws lo k
theorem Lh (hi:Nat):∀ (k:Nat),sd (λj=>Nat.blt j hi) k=k - hi
 |0=>by simp [sd]
 |k+1=>by
  simp only [sd,Lh hi k];grind [Nat.blt_eq]
theorem Zx {a b:Nat} (h:Nat.blt a b=false):¬a<b:=λh'=>by grind [Nat.blt_eq]
theorem Qx (hT:dA P T) {r:Option Nat} {nt n lo lo0:Nat} {ops seg:List Oper} {σ0 σ1:az} {ws:List (List (aS×bs))} {fps:List gl} (hseg:∀ i,i<seg.length->ops[lo+i]? =seg[i]?) (hhi:lo+seg.length<=ops.length)
  (hlo0:lo0<=n) (htr:xJ P T nt ops lo0 n σ0 seg ws fps σ1) (he:zj 0 ops=true) (hc:CQ [] ((lT ops []).take (lo+seg.length)) (List.replicate lo ⟨[],[]⟩++fps)=true) (hok:v8 nt ops=true)
  (hbar:∀ i,lo+seg.length<=i->i<ops.length->∀ j,j<lo+seg.length->∃ m,(lT ops [])[i]? =some m/\m.testBit j=true) {Q:Exit->Act->World->Prop} {t:nU}
  (fin:∀ (listed:Array Bool) (a:Act) (w:World) (g:cf),listed.size=ops.length->(∀ j,listed.getD j false=Nat.blt j (lo+seg.length))->bh b σ1 (·<n+seg.length) g w->mg t.uG.heap.size nt σ1 g a w->dp t.AA t.uG g w->
   wpAnyIn (nr r) 0 P .any ops.toArray Q (ops.length - (lo+seg.length)) listed a w) (listed:Array Bool) (a:Act) (w:World) (g:cf) (hsz0:listed.size=ops.length) (hl0:∀ j,listed.getD j false=Nat.blt j lo)
  (hs0:bh b σ0 (·<n) g w) (hf0:mg t.uG.heap.size nt σ0 g a w) (hE0:dp t.AA t.uG g w):wpAnyIn (nr r) 0 P .any ops.toArray Q (ops.length - lo) listed a w:=by
 obtain ⟨etr,hat0⟩:=htr.Zj;obtain ⟨hwl,hfl⟩:=htr.Zk;have hoks:∀ (j:Nat) (o':Oper),ops.toArray[j]? =some o'->tv nt o'.dst=true:=λj o' ho=>List.all_eq_true.1 (Ik hok) o' (List.mem_of_getElem? (by simpa using ho))
 have hearl:∀ (j:Nat) (o:Oper),ops[j]? =some o->∀ d∈uM o,d<j:=λj o hj d hd=>by have:=Li he j o hj d hd;omega
 generalize hws:List.replicate lo []++ws=ws';generalize hfp:List.replicate lo (⟨[],[]⟩:gl)++fps=fps' at hc;generalize hh:lo+seg.length=hi at*
 let W:Nat->List (aS×bs):=λj=>ws'.getD j []
 have hpad:∀ k,oe σ0 ws' (lo+k)=oe σ0 ws k:=λk=>by rw [<-hws];exact Q2 σ0 ws lo k
 have hWlo:∀ j,j<lo->W j=[]:=λj hj=>by
  show ws'.getD j []=[];rw [<-hws,List.getD_eq_getElem?_getD,List.getElem?_append_left (by simpa using hj),List.getElem?_replicate];simp [hj]
 have hWhi:∀ j,hi<=j->W j=[]:=λj hj=>by
  show ws'.getD j []=[];rw [<-hws,List.getD_eq_getElem?_getD,List.getElem?_eq_none (by simp;omega)];rfl
 have hin:∀ j l,l∈jx (W j)->lo<=j/\j<hi:=λj l hl=>by
  refine ⟨?_,?_⟩
  ·rcases Nat.lt_or_ge j lo with h|h
   ·rw [hWlo j h] at hl;simp [jx] at hl
   ·exact h
  ·rcases Nat.lt_or_ge j hi with h|h
   ·exact h
   ·rw [hWhi j h] at hl;simp [jx] at hl
 have hat:∀ (i:Nat) (o:Oper),lo<=i->i<hi->ops[i]? =some o->∃ fp rx,fps'[i]? =some fp/\fp.CJ=jx (ws'.getD i [])/\fp.H3=rx++lD (oe σ0 ws' i) ops o/\AK P T nt ops lo0 (n+(i - lo)) (oe σ0 ws' i) o rx (ws'.getD i []):=by
  intro i o h1 h2 h3;obtain ⟨k,rfl⟩:∃ k,i=lo+k:=⟨i - lo,om⟩;have hk:k<seg.length:=om;rw [hseg k hk] at h3;obtain ⟨fp,rx,q1,q2,q3,q4⟩:=hat0 k o h3;have e1:ws'.getD (lo+k) []=ws.getD k []:=by
   rw [<-hws,List.getD_eq_getElem?_getD,List.getElem?_append_right (by simp),List.getD_eq_getElem?_getD];simp
  refine ⟨fp,rx,?_,by rw [e1];exact q2,by rw [hpad];exact q3,?_⟩
  ·rw [<-hfp,List.getElem?_append_right (by simp)];simpa using q1
  ·rw [e1,hpad,Nat.add_sub_cancel_left];exact q4
 have hcomp:∀ (i j:Nat) (oi oj:Oper) (x y:gl),i<j->j<hi->ops[i]? =some oi->ops[j]? =some oj->fps'[i]? =some x->fps'[j]? =some y->(∃ m,(lT ops [])[j]? =some m/\m.testBit i=true)\/xK x y=true:=by
  intro i j oi oj x y hij hjh hi' hj hx hy;have hjl:j<(lT ops []).length:=by rw [Lp];have:=(List.getElem?_eq_some_iff.1 hj).1;simpa using this
  have hm:((lT ops []).take hi)[j]? =some (lT ops [])[j]:=by rw [List.getElem?_take,if_pos hjh];exact List.getElem?_eq_getElem hjl
  rcases Qw hc i j (lT ops [])[j] x y hm hy (by simpa using hx) (by simpa using hij) with h1|h1
  ·exact .inl ⟨_,List.getElem?_eq_getElem hjl,h1⟩
  ·exact .inr h1
 have hmask:∀ (D:Nat->Bool),CI ops D->∀ (j m:Nat),(lT ops [])[j]? =some m->D j=true->∀ k,m.testBit k=true->D k=true:=λD hD=>Lo hD ops [] (λj o hj=>by simpa using hj) (by simp)
 have key:∀ (fuel:Nat) (listed:Array Bool) (a:Act) (w:World) (g:cf),listed.size=ops.length->CI ops (λj=>listed.getD j false)->(∀ j,j<lo->listed.getD j false=true)->(∀ j,hi<=j->listed.getD j false=false)->sd (λj=>listed.getD j false) ops.length=fuel->
   bh b (kn W σ0 (λj=>listed.getD j false) ops.length) (λid=>id<n\/∃ j,lo<=j/\listed.getD j false=true/\id=n+(j - lo)) g w->mg t.uG.heap.size nt (kn W σ0 (λj=>listed.getD j false) ops.length) g a w->dp t.AA t.uG g w->
   wpAnyIn (nr r) 0 P .any ops.toArray Q fuel listed a w:=by
  intro fuel
  induction fuel with
  |zero=>
   intro listed a w g hsz hcl hlo hhi' hcnt hs hfs hEE;have hall:=Qv _ hcnt;have hie:ops.length<=hi:=by
    rcases Nat.lt_or_ge hi ops.length with h|h
    ·have h1:=hall hi h;rw [hhi' hi (Nat.le_refl _)] at h1;cases h1
    ·exact h
   have hpre:∀ j,listed.getD j false=Nat.blt j hi:=λj=>by
    rcases Nat.lt_or_ge j hi with h|h
    ·have hb:Nat.blt j hi=true:=by rw [Nat.blt_eq];exact h
     rw [hb];exact hall j om
    ·have hb:Nat.blt j hi=false:=by
      cases hb:Nat.blt j hi with
      |false=>rfl
      |true=>have:=eH hb;omega
     rw [hb];exact hhi' j h
   have hsd:kn W σ0 (λj=>listed.getD j false) ops.length=σ1:=by
    rw [show (λj=>listed.getD j false)=λj=>Nat.blt j hi from funext hpre,Fh,Nat.min_eq_right om,<-hh,hpad,<-etr]
   rw [hsd] at hs hfs;have:=fin listed a w g hsz hpre (hs.iU (λid hid=>by
    rcases hid with hid|⟨j,h1,h2,rfl⟩
    ·omega
    ·rw [hpre] at h2;have:=eH h2;omega)) hfs hEE
   rwa [show ops.length - hi=0 by omega] at this
  |succ fuel ih=>
   intro listed a w g hsz hcl hlo hhi' hcnt hs hfs hEE
   by_cases hfull:∀ j,j<hi->listed.getD j false=true
   ·have hpre:∀ j,listed.getD j false=Nat.blt j hi:=λj=>by
     rcases Nat.lt_or_ge j hi with h|h
     ·have hb:Nat.blt j hi=true:=by rw [Nat.blt_eq];exact h
      rw [hb];exact hfull j h
     ·have hb:Nat.blt j hi=false:=by
       cases hb:Nat.blt j hi with
       |false=>rfl
       |true=>have:=eH hb;omega
      rw [hb];exact hhi' j h
    have hsd:kn W σ0 (λj=>listed.getD j false) ops.length=σ1:=by
     rw [show (λj=>listed.getD j false)=λj=>Nat.blt j hi from funext hpre,Fh,Nat.min_eq_right om,<-hh,hpad,<-etr]
    rw [hsd] at hs hfs;rw [show (λj=>listed.getD j false)=λj=>Nat.blt j hi from funext hpre,Lh] at hcnt;have:=fin listed a w g hsz hpre (hs.iU (λid hid=>by
     rcases hid with hid|⟨j,h1,h2,rfl⟩
     ·omega
     ·rw [hpre] at h2;have:=eH h2;omega)) hfs hEE
    rwa [hcnt] at this
   obtain ⟨ju,hju,hjuD⟩:∃ j,j<hi/\listed.getD j false=false:=by
    refine Classical.byContradiction λhno=>hfull λj hj=>?_
    cases hl:listed.getD j false with
    |true=>rfl
    |false=>exact absurd ⟨j,hj,hl⟩ hno
   refine ⟨λhready=>?_,λi hi2=>?_⟩
   ·
    exfalso;obtain ⟨j0,hj0,hl0⟩:∃ j,j<ops.length/\listed.getD j false=false:=⟨ju,om,hjuD⟩;have hmin:∃ j,(j<ops.length/\listed.getD j false=false)/\∀ k,k<j->¬(k<ops.length/\listed.getD k false=false):=by
     have:∀ m,(m<ops.length/\listed.getD m false=false)->∃ j,(j<ops.length/\listed.getD j false=false)/\∀ k,k<j->¬(k<ops.length/\listed.getD k false=false):=by
      intro m
      induction m using Nat.strongRecOn with
      |_ m ihm=>
       intro hm
       by_cases hk:∃ k,k<m/\(k<ops.length/\listed.getD k false=false)
       ·obtain ⟨k,hk1,hk2⟩:=hk;exact ihm k hk1 hk2
       ·exact ⟨m,hm,λk hk1 hk2=>hk ⟨k,hk1,hk2⟩⟩
     exact this j0 ⟨hj0,hl0⟩
    obtain ⟨j,⟨hj1,hj2⟩,hj3⟩:=hmin;have hmem:j∈Region.ready .any ops.toArray listed:=by
     refine mem_ready.2 ⟨?_,ops[j],by simp [hj1],λe he hb=>?_⟩
     ·have e1:listed.getD j true=listed.getD j false:=by simp [hsz,hj1]
      rw [e1];exact hj2
     ·have hd:e.on∈uM ops[j]:=CR.2 ⟨e,by simpa using he,hb,rfl⟩;have hlt:=hearl j ops[j] (List.getElem?_eq_getElem hj1) e.on hd;cases hl:listed.getD e.on false with
      |true=>rfl
      |false=>exact absurd ⟨om,hl⟩ (hj3 e.on hlt)
    rw [hready] at hmem;simp at hmem
   ·obtain ⟨h1,o,h2,h3⟩:=mem_ready.1 hi2;have hil:i<ops.length:=by have:=(Array.getElem?_eq_some_iff.1 h2).1;simpa using this
    have hoi:ops[i]? =some o:=by simpa using h2
    have hDi:listed.getD i false=false:=by
     have e1:listed.getD i true=listed.getD i false:=by simp [hsz,hil]
     rw [<-e1];exact h1
    have hdeps:∀ d∈uM o,listed.getD d false=true:=λd hd=>by
     obtain ⟨e,he,hb,rfl⟩:=CR.1 hd;exact h3 e (by simpa using he) hb
    have hcl':CI ops (tA (λj=>listed.getD j false) i):=by
     intro j oj hj hDj d hd
     by_cases hji:j=i
     ·subst hji;rw [hoi] at hj;cases hj
      by_cases hdj:d=j
      ·subst hdj;exact tB _ _
      ·rw [oS _ hdj];exact hdeps d hd
     ·rw [oS _ hji] at hDj
      by_cases hdi:d=i
      ·subst hdi;exact tB _ _
      ·rw [oS _ hdi];exact hcl j oj hj hDj d hd
    have hlt:i<hi:=by
     rcases Nat.lt_or_ge i hi with h|h
     ·exact h
     ·obtain ⟨m,hm,hb⟩:=hbar i h hil ju hju;have:=hmask _ hcl' i m hm (tB _ _) ju hb;rw [oS _ om,hjuD] at this;cases this
    have hge:lo<=i:=by
     rcases Nat.lt_or_ge i lo with h|h
     ·rw [hlo i h] at hDi;cases hDi
     ·exact h
    obtain ⟨fp,rx,f1,f2,f3,f4⟩:=hat i o hge hlt hoi;have hearlier:∀ (j:Nat),j<i->(∃ m,(lT ops [])[i]? =some m/\m.testBit j=true)->listed.getD j false=true:=by
     rintro j hji ⟨m,hm,hb⟩;have:=hmask _ hcl' i m hm (tB _ _) j hb
     rwa [oS _ om] at this
    have hlater:∀ (j:Nat),i<j->(∃ m,(lT ops [])[j]? =some m/\m.testBit i=true)->listed.getD j false=false:=by
     rintro j hij ⟨m,hm,hb⟩;cases hl:listed.getD j false with
     |false=>rfl
     |true=>
      have:=hmask _ hcl j m hm hl i hb;rw [hDi] at this;cases this
    have hagree:∀ l∈rx++lD (oe σ0 ws' i) ops o,oe σ0 ws' i l=kn W σ0 (λj=>listed.getD j false) ops.length l:=by
     intro l hl;rw [<-show kn W σ0 (λj=>Nat.blt j i) ops.length=oe σ0 ws' i by rw [Fh,Nat.min_eq_right om]];refine Lv W σ0 l ops.length (λj hj hw=>?_);obtain ⟨oj,hoj⟩:∃ oj,ops[j]? =some oj:=⟨_,List.getElem?_eq_getElem hj⟩;obtain ⟨hj1,hj2⟩:=hin j l hw;obtain ⟨fpj,_,g1,g2,_,_⟩:=hat j oj hj1 hj2 hoj
     by_cases hji:j<i
     ·have hb:Nat.blt j i=true:=by rw [Nat.blt_eq];exact hji
      rw [hb];rcases hcomp j i oj o fpj fp hji hlt hoj hoi g1 f1 with hm|ha
      ·exact (hearlier j hji hm).symm
      ·exfalso;unfold xK at ha;split at ha
       ·cases ha
       ·split at ha
        ·cases ha
        ·rename_i h5;exact Iq h5 l (by rw [g2];exact hw) (by rw [f3];exact hl)
     ·have hb:Nat.blt j i=false:=by
       cases hbb:Nat.blt j i with
       |false=>rfl
       |true=>exact absurd (eH hbb) hji
      rw [hb]
      by_cases hjie:j=i
      ·subst hjie;exact hDi.symm
      ·rcases hcomp i j o oj fp fpj om hj2 hoi hoj f1 g1 with hm|ha
       ·exact (hlater j om hm).symm
       ·exfalso;unfold xK at ha;split at ha
        ·cases ha
        ·split at ha
         ·cases ha
         ·exact Iq ha l (by rw [g2];exact hw) (by rw [f3];exact hl)
    have hone:=f4.Y2 hagree;have hset:kn W σ0 (tA (λj=>listed.getD j false) i) ops.length=eG (kn W σ0 (λj=>listed.getD j false) ops.length) (W i):=by
     refine ZV W σ0 hil hDi (λj hj hij hDj l hl hlj=>?_);obtain ⟨oj,hoj⟩:∃ oj,ops[j]? =some oj:=⟨_,List.getElem?_eq_getElem hj⟩;obtain ⟨hj1,hj2⟩:=hin j l hlj;obtain ⟨fpj,_,g1,g2,_,_⟩:=hat j oj hj1 hj2 hoj;rcases hcomp i j o oj fp fpj hij hj2 hoi hoj f1 g1 with hm|ha
     ·have:=hlater j hij hm;rw [hDj] at this;cases this
     ·unfold xK at ha;split at ha
      ·cases ha
      ·rename_i h5;exact Iq h5 l (by rw [f2];exact hl) (by rw [g2];exact hlj)
    have hlist:∀ j,(listed.setIfInBounds i true).getD j false=tA (λj=>listed.getD j false) i j:=by
     intro j
     by_cases hji:j=i
     ·subst hji;rw [tB];simp [hsz,hil]
     ·rw [oS _ hji];simp [Array.getElem?_setIfInBounds_ne (λe=>hji e.symm)]
    have hfun:(λj=>(listed.setIfInBounds i true).getD j false)=tA (λj=>listed.getD j false) i:=funext hlist;refine hone.Y3 hT hoks h2 (λid hid=> .inl (Nat.lt_of_lt_of_le hid hlo0)) hs (f:=n+(i - lo)) ?_ ?_ hfs (λa' w' g' k1 k2 k3=>?_)
    ·cases hc:g.aZ (n+(i - lo)) with
     |none=>rfl
     |some c=>
      rcases hs.lu _ _ hc with h5|⟨j,h4,h5,h6⟩
      ·omega
      ·have:j=i:=om;subst this;rw [hDi] at h5;cases h5
    ·cases hc:g.cu (n+(i - lo)) with
     |none=>rfl
     |some c=>
      rcases hs.ki _ _ hc with h5|⟨j,h4,h5,h6⟩
      ·omega
      ·have:j=i:=om;subst this;rw [hDi] at h5;cases h5
    ·refine ih (listed.setIfInBounds i true) a' w' g' (by simp [hsz]) (by rw [hfun];exact hcl') (λj hj=>?_) (λj hj=>?_) ?_ ?_ ?_ (hEE.gD k3)
     ·rw [hlist,oS _ om];exact hlo j hj
     ·rw [hlist,oS _ om];exact hhi' j hj
     ·rw [hfun];have:=Qu (D:=λj=>listed.getD j false) hDi ops.length hil;omega
     ·rw [hfun,hset];refine k1.iU (λid hid=>?_);rcases hid with (hid|⟨j,h4,h5,h6⟩)|rfl
      ·exact .inl hid
      ·refine .inr ⟨j,h4,?_,h6⟩;rw [hlist]
       by_cases hji:j=i
       ·subst hji;exact tB _ _
       ·rw [oS _ hji];exact h5
      ·exact .inr ⟨i,hge,by rw [hlist];exact tB _ _,rfl⟩
     ·rw [hfun,hset];exact k2
 have hfun0:(λj=>listed.getD j false)=λj=>Nat.blt j lo:=funext hl0
 have hsd0:kn W σ0 (λj=>listed.getD j false) ops.length=σ0:=by
  rw [hfun0,Fh,Nat.min_eq_right om];have:=hpad 0;rw [Nat.add_zero] at this;rw [this];rfl
 refine key (ops.length - lo) listed a w g hsz0 ?_ (λj hj=>?_) (λj hj=>?_) ?_ ?_ ?_ hE0
 ·rw [hfun0];intro j o hj hD d hd;have h1:=eH hD;have h2:=hearl j o hj d hd;show Nat.blt d lo=true;rw [Nat.blt_eq];omega
 ·rw [hl0,Nat.blt_eq];exact hj
 ·rw [hl0];cases hb:Nat.blt j lo with
  |false=>rfl
  |true=>have:=eH hb;omega
 ·rw [hfun0,Lh]
 ·rw [hsd0];exact hs0.iU λid hid=> .inl hid
 ·rw [hsd0];exact hf0
end
section
variable {P:Program} {T:cN} {σ σ':az}
def od:List gl->List gl:=λl=>Iv l []
where
 Iv:List gl->List gl->List gl
  |[],m=>m
  |x::l,m=>Iv l (x::m)
theorem ZS (l:List gl):od l=l.reverse:=by
 have:∀ (l m:List gl),od.Iv l m=l.reverse++m:=by
  intro l
  induction l with
  |nil=>intro m;rfl
  |cons x l ih=>grind [od.Iv]
 grind [od]
def AS:List aS->(List aS->Prop)->Prop
 |[],K=>K []
 | .aj i::l,K=>AS l λm=>K (.aj i::m)
 | .af i::l,K=>AS l λm=>K (.af i::m)
 | .aJ i::l,K=>AS l λm=>K (.aJ i::m)
theorem QN:∀ {l:List aS} {K:List aS->Prop},AS l K↔K l
 |[],K=>Iff.rfl
 |x::l,K=>by cases x<;>simp only [AS,QN]
def qq (rd wr:List aS) (K:gl->Prop):Prop:=AS rd λrd=>AS wr λwr=>K ⟨rd,wr⟩
theorem CU {rd wr:List aS} {K:gl->Prop}:qq rd wr K↔K ⟨rd,wr⟩:=by simp only [qq,QN]
def mP:Nat->List gl
 |0=>[]
 |k+1=>⟨[],[]⟩::mP k
theorem QR:∀ k,mP k=List.replicate k ⟨[],[]⟩
 |0=>rfl
 |k+1=>by rw [mP,QR k];rfl
def Ln (m t:Nat):Bool:=Nat.beq (m % 2^t) (2^t - 1)
theorem ZH {m t:Nat} (h:Ln m t=true):∀ j,j<t->m.testBit j=true:=λj hj=>by
 have h:=Nat.eq_of_beq_eq_true h;have h1:(m % 2^t).testBit j=true:=by simp_all
 grind
def CO (i:Nat):Nat->List Nat->Bool
 |_,[]=>true
 |k,m::ms=>match Nat.blt k i with
  |true=>CO i (k+1) ms
  |false=>match Ln m (match Nat.beq k i with|true=>i|false=>i+1) with
   |true=>CO i (k+1) ms
   |false=>false
theorem Qr {i:Nat}:∀ {l:List Nat} {k:Nat},CO i k l=true->∀ (j m:Nat),l[j]? =some m->i<=k+j->∀ x,(if k+j=i then x<i else x<i+1)->m.testBit x=true
 |[],k,_,j,m,hm,_,_,_=>by simp at hm
 |m'::l,k,h,j,m,hm,hj,x,hx=>by
  simp only [CO] at h;have step:CO i (k+1) l=true->∀ j',j=j'+1->m.testBit x=true:=λh j' e=>by
   subst e;exact Qr h j' m (by simpa using hm) om x (by grind)
  cases hb:Nat.blt k i with
  |true=>
   simp only [hb] at h;cases j with
   |zero=>have:=eH hb;omega
   |succ j=>exact step h j rfl
  |false=>
   simp only [hb] at h;cases hl:Ln m' (match Nat.beq k i with|true=>i|false=>i+1) with
   |false=>simp [hl] at h
   |true=>
    simp only [hl] at h;cases j with
    |succ j=>exact step h j rfl
    |zero=>
     grind [ZH,Nat.eq_of_beq_eq_true]
def uK (ops:List Oper) (i:Nat):Bool:=CO i 0 (lT ops [])
def tu (ops:List Oper) (i:Nat) (fps:List gl):Bool:=match zj 0 ops with
 |true=>CQ [] ((lT ops []).take i) fps
 |false=>false
def QK (T:cN) (t:TypeId):Bool:=match cY T t with|some ⟨.e8 _,_,_,_⟩=>true|_=>false
def k7 (P:Program) (T:cN) (nt:Nat) (all:List Oper) (gs:List Nat):List Oper->Nat->az->Nat->List gl->(List gl->az->Nat->Prop)->Prop
 |[],_,σ,n,acc,K=>K acc σ n
 |⟨dst,op,ty,pos,after,guard⟩::rest,i,σ,n,acc,K=>
  match wb nt ⟨dst,op,ty,pos,after,guard⟩ with
  |false=>False
  |true=>match qt σ all guard with
   |none=>False
   |some false=>fW σ dst (.aw []) λσ'=>qq (lD σ all ⟨dst,op,ty,pos,after,guard⟩) (jx (oQ dst (.aw []))) λfp=>k7 P T nt all gs rest (i+1) σ' (n+1) (fp::acc) K
   |some true=>match op with
    | .call ⟨.value fo,args,ats⟩=>match aM σ fo with
     | .aP f first captured=>
      match rb (tw.gm first (tw.gm (dQ σ args.toList) captured)) with
      |true=>match QK T ty with
       |true=>tu all i (od acc)=true/\uK all i=true/\bz P f (tw.gm first (tw.gm (dQ σ args.toList) captured)) σ n λv σ' n'=>gN (gO i gs) v λv=>fW (iM σ σ') dst v λσ=>k7 P T nt all gs rest (i+1) σ n' (mP (i+1)) K
       |false=>match σ (.aJ 0) with
        | .ah _=>∃ m0 res rx wx,Nat.ble (m0+i) n=true/\mi P m0 f (tw.gm first (tw.gm (dQ σ args.toList) captured)) σ n rx wx res/\n9 wx=true/\
         gN (gO i gs) res λv=>sg σ wx λσ1=>fW σ1 dst v λσ'=>qq (rx.append (lD σ all ⟨dst, .call ⟨.value fo,args,ats⟩,ty,pos,after,guard⟩)) (jx (wx++oQ dst v)) λfp=>k7 P T nt all gs rest (i+1) σ' (n+1) (fp::acc) K
        |_=>∃ res,rb (tw.gm first (tw.gm (dQ σ args.toList) captured))=true/\aC P f (q9 (tw.gm first (tw.gm (dQ σ args.toList) captured))) res/\
        gN (gO i gs) res λv=>fW σ dst v λσ'=>qq (lD σ all ⟨dst, .call ⟨.value fo,args,ats⟩,ty,pos,after,guard⟩) (jx (oQ dst v)) λfp=>k7 P T nt all gs rest (i+1) σ' (n+1) (fp::acc) K
      |false=>match σ (.aJ 0) with
       | .ah _=>∃ m0 res rx wx,Nat.ble (m0+i) n=true/\mi P m0 f (tw.gm first (tw.gm (dQ σ args.toList) captured)) σ n rx wx res/\n9 wx=true/\
        gN (gO i gs) res λv=>sg σ wx λσ1=>fW σ1 dst v λσ'=>qq (rx.append (lD σ all ⟨dst, .call ⟨.value fo,args,ats⟩,ty,pos,after,guard⟩)) (jx (wx++oQ dst v)) λfp=>k7 P T nt all gs rest (i+1) σ' (n+1) (fp::acc) K
       |_=>(∃ res rx wx,CN P f (tw.gm first (tw.gm (dQ σ args.toList) captured)) σ rx wx res/\n9 wx=true/\
       gN (gO i gs) res λv=>sg σ wx λσ1=>fW σ1 dst v λσ'=>qq (rx.append (lD σ all ⟨dst, .call ⟨.value fo,args,ats⟩,ty,pos,after,guard⟩)) (jx (wx++oQ dst v)) λfp=>k7 P T nt all gs rest (i+1) σ' (n+1) (fp::acc) K)\/
       (tu all i (od acc)=true/\uK all i=true/\bz P f (tw.gm first (tw.gm (dQ σ args.toList) captured)) σ n λv σ' n'=>gN (gO i gs) v λv=>fW (iM σ σ') dst v λσ=>k7 P T nt all gs rest (i+1) σ n' (mP (i+1)) K)
     | .cw id=>tu all i (od acc)=true/\uK all i=true/\CH P id (dQ σ args.toList) σ n λv σ' n'=>gN (gO i gs) v λv=>fW (iM σ σ') dst v λσ=>k7 P T nt all gs rest (i+1) σ n' (mP (i+1)) K
     |_=>False
    | .call ⟨.invoke recv m,args,_⟩=>match aM σ recv with
     | .cm t x=>tu all i (od acc)=true/\uK all i=true/\∃ f,AT P t m f=true/\bz P f (x::dQ σ args.toList) σ n λv σ' n'=>gN (gO i gs) v λv=>fW (iM σ σ') dst v λσ=>k7 P T nt all gs rest (i+1) σ n' (mP (i+1)) K
     |_=>False
    | .lookup mt x k ok=>tu all i (od acc)=true/\uK all i=true/\mf P ⟨dst, .lookup mt x k ok,ty,pos,after,guard⟩ σ n λv σ' n'=>gN (gO i gs) v λv=>fW (iM σ σ') dst v λσ=>k7 P T nt all gs rest (i+1) σ n' (mP (i+1)) K
    |op=>(df P T σ n ⟨dst,op,ty,pos,after,guard⟩).Az λv us=>match n9 us with
     |true=>gN (gO i gs) v λv=>sg σ us λσ1=>fW σ1 dst v λσ'=>qq (lD σ all ⟨dst,op,ty,pos,after,guard⟩) (jx (us++oQ dst v)) λfp=>k7 P T nt all gs rest (i+1) σ' (n+1) (fp::acc) K
     |false=>False
structure Lb (P:Program) (T:cN) (nt:Nat) (all:List Oper) (gs:List Nat) (o:Oper) (rest:List Oper) (i:Nat) (σ:az) (n:Nat) (acc:List gl) (K:List gl->az->Nat->Prop):Prop where
 Zr:wb nt o=true
 Zq:qt σ all o.guard=some true
 Zp:tu all i (od acc)=true
 Zn:uK all i=true
 Zo:(∃ fo args ats id,o.op= .call ⟨.value fo,args,ats⟩/\aM σ fo= .cw id/\
  CH P id (dQ σ args.toList) σ n λv σ' n'=>gN (gO i gs) v λv=>fW (iM σ σ') o.dst v λσ=>k7 P T nt all gs rest (i+1) σ n' (mP (i+1)) K)\/
  (∃ fo args ats f first captured,o.op= .call ⟨.value fo,args,ats⟩/\aM σ fo= .aP f first captured/\
  bz P f (first++(dQ σ args.toList++captured)) σ n λv σ' n'=>gN (gO i gs) v λv=>fW (iM σ σ') o.dst v λσ=>k7 P T nt all gs rest (i+1) σ n' (mP (i+1)) K)\/
  (∃ recv m args ats f t x,o.op= .call ⟨.invoke recv m,args,ats⟩/\aM σ recv= .cm t x/\AT P t m f=true/\
  bz P f (x::dQ σ args.toList) σ n λv σ' n'=>gN (gO i gs) v λv=>fW (iM σ σ') o.dst v λσ=>k7 P T nt all gs rest (i+1) σ n' (mP (i+1)) K)\/
  (∃ mt x k Zr,o.op= .lookup mt x k Zr/\mf P o σ n λv σ' n'=>gN (gO i gs) v λv=>fW (iM σ σ') o.dst v λσ=>k7 P T nt all gs rest (i+1) σ n' (mP (i+1)) K)
theorem QC {nt:Nat} {all:List Oper} {gs:List Nat}:∀ {l:List Oper} {i:Nat} {σ:az} {n:Nat} {acc:List gl} {K:List gl->az->Nat->Prop},k7 P T nt all gs l i σ n acc K->
  ∃ seg tail ws fps σ',l=seg++tail/\xJ P T nt all (n - i) n σ seg ws fps σ'/\((tail=[]/\K (fps.reverse++acc) σ' (n+seg.length))\/∃ o rest,tail=o::rest/\Lb P T nt all gs o rest (i+seg.length) σ' (n+seg.length) (fps.reverse++acc) K)
 |[],i,σ,n,acc,K,h=>⟨[],[],[],[],σ,rfl, .zh, .inl ⟨rfl,by simpa [k7] using h⟩⟩
 |⟨dst,op,ty,pos,after,guard⟩::rest,i,σ,n,acc,K,h=>by
  simp only [k7] at h;cases hoo:wb nt ⟨dst,op,ty,pos,after,guard⟩ with
  |false=>simp_all
  |true=>
   simp only [hoo] at h;have fin:∀ {rx:List aS} {wr:List (aS×bs)} {σ1:az} {fp:gl},AK P T nt all (n - i) n σ ⟨dst,op,ty,pos,after,guard⟩ rx wr->σ1=eG σ wr->fp=⟨rx++lD σ all ⟨dst,op,ty,pos,after,guard⟩,jx wr⟩->k7 P T nt all gs rest (i+1) σ1 (n+1) (fp::acc) K->
     ∃ seg tail ws fps σ',(⟨dst,op,ty,pos,after,guard⟩::rest:List Oper)=seg++tail/\xJ P T nt all (n - i) n σ seg ws fps σ'/\((tail=[]/\K (fps.reverse++acc) σ' (n+seg.length))\/
      ∃ o rest,tail=o::rest/\Lb P T nt all gs o rest (i+seg.length) σ' (n+seg.length) (fps.reverse++acc) K):=by
    intro rx wr σ1 fp hone e1 e2 hev;subst e1 e2;obtain ⟨seg,tail,ws,fps,σ',q,h1,h2⟩:=QC hev;rw [Nat.add_sub_add_right] at h1;refine ⟨_::seg,tail,_,_,σ',by rw [q];rfl, .La hone h1,?_⟩;grind
   cases hgd:qt σ all guard with
   |none=>simp_all
   |some want=>
    simp only [hgd] at h;cases want with
    |false=>exact fin (rx:=[]) ⟨hoo, .inl ⟨hgd,rfl⟩⟩ (tC _ _ _).symm rfl (CU.1 (sf.1 h))
    |true=>
     have plain:QI op=false->((df P T σ n ⟨dst,op,ty,pos,after,guard⟩).Az λv us=>match n9 us with
       |true=>gN (gO i gs) v λv=>sg σ us λσ1=>fW σ1 dst v λσ'=>qq (lD σ all ⟨dst,op,ty,pos,after,guard⟩) (jx (us++oQ dst v)) λfp=>k7 P T nt all gs rest (i+1) σ' (n+1) (fp::acc) K
       |false=>False)->∃ seg tail ws fps σ',(⟨dst,op,ty,pos,after,guard⟩::rest:List Oper)=seg++tail/\xJ P T nt all (n - i) n σ seg ws fps σ'/\((tail=[]/\K (fps.reverse++acc) σ' (n+seg.length))\/
        ∃ o rest,tail=o::rest/\Lb P T nt all gs o rest (i+seg.length) σ' (n+seg.length) (fps.reverse++acc) K):=by
      intro hcb hev;obtain ⟨v,us,hg,hk⟩:=jW.Hq _ hev;cases hnt:n9 us with
      |false=>simp_all
      |true=>
       simp only [hnt] at hk;obtain ⟨v',hv',hk⟩:=uL hk;have hk:=CU.1 (sf.1 (Fo.1 hk));exact fin (rx:=[]) ⟨hoo, .inr ⟨hgd, .inl ⟨v,us,v',hcb,hg,hnt,hv',rfl⟩⟩⟩ (by rw [xO,tC]) rfl hk
     cases op with
     |call c=>
      obtain ⟨callee,args,argTypes⟩:=c;cases callee with
      |value fo=>
       simp only at h;cases hfo:aM σ fo with
       |aP f first captured=>
        simp only [hfo,Le] at h;split at h
        ·split at h
         ·obtain ⟨h1,h2,h3⟩:=h;exact ⟨[],_,[],[],σ,rfl, .zh, .inr ⟨_,_,rfl,⟨hoo,hgd,h1,h2, .inr (.inl ⟨fo,args,argTypes,f,first,captured,rfl,hfo,h3⟩)⟩⟩⟩
         split at h
         ·obtain ⟨m0,res,rx,wx,hm,h2,hn,h3⟩:=h;have hm:=Nat.le_of_ble_eq_true hm;obtain ⟨v',hv',hk⟩:=uL h3;exact fin (rx:=rx) ⟨hoo, .inr ⟨hgd, .inr ⟨fo,args,argTypes,f,first,captured,res,v',wx,m0,om,rfl,hfo,h2,hn,hv',rfl⟩⟩⟩ (by rw [xO,tC]) rfl (CU.1 (sf.1 (Fo.1 hk)))
         obtain ⟨res,h1,h2,h3⟩:=h;obtain ⟨v',hv',hk⟩:=uL h3;exact fin (rx:=[]) ⟨hoo, .inr ⟨hgd, .inr ⟨fo,args,argTypes,f,first,captured,res,v',[],0,Nat.zero_le _,rfl,hfo,(CN.AP h2 h1).zi,rfl,hv',rfl⟩⟩⟩ (tC _ _ _).symm rfl (CU.1 (sf.1 hk))
        ·split at h
         ·obtain ⟨m0,res,rx,wx,hm,h2,hn,h3⟩:=h;have hm:=Nat.le_of_ble_eq_true hm;obtain ⟨v',hv',hk⟩:=uL h3;exact fin (rx:=rx) ⟨hoo, .inr ⟨hgd, .inr ⟨fo,args,argTypes,f,first,captured,res,v',wx,m0,om,rfl,hfo,h2,hn,hv',rfl⟩⟩⟩ (by rw [xO,tC]) rfl (CU.1 (sf.1 (Fo.1 hk)))
         rcases h with ⟨res,rx,wx,h2,hn,h3⟩|⟨h1,h2,h3⟩
         ·obtain ⟨v',hv',hk⟩:=uL h3;exact fin (rx:=rx) ⟨hoo, .inr ⟨hgd, .inr ⟨fo,args,argTypes,f,first,captured,res,v',wx,0,Nat.zero_le _,rfl,hfo,h2.zi,hn,hv',rfl⟩⟩⟩ (by rw [xO,tC]) rfl (CU.1 (sf.1 (Fo.1 hk)))
         ·exact ⟨[],_,[],[],σ,rfl, .zh, .inr ⟨_,_,rfl,⟨hoo,hgd,h1,h2, .inr (.inl ⟨fo,args,argTypes,f,first,captured,rfl,hfo,h3⟩)⟩⟩⟩
       |cw id=>
        simp only [hfo] at h;obtain ⟨h1,h2,h3⟩:=h;exact ⟨[],_,[],[],σ,rfl, .zh, .inr ⟨_,_,rfl,⟨hoo,hgd,h1,h2, .inl ⟨fo,args,argTypes,id,rfl,hfo,h3⟩⟩⟩⟩
       |_=>simp_all
      |builtin bt=>exact plain rfl h
      |invoke recv m=>
       simp only at h;cases hrv:aM σ recv with
       |cm t x=>
        simp only [hrv] at h;obtain ⟨h1,h2,f,hmb,h3⟩:=h;exact ⟨[],_,[],[],σ,rfl, .zh, .inr ⟨_,_,rfl,⟨hoo,hgd,h1,h2, .inr (.inr (.inl ⟨recv,m,args,argTypes,f,t,x,rfl,hrv,hmb,h3⟩))⟩⟩⟩
       |_=>simp_all
     |lookup mt x k ok=>
      obtain ⟨h1,h2,h3⟩:=h;exact ⟨[],_,[],[],σ,rfl, .zh, .inr ⟨_,_,rfl,⟨hoo,hgd,h1,h2, .inr (.inr (.inr ⟨mt,x,k,ok,rfl,h3⟩))⟩⟩⟩
     |_=>exact plain rfl h
theorem ZD (hT:dA P T) {r:Option Nat} {nt:Nat} {ops:List Oper} {gs:List Nat} (hok:v8 nt ops=true) {b:ek P} {t:nU} {K:Exit->az->Nat->Prop}:∀ (len:Nat) (rest:List Oper) (i:Nat) (σ:az) (n:Nat),rest.length<=len->rest=ops.drop i->i<=ops.length->
  k7 P T nt ops gs rest i σ n (mP i) (λfps σ n=>E6 ops (od fps)=true/\K .normal σ n)->t.Hr<=n->∀ (listed:Array Bool) (a:Act) (w:World) (g:cf),listed.size=ops.length->(∀ j,listed.getD j false=Nat.blt j i)->
  bh b σ (·<n) g w->mg t.uG.heap.size nt σ g a w->dp t.AA t.uG g w->wpAnyIn (nr r) 0 P .any ops.toArray (λe a' w'=>∃ σ' n',K e σ' n'/\nY b t nt σ' n' a' w') (ops.length - i) listed a w:=by
 intro len
 induction len with
 |zero=>
  intro rest i σ n hlen hr hi hev hn listed a w g hsz hl hs hf hE;have:rest=[]:=List.eq_nil_of_length_eq_zero om;subst this;have hie:i=ops.length:=by have:=congrArg List.length hr;simp at this;omega
  subst hie;obtain ⟨_,hk⟩:=hev;rw [Nat.sub_self];refine ⟨?_,σ,n,hk,g,hs,hf,hE,hn⟩;refine List.eq_nil_iff_forall_not_mem.2 λj hj=>?_
  obtain ⟨h1,o,h2,_⟩:=mem_ready.1 hj;have hjl:j<ops.length:=by have:=(Array.getElem?_eq_some_iff.1 h2).1;simpa using this
  have e1:listed.getD j true=listed.getD j false:=by simp [hsz,hjl]
  have hb:Nat.blt j ops.length=true:=by rw [Nat.blt_eq];exact hjl
  rw [e1,hl,hb] at h1;cases h1
 |succ len ih=>
  intro rest i σ n hlen hr hi hev hn listed a w g hsz hl hs hf hE;obtain ⟨seg,tail,ws,fps,σ',hq,htr,hcase⟩:=QC hev;have hrl:rest.length=ops.length - i:=by rw [hr,List.length_drop]
  have hsl:seg.length+tail.length=ops.length - i:=by rw [<-hrl,hq,List.length_append]
  have hseg:∀ k,k<seg.length->ops[i+k]? =seg[k]?:=λk hk=>by
   have:rest[k]? =seg[k]?:=by rw [hq,List.getElem?_append_left hk]
   rw [<-this,hr,List.getElem?_drop]
  have hrev:od (fps.reverse++mP i)=List.replicate i ⟨[],[]⟩++fps:=by rw [ZS,QR];simp
  have hml:(lT ops []).length=ops.length:=by rw [Lp];simp
  rcases hcase with ⟨rfl,hc,hk⟩|⟨o,rest',rfl,hy⟩
  ·rw [List.append_nil] at hq;rw [hrev] at hc;have hhi:i+seg.length=ops.length:=by simp at hsl;omega
   unfold E6 at hc;cases he:zj 0 ops with
   |false=>simp [he] at hc
   |true=>
   simp only [he] at hc;refine Qx hT hseg om (Nat.sub_le _ _) htr he (by rw [hhi,<-hml,List.take_length];exact hc) hok (λk h1 h2=>by omega) (λlisted a w g h1 h2 h3 h4 h5=>?_) listed a w g hsz hl hs hf hE;rw [hhi,Nat.sub_self];refine ⟨?_,σ',n+seg.length,hk,g,h3,h4,h5,om⟩;refine List.eq_nil_iff_forall_not_mem.2 λj hj=>?_
   obtain ⟨q1,o,q2,_⟩:=mem_ready.1 hj;have hjl:j<ops.length:=by have:=(Array.getElem?_eq_some_iff.1 q2).1;simpa using this
   have e1:listed.getD j true=listed.getD j false:=by simp [h1,hjl]
   have hb:Nat.blt j (i+seg.length)=true:=by rw [Nat.blt_eq];omega
   rw [e1,h2,hb] at q1;cases q1
  ·have hc:=hy.Zp;rw [hrev] at hc;generalize hj:i+seg.length=j at*;have hjl:j<ops.length:=by simp at hsl;omega
   have hoj:ops[j]? =some o:=by
    have:rest[seg.length]? =some o:=by rw [hq,List.getElem?_append_right (Nat.le_refl _),Nat.sub_self];rfl
    rw [hr,List.getElem?_drop,hj] at this;exact this
   have hrest':rest'=ops.drop (j+1):=by
    have:rest.drop (seg.length+1)=rest':=by rw [hq,<-List.drop_drop,List.drop_left];rfl
    rw [<-this,hr,List.drop_drop];congr 1;omega
   unfold tu at hc;cases he:zj 0 ops with
   |false=>simp [he] at hc
   |true=>
   simp only [he] at hc;have hearl:∀ (j:Nat) (o:Oper),ops[j]? =some o->∀ d∈uM o,d<j:=λj o hj d hd=>by have:=Li he j o hj d hd;omega
   have hbar:=Qr hy.Zn;have hmask:∀ (D:Nat->Bool),CI ops D->∀ (j m:Nat),(lT ops [])[j]? =some m->D j=true->∀ k,m.testBit k=true->D k=true:=λD hD=>Lo hD ops [] (λj o hj=>by simpa using hj) (by simp)
   refine Qx hT hseg om (Nat.sub_le _ _) htr he (by rw [hj];exact hc) hok (λk h1 h2 x hx=>?_) (λlisted a w g h1 h2 h3 h4 h5=>?_) listed a w g hsz hl hs hf hE
   ·have hkl:k<(lT ops []).length:=om;refine ⟨_,List.getElem?_eq_getElem hkl,hbar k _ (List.getElem?_eq_getElem hkl) om x ?_⟩;split<;>omega
   ·rw [hj] at h2 ⊢;obtain ⟨fuel,hfuel⟩:∃ fuel,ops.length - j=fuel+1:=⟨ops.length - j - 1,om⟩;rw [hfuel];have hjD:listed.getD j false=false:=by
     rw [h2];cases hb:Nat.blt j j with
     |false=>rfl
     |true=>have:=eH hb;omega
    refine ⟨λhready=>?_,λk hk=>?_⟩
    ·exfalso;have hmem:j∈Region.ready .any ops.toArray listed:=by
      refine mem_ready.2 ⟨?_,o,by simpa using hoj,λe he hb=>?_⟩
      ·have e1:listed.getD j true=listed.getD j false:=by simp [h1,hjl]
       rw [e1];exact hjD
      ·have hd:e.on∈uM o:=CR.2 ⟨e,by simpa using he,hb,rfl⟩;have hlt:=hearl j o hoj e.on hd;rw [h2,Nat.blt_eq];exact hlt
     rw [hready] at hmem;simp at hmem
    ·obtain ⟨q1,ok,q2,q3⟩:=mem_ready.1 hk;have hkl:k<ops.length:=by have:=(Array.getElem?_eq_some_iff.1 q2).1;simpa using this
     have hok':ops[k]? =some ok:=by simpa using q2
     have hkD:listed.getD k false=false:=by
      have e1:listed.getD k true=listed.getD k false:=by simp [h1,hkl]
      rw [<-e1];exact q1
     have hkj:¬k<j:=λh=>by
      have hb:Nat.blt k j=true:=by rw [Nat.blt_eq];exact h
      rw [h2,hb] at hkD;cases hkD
     have hcl:CI ops (tA (λj=>listed.getD j false) k):=by
      intro x ox hx hDx d hd
      by_cases hxk:x=k
      ·subst hxk;rw [hok'] at hx;cases hx
       by_cases hdk:d=x
       ·subst hdk;exact tB _ _
       ·rw [oS _ hdk];obtain ⟨e,he,hb,rfl⟩:=CR.1 hd;exact q3 e (by simpa using he) hb
      ·rw [oS _ hxk] at hDx;have hDx:listed.getD x false=true:=hDx;rw [h2] at hDx;have hlt:=eH hDx;have hdx:=hearl x ox hx d hd
       by_cases hdk:d=k
       ·subst hdk;exact tB _ _
       ·rw [oS _ hdk];show listed.getD d false=true;rw [h2,Nat.blt_eq];omega
     have hke:k=j:=by
      rcases Nat.lt_or_ge j k with h|h
      ·have hkm:k<(lT ops []).length:=om;have hb:=hbar k _ (List.getElem?_eq_getElem hkm) om j (by split<;>omega);have:=hmask _ hcl k _ (List.getElem?_eq_getElem hkm) (tB _ _) j hb;rw [oS _ om,hjD] at this;cases this
      ·omega
     subst hke;have hoo:ok=o:=by rw [hoj] at hok';exact (Option.some.inj hok').symm
     subst hoo;have hoks:∀ (j:Nat) (o':Oper),ops.toArray[j]? =some o'->tv nt o'.dst=true:=λj o' ho=>List.all_eq_true.1 (Ik hok) o' (List.mem_of_getElem? (by simpa using ho))
     obtain ⟨hop,hdst⟩:=h4.KX hy.Zr;have hwant:=Im (ops:=ops.toArray) (o:=ok) (want:=true) h4 (by simpa using hy.Zq) hoks;have hfu:fuel=ops.length - (k+1):=om;subst hfu;have fin:∀ {v:ae} {val:Value} {σ2:az} {n2:Nat} {g':cf} {w':World},n+seg.length<=n2->aF w' g' v val->bh b σ2 (·<n2) g' w'->dp g w g' w'->
       (gN (gO k gs) v λv=>fW (iM σ' σ2) ok.dst v λσ=>k7 P T nt ops gs rest' (k+1) σ n2 (mP (k+1)) (λfps σ n=>E6 ops (od fps)=true/\K .normal σ n))->
       wpAnyIn (nr r) 0 P .any ops.toArray (λe a' w'=>∃ σ' n',K e σ' n'/\nY b t nt σ' n' a' w') (ops.length - (k+1)) (listed.setIfInBounds k true) (a.put ok.dst val) w':=by
      intro v val σ2 n2 g' w' hnn hrep h' hE' hk2;obtain ⟨v',hv',hk2⟩:=uL hk2;refine ih rest' (k+1) _ n2 (by simp at hsl;omega) hrest' om (sf.1 hk2) om _ _ w' g' (by simp [h1]) (λx=>?_) ((h'.CK).vZ _ _) (((h4.xH hE').qo (σ':=iM σ' σ2) (λi=>Fk i)).vY hdst (hv' _ _ _ hrep)) (h5.gD hE')
      by_cases hxk:x=k
      ·subst hxk;have hb:Nat.blt x (x+1)=true:=by rw [Nat.blt_eq];omega
       rw [hb];simp [h1,hjl]
      ·have e2:(listed.setIfInBounds k true).getD x false=listed.getD x false:=by simp [Array.getElem?_setIfInBounds_ne (λe=>hxk e.symm)]
       rw [e2,h2];cases hb:Nat.blt x k with
       |true=>
        have:=eH hb;have hb':Nat.blt x (k+1)=true:=by rw [Nat.blt_eq];omega
        rw [hb']
       |false=>
        have:=Zx hb;cases hb':Nat.blt x (k+1) with
        |false=>rfl
        |true=>have:=eH hb';omega
     rcases hy.Zo with ⟨fo,args,ats,id,eo,hfo,hay⟩|⟨fo,args,ats,fn,first,captured,eo,hfo,hEn,hcall⟩|⟨recv,m,args,ats,fn,ti,x,eo,hrv,hmb,hEn,hcall⟩|⟨mt,x,kx,kok,eo,ham⟩
     ·obtain ⟨dst,op,ty,pos,after,guard⟩:=ok;simp only at eo;subst eo;unfold wpOpIn;simp only [q2];rw [if_pos hwant];have hfr:=hop fo (by simp [Op.operands,Call.operands]);rw [hfo] at hfr;obtain ⟨l,q4,e1⟩:=hfr.KD;have harg:∀ x∈args,aF w g (aM σ' x) (a.eval x):=λx hx=>hop x (by simp [Op.operands,Call.operands,hx])
      obtain ⟨f,tmps,assign,body,hyr,hround⟩:=hay.P5 b g w l (args.map a.eval).toList h3 q4 (by simp [qu]) (uN harg);have hrun:=Q8 (P:=P) (w:=w) (a:=a) (c:=⟨.value fo,args,ats⟩) rfl e1 (dst:=dst) (ty:=ty) (pos:=pos) (after:=after) (guard:=guard);unfold Oper.wpIn;refine ⟨λ_ _=>trivial,?_⟩;have hy':(Instr.yield l (args.map a.eval)).run P w= .ok (.round l f tmps assign body) w:=by
       have e:(args.map a.eval).toList.toArray=args.map a.eval:=Array.toArray_toList
       rwa [e] at hyr
      rw [Oper.semAt_eq _ _ _ (λc h=>by cases h),hrun,hy',Oper.uponIn_round];refine ⟨zk r 0,?_⟩;refine (QZ hround).mono ?_;rintro e w' ⟨v,x,σ2,n2,g',rfl,hk2,hnn,hrep,h',hE'⟩;exact fin hnn hrep h' hE' hk2
     ·obtain ⟨dst,op,ty,pos,after,guard⟩:=ok;simp only at eo;subst eo;unfold wpOpIn;simp only [q2];rw [if_pos hwant];have hfr:=hop fo (by simp [Op.operands,Call.operands]);rw [hfo] at hfr;obtain ⟨vs,us,e1,l1,l2,r1,r2⟩:=hfr.y7;have hrun:=Ld (P:=P) (w:=w) (a:=a) hEn (c:=⟨.value fo,args,ats⟩) rfl e1 (dst:=dst) (ty:=ty) (pos:=pos) (after:=after) (guard:=guard);unfold Oper.wpIn;refine ⟨λ_ _=>trivial,?_⟩;rw [Oper.semAt_eq _ _ _ (λc h=>by cases h),hrun,Oper.uponIn_enter];refine ⟨zk r 0,?_⟩;have harg:∀ x∈args,aF w g (aM σ' x) (a.eval x):=λx hx=>hop x (by simp [Op.operands,Call.operands,hx])
      have ha:=uN harg;refine CP ?_;refine (hcall b g w (vs++(args.map a.eval).toList++us) h3 (by simp [l1,l2,qu]) (by rw [List.append_assoc];exact Lf l1 r1 (Lf (by simp [qu]) ha r2))).mono ?_;rintro e w' ⟨v,x,σ2,n2,g',rfl,hk2,hnn,hrep,h',hE'⟩;exact fin hnn hrep h' hE' hk2
     ·obtain ⟨dst,op,ty,pos,after,guard⟩:=ok;simp only at eo;subst eo;unfold wpOpIn;simp only [q2];rw [if_pos hwant];have hfr:=hop recv (by simp [Op.operands,Call.operands]);rw [hrv] at hfr;obtain ⟨u,e1,hu⟩:=hfr.Ay;have hrun:=QH (P:=P) (w:=w) (a:=a) hEn (Qa.Qb hmb) (c:=⟨.invoke recv m,args,ats⟩) rfl e1 (dst:=dst) (ty:=ty) (pos:=pos) (after:=after) (guard:=guard);unfold Oper.wpIn;refine ⟨λ_ _=>trivial,?_⟩;rw [Oper.semAt_eq _ _ _ (λc h=>by cases h),hrun,Oper.uponIn_enter];refine ⟨zk r 0,?_⟩;have harg:∀ x∈args,aF w g (aM σ' x) (a.eval x):=λx hx=>hop x (by simp [Op.operands,Call.operands,hx])
      have ha:=uN harg;refine CP ?_;refine (hcall b g w (u::(args.map a.eval).toList) h3 (by simp [qu]) (λi y v hy hv=>by
       cases i with
       |zero=>simp at hy hv;subst hy hv;exact hu
       |succ i=>exact ha i y v (by simpa using hy) (by simpa using hv))).mono ?_
      rintro e w' ⟨v,x,σ2,n2,g',rfl,hk2,hnn,hrep,h',hE'⟩;exact fin hnn hrep h' hE' hk2
     ·obtain ⟨nx,val,w',v,σ2,n2,g',hr,hnx,hk2,hnn,hrep,h',hE'⟩:=ham.P3 b g a w h3 hop;have hfin:=fin hnn hrep h' hE' hk2;obtain ⟨dst,op,ty,pos,after,guard⟩:=ok;simp only at eo;subst eo;unfold wpOpIn;simp only [q2];rw [if_pos hwant];unfold Oper.wpIn;refine ⟨λ_ _=>trivial,?_⟩;rw [Oper.semAt_eq _ _ _ (Ip hr hnx),hr];rcases hnx with rfl|⟨rfl,rfl⟩
      ·exact hfin
      ·exact hfin
theorem ZB (hT:dA P T) (hm:P.follows .mixedOrders=true) {r:Option Nat} {nt lo n id:Nat} {ops:List Oper} {gs:List Nat} {σ0:az} {K:Exit->az->Nat->Prop} (hok:v8 nt ops=true)
  (hev:k7 P T nt ops gs ops 0 σ0 n [] (λfps σ n=>E6 ops (od fps)=true/\K .normal σ n)):db P r nt lo (.region id ops.toArray true) σ0 n K:=by
 refine ⟨λb t a w h0 hs=>?_⟩;obtain ⟨g,h,hf,hE,hn⟩:=hs;refine wpIn_region_any hm ?_;have hdrew:bh b σ0 (·<n) g w.drew/\dp g w g w.drew:=h.pE (Below.refl _ w).drew;have:=ZD hT hok (b:=b) (t:=t) (r:=r) ops.length ops 0 σ0 n (Nat.le_refl _) rfl (Nat.zero_le _) hev hn (Array.replicate ops.toArray.size false) a w.drew g (by simp) (λj=>by
  have hb:Nat.blt j 0=false:=by
   trivial
  rw [hb];simp only [Array.getD_eq_getD_getElem?,Array.getElem?_replicate];split<;>rfl) hdrew.1 (hf.xH hdrew.2) (hE.gD hdrew.2)
 simpa using this
end
section
variable {P:Program} {T:cN} {b:ek P} {t:nU} {σ:az} {D:Nat->Prop} {g:cf} {a:Act} {w:World}
mutual
def fX (m:Nat):ae->Bool
 | .ar b _=>Nat.blt b m
 | .aL b _ _ _ _=>Nat.blt b m
 | .cz b=>Nat.blt b m
 | .cw b=>Nat.blt b m
 | .cg b=>Nat.blt b m
 | .ag _ _ _ (.dB id)=>Nat.blt id m
 | .ag _ _ _ (.cO id)=>Nat.blt id m
 | .aK cs=>oc m cs
 | .aw cs=>oc m cs
 | .aP _ fs cs=>match oc m fs with|true=>oc m cs|false=>false
 | .cm _ v=>fX m v
 |_=>true
def oc (m:Nat):List ae->Bool
 |[]=>true
 |x::l=>match fX m x with|true=>oc m l|false=>false
end
def It (m:Nat):List (Nat×ae)->Bool
 |[]=>true
 |(_,x)::l=>match fX m x with|true=>It m l|false=>false
theorem Lt {m:Nat}:∀ {l:List (Nat×ae)},It m l=true->∀ x∈l,fX m x.2=true
 |[],_,x,h=>by cases h
 |(i,c)::cs,hc,x,h=>by
  simp only [It] at hc;cases hx:fX m c with
  |false=>simp [hx] at hc
  |true=>
   simp only [hx] at hc;rcases List.mem_cons.1 h with rfl|h
   ·exact hx
   ·exact Lt hc x h
def rf (m:Nat):bs->Bool
 | .ah x=>fX m x
 | .au _ cells=>oc m cells
 | .eZ _ _ _ tm _ _ _=>It m tm
 | .c9 (.oO k _ _ _)=>Nat.blt k m
 |_=>true
def QM (m:Nat):aS->Bool
 | .aj _=>true
 | .af b=>Nat.blt b m
 | .aJ b=>Nat.blt b m
theorem mQ {m:Nat}:∀ {l:List ae},oc m l=true->∀ (i:Nat) (x:ae),l[i]? =some x->fX m x=true
 |[],_,i,x,h=>by simp at h
 |c::cs,hc,i,x,h=>by
  simp only [oc] at hc;cases hx:fX m c with
  |false=>simp [hx] at hc
  |true=>
   simp only [hx] at hc;cases i with
   |zero=>simp_all
   |succ i=>exact mQ hc i x (by simpa using h)
def cf.fj (g:cf) (m:Nat):cf:={g with aZ:=λi=>if i<m then g.aZ i else none,cu:=λi=>if i<m then g.cu i else none}
theorem aF.K1 {m:Nat} {x:ae} {v:Value} (h:aF w g x v) (hx:fX m x=true):aF w (g.fj m) x v:=by
 induction h with
 |bC h=>exact .bC h
 |nT hl _ ih=>
  simp only [fX] at hx;exact .nT hl (λi x v h1 h2=>ih i x v h1 h2 (mQ hx i x h1))
 |jN hl _ ih=>
  simp only [fX] at hx;exact .jN hl (λi x v h1 h2=>ih i x v h1 h2 (mQ hx i x h1))
 |ni h=>
  simp only [fX] at hx;exact .ni (by simp [cf.fj,eH hx,h])
 |qT vals ha h=>exact .qT vals ha h
 |jc h ht=>
  refine .jc h ?_;rename_i tk _ _ _;cases tk with
  |av=>trivial
  |bR=>exact ht
  |dB id=>
   simp only [fX] at hx;obtain ⟨bk,N,h1,h2,h3⟩:=ht;exact ⟨bk,N,by simp [cf.fj,eH hx,h1],h2,h3⟩
  |cO id=>
   simp only [fX] at hx;obtain ⟨bk,N,h1,h2,h3⟩:=ht;exact ⟨bk,N,by simp [cf.fj,eH hx,h1],h2,h3⟩
 |kH h ha hs hl hf=>
  simp only [fX] at hx;exact .kH (by simp [cf.fj,eH hx,h]) ha hs hl hf
 |rU hl hm _ _ ih1 ih2=>
  simp only [fX] at hx;rename_i fs cs _ _ _ _;cases hfs:oc m fs with
  |false=>simp [hfs] at hx
  |true=>
   simp only [hfs] at hx;exact .rU hl hm (λi x v h1 h2=>ih1 i x v h1 h2 (mQ hfs i x h1)) (λi x v h1 h2=>ih2 i x v h1 h2 (mQ hx i x h1))
 |rV _ ih=>
  simp only [fX] at hx;exact .rV (ih hx)
 |qS h=>
  simp only [fX] at hx;exact .qS (by simp [cf.fj,eH hx,h])
 |rW h=>
  simp only [fX] at hx;exact .rW (by simp [cf.fj,eH hx,h])
 |pF h=>
  simp only [fX] at hx;exact .pF (by simp [cf.fj,eH hx,h])
 |jV=>exact .jV
def aD:List (aS×bs)->az
 |[]=>λ_=> .bq
 |(l,c)::es=>aU (aD es) l c
def lB (σ:az) (m:Nat):List (aS×bs)->Prop
 |[]=>True
 |(l,c)::es=>σ l=c/\(match QM m l with|true=>rf m c|false=>false)=true/\lB σ m es
theorem lB.nZ {m:Nat}:∀ {es:List (aS×bs)},lB σ m es->∀ l,aD es l= .bq\/(aD es l=σ l/\QM m l=true/\rf m (σ l)=true)
 |[],_,l=> .inl rfl
 |(l',c)::es,h,l=>by
  obtain ⟨h1,h2,h3⟩:=h
  by_cases hl:l=l'
  ·subst hl;rw [aD,gY];grind
  ·rw [aD,cL hl];exact h3.nZ l
theorem nY.K7 {nt n m:Nat} (hs:nY b t nt σ n a w) {es:List (aS×bs)} (he:lB σ m es) (h0:t.Hr<=m):nY b t nt (aD es) m a w:=by
 obtain ⟨g,h,hf,hE,hn⟩:=hs;have cutown:∀ id c,(g.fj m).aZ id=some c->g.aZ id=some c/\id<m:=λid c hc=>by
  grind [cf.fj]
 have cutrow:∀ id c,(g.fj m).cu id=some c->g.cu id=some c/\id<m:=λid c hc=>by
  grind [cf.fj]
 have hb:∀ id,aD es (.af id)≠ .bq->aD es (.af id)=σ (.af id)/\id<m/\rf m (σ (.af id))=true:=λid hne=>by
  rcases he.nZ (.af id) with h1|⟨h1,h2,h3⟩
  ·exact absurd h1 hne
  ·exact ⟨h1,eH h2,h3⟩
 have hrw:∀ id,aD es (.aJ id)≠ .bq->aD es (.aJ id)=σ (.aJ id)/\id<m:=λid hne=>by
  rcases he.nZ (.aJ id) with h1|⟨h1,h2,h3⟩
  ·exact absurd h1 hne
  ·exact ⟨h1,eH h2⟩
 have isb:∀ id,(aD es (.af id)).dw=true->aD es (.af id)≠ .bq:=λid hl e=>by rw [e] at hl;cases hl
 refine ⟨g.fj m,bh.lQ h.dU h.fU h.kY h.kh (λid c hc=>(cutown id c hc).2) (λid c hc=>(cutrow id c hc).2) (λid c hc=>h.eU id c (cutown id c hc).1) (λid c N hc=>h.gV id c N (cutrow id _ hc).1)
  (λid hl=>?_) (λid c hl hc=>?_) (λi j k hi hj hci hcj=>?_) (λid Y c hs hc=>h.lv id Y c (by grind) (cutown id c hc).1) (λid t' sz N hs=>?_),⟨hf.mN,hf.nW,λi hi=>?_⟩,⟨⟨hE.ee,λid c hc=>?_,λid bk N hr=>?_,λid c N hr=>hE.vS id c N (cutrow id _ hr).1⟩,hE.rR,hE.uC,hE.rQ⟩,h0⟩
 ·obtain ⟨e1,e2,_⟩:=hb id (isb id hl);rw [e1] at hl;obtain ⟨c,h1,h2⟩:=h.dq id hl;exact ⟨c,by simp [cf.fj,e2,h1],h2⟩
 ·obtain ⟨e1,e2,e3⟩:=hb id (isb id hl);rw [e1] at hl ⊢;have hcl:=h.kF (cutown id c hc).1;cases hx:σ (.af id) with
  |au t' cells=>
   rw [hx] at hcl e3;obtain ⟨arr,q1,q2,q3⟩:=hcl;exact ⟨arr,q1,q2,λi x v h1 h2=>(q3 i x v h1 h2).K1 (mQ e3 i x h1)⟩
  |aR t' cells=>rw [hx] at hcl;exact hcl
  |iR s pos=>rw [hx] at hcl;exact hcl
  |c9 X=>
   rw [hx] at hcl e3;cases X with
   |dP clock es=>exact hcl
   |oO k since seen last=>
    obtain ⟨q,q1,q2⟩:=hcl;exact ⟨q,by grind [rf,cf.fj,eH],q2⟩
  |eZ st pend nt' tm ps assign body=>
   rw [hx] at hcl e3;obtain ⟨r,hr⟩:=hcl;exact ⟨r,hr.qi,hr.EL,hr.EK,hr.Ci,hr.Aw,hr.Cg,hr.Ch,λx hx=>⟨(hr.uE x hx).1,(hr.uE x hx).2.K1 (Lt e3 x hx)⟩⟩
  |_=>trivial
 ·obtain ⟨e1,_,_⟩:=hb i (isb i hi);obtain ⟨e2,_,_⟩:=hb j (isb j hj);exact h.iT i j k (by simp_all) (by simp_all) (cutown _ _ hci).1 (cutown _ _ hcj).1
 ·obtain ⟨e1,e2⟩:=hrw id (by rw [hs];simp);rw [e1] at hs;obtain ⟨bk,h1,h2⟩:=h.fA id t' sz N hs;refine ⟨bk,by simp [cf.fj,e2,h1],λk hk=>?_⟩;obtain ⟨b1,b2,b3,b4,b5,b6⟩:=h2 k hk;refine ⟨b1,b2,b3,λj hl hc=>?_,λj t'' sz'' M M' hj hr=>?_,b6⟩
  ·grind
  grind
 ·have hr:=hf.kI i hi;unfold dV;rcases he.nZ (.aj i) with h1|⟨h1,_,h3⟩
  ·rw [h1];exact .jV
  ·rw [h1];unfold dV at hr;cases hx:σ (.aj i) with
   |ah x=>rw [hx] at hr h3;exact hr.K1 h3
   |_=>exact .jV
 ·have h1:=t.KE id c hc;obtain ⟨e1,e2⟩:=hE.kE id c hc;grind [cf.fj]
 ·have h1:=t.ER id _ hr;obtain ⟨bk',N',e1,e2,e3⟩:=hE.vT id bk N hr;grind [cf.fj]
theorem db.CG {r:Option Nat} {nt lo n m:Nat} {c:Code} {K:Exit->az->Nat->Prop} {es:List (aS×bs)} (he:lB σ m es) (h0:lo<=m) (h:db P r nt lo c (aD es) m K):db P r nt lo c σ n K:=
 ⟨λb t a w hl hs=>h.jG b t a w hl (hs.K7 he (Nat.le_trans hl h0))⟩
def Q0 {X:Type} (st:X->List (aS×bs)) (m:Nat) (I:X->Prop) (μ:X->Nat) (x:X) (K:Exit->az->Nat->Prop) (e:Exit) (σ:az) (n:Nat):Prop:=
 match e with
 | .normal=>∃ x',I x'/\μ x'<μ x/\lB σ m (st x')
 |e=>K e σ n
theorem db.cK {X:Type} (st:X->List (aS×bs)) (m:Nat) (I:X->Prop) (μ:X->Nat) {r:Option Nat} {nt lo n:Nat} {c:Code} {K:Exit->az->Nat->Prop} (hm:lo<=m) (x0:X) (h0:I x0) (hw:lB σ m (st x0))
  (round:∀ x,I x->db P r nt lo c (aD (st x)) m (Q0 st m I μ x K)):db P r nt lo (.loop c) σ n K:=by
 refine ⟨λb t a w hl hs bf k cs hro hfn hroom=>?_⟩;have key:∀ (q:Nat) (x:X),μ x=q->I x->∀ (a:Act) (w:World),nY b t nt (aD (st x)) m a w->
   ∃ e a' w',(∃ σ' n',K e σ' n'/\nY b t nt σ' n' a' w')/\ArrivesIn (Machine.fenced P (nr r)) P (lone (bf.atR a (.code c:: .inLoop c::k)) cs w) bf k cs e a' w':=by
  intro q
  induction q using Nat.strongRecOn with
  |_ q ih=>
   intro x hq hI a w hs;obtain ⟨e,a₁,w₁,⟨σ',n',hk,hs'⟩,harr⟩:=(round x hI).jG b t a w hl hs bf (.inLoop c::k) cs hro hfn hroom;cases e with
   |normal=>
    obtain ⟨x',hI',hlt,hw'⟩:=hk;obtain ⟨e₂,a₂,w₂,hq₂,harr₂⟩:=ih (μ x') (hq▸hlt) x' rfl hI' a₁ w₁ (hs'.K7 hw' (Nat.le_trans hl hm));exact ⟨e₂,a₂,w₂,hq₂, .of_steps (StepsIn.trans harr (.one (fenced_calm hfn hroom rfl) stepR_inLoop)) harr₂⟩
   |exit id=>exact ⟨_,a₁,w₁,⟨σ',n',hk,hs'⟩, .pass (x:= .inLoop c) rfl (λ_ _=> .inl (by simp)) harr⟩
   |goto l=>exact ⟨_,a₁,w₁,⟨σ',n',hk,hs'⟩, .pass (x:= .inLoop c) rfl (λ_ _=> .inl (by simp)) harr⟩
   |ret=>exact ⟨_,a₁,w₁,⟨σ',n',hk,hs'⟩, .pass (x:= .inLoop c) rfl (λ_ _=> .inl (by simp)) harr⟩
   |panic ch=>exact ⟨_,a₁,w₁,⟨σ',n',hk,hs'⟩, .pass (x:= .inLoop c) rfl (λ_ _=> .inl (by simp)) harr⟩
   |outgrown=>exact ⟨_,a₁,w₁,⟨σ',n',hk,hs'⟩, .pass (x:= .inLoop c) rfl (λ_ _=> .inl (by simp)) harr⟩
 obtain ⟨e,a',w',hq,harr⟩:=key _ x0 rfl h0 a w (hs.K7 hw (Nat.le_trans hl hm));exact ⟨e,a',w',hq, .of_steps (.one (fenced_calm hfn hroom rfl) stepR_loop) harr⟩
def Q1 (K:Exit->az->Nat->Prop) (e:Exit) (σ:az) (n:Nat):Prop:=match e with
 | .goto _=>False
 |e=>K e σ n
theorem C2 {b:Frame} {k:List Item} {cs:List Frame} {c:Code}:step P (lone (b.atR a (.code (.scope c)::k)) cs w)= .next (lone (b.atR a (.code c:: .inScope c::k)) cs w):=
 step_lone_go (by trivial)
theorem Z2 {b:Frame} {k:List Item} {cs:List Frame} {c:Code}:step P (lone (b.atR a (.inScope c::k)) cs w)= .next (lone (b.atR a k) cs w):=
 step_lone_go (by trivial)
theorem Z5 {F:Fence} {n:Nat} {c:Code} {Q:Exit->Act->World->Prop} (h:c.wpIn F n P (Exit.noGoto Q) a w):(Code.scope c).wpIn F n P Q a w:=by
 intro b k cs hro hb hr;have h0:(lone (b.atR a (.code (.scope c)::k)) cs w).fenced P F:=fenced_calm hb hr rfl;obtain ⟨e,a₁,w₁,hq,harr⟩:=h b (.inScope c::k) cs hro hb hr;cases e with
 |normal=>exact ⟨.normal,a₁,w₁,hq, .head h0 C2 (StepsIn.trans harr (.one (fenced_calm hb hr rfl) Z2))⟩
 |exit id=>
  have hx:exitTo id (.inScope c::k)=exitTo id k:=by simp [exitTo]
  exact ⟨_,a₁,w₁,hq,λk' hk=> .head h0 C2 (harr.1 k' (by rw [hx];exact hk)),
   λhr' hk=>let ⟨k₁,h1,h2⟩:=harr.2 hr' (by rw [hx];exact hk);⟨k₁,h1, .head h0 C2 h2⟩⟩
 |goto l=>exact hq.elim
 |ret=>exact ⟨_,a₁,w₁,hq, .of_steps (.one h0 C2) harr⟩
 |panic ch=>exact ⟨_,a₁,w₁,hq, .of_steps (.one h0 C2) harr⟩
 |outgrown=>exact ⟨_,a₁,w₁,hq, .of_steps (.one h0 C2) harr⟩
theorem db.P4 {r:Option Nat} {nt lo n:Nat} {c:Code} {K:Exit->az->Nat->Prop} (h:db P r nt lo c σ n (Q1 K)):db P r nt lo (.scope c) σ n K:=by
 refine ⟨λb t a w h0 hs=>?_⟩;refine Z5 (wpIn_mono (h.jG b t a w h0 hs) ?_);rintro e a' w' ⟨σ',n',h1,h2⟩;cases e with
 |goto l=>exact h1.elim
 |_=>exact ⟨σ',n',h1,h2⟩
def QD (P:Program) (T:cN) (nt:Nat) (all:List Oper) (gs:List Nat) (l:List Oper):Nat->az->Nat->(az->Nat->Prop)->Prop:=
 List.rec (motive:=λ_=>Nat->az->Nat->(az->Nat->Prop)->Prop) (λ_ σ n K=>K σ n) (λo _ ih i σ n K=>match o with
 |⟨dst,op,ty,pos,after,guard⟩=>
  match wb nt ⟨dst,op,ty,pos,after,guard⟩ with
  |false=>False
  |true=>match qt σ all guard with
   |none=>False
   |some false=>fW σ dst (.aw []) λσ=>ih (i+1) σ (n+1) K
   |some true=>match op with
    | .call ⟨.value fo,args,_⟩=>match aM σ fo with
     | .aP f first captured=>
      bz P f (tw.gm first (tw.gm (dQ σ args.toList) captured)) σ n λv σ' n'=>gN (gO i gs) v λv=>fW (iM σ σ') dst v λσ=>ih (i+1) σ n' K
     | .cw id=>CH P id (dQ σ args.toList) σ n λv σ' n'=>gN (gO i gs) v λv=>fW (iM σ σ') dst v λσ=>ih (i+1) σ n' K
     |_=>False
    | .call ⟨.invoke recv m,args,_⟩=>match aM σ recv with
     | .cm t x=>
      ∃ f,AT P t m f=true/\bz P f (x::dQ σ args.toList) σ n λv σ' n'=>gN (gO i gs) v λv=>fW (iM σ σ') dst v λσ=>ih (i+1) σ n' K
     |_=>False
    |op=>match Io σ op with
     |true=>mf P ⟨dst,op,ty,pos,after,guard⟩ σ n λv σ' n'=>gN (gO i gs) v λv=>fW (iM σ σ') dst v λσ=>ih (i+1) σ n' K
     |false=>(df P T σ n ⟨dst,op,ty,pos,after,guard⟩).Az λv us=>match n9 us with
      |true=>gN (gO i gs) v λv=>sg σ us λσ=>fW σ dst v λσ=>ih (i+1) σ (n+1) K
      |false=>False) l
theorem QE {P:Program} {T:cN} {nt:Nat} {all:List Oper} {gs:List Nat}:∀ (l:List Oper),QD P T nt all gs l=tw P T nt all gs l
 |[]=>rfl
 |⟨dst,op,ty,pos,after,guard⟩::rest=>by
  funext i σ n K;rw [tw.eq_def];simp only [];rw [<-QE rest];rfl
def QA (P:Program) (T:cN) (nt:Nat) (all:List Oper) (gs:List Nat) (l:List Oper):Nat->az->Nat->List gl->(List gl->az->Nat->Prop)->Prop:=
 List.rec (motive:=λ_=>Nat->az->Nat->List gl->(List gl->az->Nat->Prop)->Prop) (λ_ σ n acc K=>K acc σ n) (λo _ ih i σ n acc K=>match o with
 |⟨dst,op,ty,pos,after,guard⟩=>
  match wb nt ⟨dst,op,ty,pos,after,guard⟩ with
  |false=>False
  |true=>match qt σ all guard with
   |none=>False
   |some false=>fW σ dst (.aw []) λσ'=>qq (lD σ all ⟨dst,op,ty,pos,after,guard⟩) (jx (oQ dst (.aw []))) λfp=>ih (i+1) σ' (n+1) (fp::acc) K
   |some true=>match op with
    | .call ⟨.value fo,args,ats⟩=>match aM σ fo with
     | .aP f first captured=>
      match rb (tw.gm first (tw.gm (dQ σ args.toList) captured)) with
      |true=>match QK T ty with
       |true=>tu all i (od acc)=true/\uK all i=true/\bz P f (tw.gm first (tw.gm (dQ σ args.toList) captured)) σ n λv σ' n'=>gN (gO i gs) v λv=>fW (iM σ σ') dst v λσ=>ih (i+1) σ n' (mP (i+1)) K
       |false=>match σ (.aJ 0) with
        | .ah _=>∃ m0 res rx wx,Nat.ble (m0+i) n=true/\mi P m0 f (tw.gm first (tw.gm (dQ σ args.toList) captured)) σ n rx wx res/\n9 wx=true/\
         gN (gO i gs) res λv=>sg σ wx λσ1=>fW σ1 dst v λσ'=>qq (rx.append (lD σ all ⟨dst, .call ⟨.value fo,args,ats⟩,ty,pos,after,guard⟩)) (jx (wx++oQ dst v)) λfp=>ih (i+1) σ' (n+1) (fp::acc) K
        |_=>∃ res,rb (tw.gm first (tw.gm (dQ σ args.toList) captured))=true/\aC P f (q9 (tw.gm first (tw.gm (dQ σ args.toList) captured))) res/\
        gN (gO i gs) res λv=>fW σ dst v λσ'=>qq (lD σ all ⟨dst, .call ⟨.value fo,args,ats⟩,ty,pos,after,guard⟩) (jx (oQ dst v)) λfp=>ih (i+1) σ' (n+1) (fp::acc) K
      |false=>match σ (.aJ 0) with
       | .ah _=>∃ m0 res rx wx,Nat.ble (m0+i) n=true/\mi P m0 f (tw.gm first (tw.gm (dQ σ args.toList) captured)) σ n rx wx res/\n9 wx=true/\
        gN (gO i gs) res λv=>sg σ wx λσ1=>fW σ1 dst v λσ'=>qq (rx.append (lD σ all ⟨dst, .call ⟨.value fo,args,ats⟩,ty,pos,after,guard⟩)) (jx (wx++oQ dst v)) λfp=>ih (i+1) σ' (n+1) (fp::acc) K
       |_=>(∃ res rx wx,CN P f (tw.gm first (tw.gm (dQ σ args.toList) captured)) σ rx wx res/\n9 wx=true/\
       gN (gO i gs) res λv=>sg σ wx λσ1=>fW σ1 dst v λσ'=>qq (rx.append (lD σ all ⟨dst, .call ⟨.value fo,args,ats⟩,ty,pos,after,guard⟩)) (jx (wx++oQ dst v)) λfp=>ih (i+1) σ' (n+1) (fp::acc) K)\/
       (tu all i (od acc)=true/\uK all i=true/\bz P f (tw.gm first (tw.gm (dQ σ args.toList) captured)) σ n λv σ' n'=>gN (gO i gs) v λv=>fW (iM σ σ') dst v λσ=>ih (i+1) σ n' (mP (i+1)) K)
     | .cw id=>tu all i (od acc)=true/\uK all i=true/\CH P id (dQ σ args.toList) σ n λv σ' n'=>gN (gO i gs) v λv=>fW (iM σ σ') dst v λσ=>ih (i+1) σ n' (mP (i+1)) K
     |_=>False
    | .call ⟨.invoke recv m,args,_⟩=>match aM σ recv with
     | .cm t x=>tu all i (od acc)=true/\uK all i=true/\∃ f,AT P t m f=true/\bz P f (x::dQ σ args.toList) σ n λv σ' n'=>gN (gO i gs) v λv=>fW (iM σ σ') dst v λσ=>ih (i+1) σ n' (mP (i+1)) K
     |_=>False
    | .lookup mt x k ok=>tu all i (od acc)=true/\uK all i=true/\mf P ⟨dst, .lookup mt x k ok,ty,pos,after,guard⟩ σ n λv σ' n'=>gN (gO i gs) v λv=>fW (iM σ σ') dst v λσ=>ih (i+1) σ n' (mP (i+1)) K
    |op=>(df P T σ n ⟨dst,op,ty,pos,after,guard⟩).Az λv us=>match n9 us with
     |true=>gN (gO i gs) v λv=>sg σ us λσ1=>fW σ1 dst v λσ'=>qq (lD σ all ⟨dst,op,ty,pos,after,guard⟩) (jx (us++oQ dst v)) λfp=>ih (i+1) σ' (n+1) (fp::acc) K
     |false=>False) l
theorem QB {P:Program} {T:cN} {nt:Nat} {all:List Oper} {gs:List Nat}:∀ (l:List Oper),QA P T nt all gs l=k7 P T nt all gs l
 |[]=>rfl
 |⟨dst,op,ty,pos,after,guard⟩::rest=>by
  funext i σ n acc K;rw [k7.eq_def];simp only [];rw [<-QB rest];rfl
def oR (P:Program) (T:cN) (r:Option Nat) (nt lo:Nat) (c:Code):az->Nat->(Exit->az->Nat->Prop)->Prop:=
 Code.rec (motive:=λ_=>az->Nat->(Exit->az->Nat->Prop)->Prop)
  (λσ n K=>K .normal σ n)
  (λ_ ops draw σ n K=>match ops,draw with
   |⟨ops⟩,false=>match v8 nt ops with
    |true=>QD P T nt ops (E9 ops) ops 0 σ n (λσ n=>K .normal σ n)
    |false=>False
   |⟨ops⟩,true=>match v8 nt ops with
    |true=>QA P T nt ops (E9 ops) ops 0 σ n [] (λfps σ n=>E6 ops (od fps)=true/\K .normal σ n)
    |false=>False)
  (λ_ _ x y σ n K=>x σ n (Lw (λσ n=>y σ n K) K))
  (λc _ _ x y σ n K=>match xM nt c with
   |false=>False
   |true=>match aM σ c with
    | .bN=>x σ n K
    | .bo=>y σ n K
    | .aE q=>(q=true->x (Fi σ c .bN) n K)/\(q=false->y (Fi σ c .bo) n K)
    |_=>False)
  (λid _ x σ n K=>x σ n (Lc id K))
  (λc _ σ n K=>db P r nt lo (.loop c) σ n K)
  (λf ps x y _ _ σ n K=>db P r nt lo (.rangeFunc f ps x y) σ n K)
  (λid σ n K=>K (.exit id) σ n)
  (λ_ x σ n K=>x σ n (Q1 K))
  (λ_ σ n K=>K .normal σ n)
  (λl σ n K=>db P r nt lo (.goto l) σ n K)
  (λσ n K=>K .ret σ n)
  (λs σ n K=>db P r nt lo (.refuse s) σ n K)
  c
theorem se (hT:dA P T) (hm:P.follows .mixedOrders=true) {r:Option Nat} {nt lo:Nat}:∀ (c:Code) (σ:az) (n:Nat) (K:Exit->az->Nat->Prop),oR P T r nt lo c σ n K->db P r nt lo c σ n K:=by
 intro c
 induction c with
 |skip=>exact λσ n K h=>db.KV h
 |label l=>exact λσ n K h=>db.YU h
 |ret=>exact λσ n K h=>db.YW h
 |exit id=>exact λσ n K h=>db.YT h
 |seq x y ihx ihy=>
  intro σ n K h;refine db.CF ((ihx σ n _ h).KU λe σ' n' hk=>?_);cases e with
  |normal=>exact ihy σ' n' K hk
  |_=>exact hk
 |block id c ih=>exact λσ n K h=>db.YS (ih σ n _ h)
 |cond c x y ihx ihy=>
  intro σ n K h;simp only [oR] at h;cases ho:xM nt c with
  |false=>simp only [ho] at h
  |true=>
   simp only [ho] at h;refine db.CE ho ?_;cases hc:aM σ c with
   |bN=>rw [hc] at h;exact ihx σ n K h
   |bo=>rw [hc] at h;exact ihy σ n K h
   |aE q=>rw [hc] at h;exact ⟨λe=>ihx _ n K (h.1 e),λe=>ihy _ n K (h.2 e)⟩
   |_=>rw [hc] at h;exact h
 |region id ops draw=>
  intro σ n K h;obtain ⟨ops⟩:=ops;cases draw with
  |true=>
   simp only [oR] at h;cases hd:v8 nt ops with
   |false=>simp only [hd] at h
   |true=>
    simp only [hd] at h;exact ZB hT hm hd (by rw [QB] at h;exact h)
  |false=>
   simp only [oR] at h;cases hd:v8 nt ops with
   |false=>simp only [hd] at h
   |true=>simp only [hd] at h;exact db.YV hT (Ik hd) (by rw [QE] at h;exact h)
 |loop c ih=>exact λσ n K h=>h
 |rangeFunc f ps x y _ _=>exact λσ n K h=>h
 |scope c ih=>exact λσ n K h=>db.P4 (ih σ n _ h)
 |goto l=>exact λσ n K h=>h
 |refuse s=>exact λσ n K h=>h
end
section
variable {P:Program} {T:cN} {b:ek P} {t:nU} {σ:az} {D:Nat->Prop} {g:cf} {a:Act} {w:World}
def n5 (args:List ae):az:=λl=>match l with
 | .aj i=>match lS args i with|some x=> .ah x|none=> .bq
 |_=> .bq
def zn (σ:az) (args:List ae):az:=λl=>match l with
 | .aj i=>match lS args i with|some x=> .ah x|none=> .bq
 |l=>σ l
def Iu (σ:az) (T:cN):ResultVar->Option ae
 | .tmp t=>some (dV σ t)
 | .cell a t=>match dV σ a with
  | .ar b off=>match σ (.af b),uJ T t with
   | .au _ cells,some (size,agg)=>nm agg size off cells
   |_,_=>none
  |_=>none
def mR (σ:az) (T:cN):List ResultVar->Option (List ae)
 |[]=>some []
 |r::rs=>match Iu σ T r with
  |some v=>match mR σ T rs with|some vs=>some (v::vs)|none=>none
  |none=>none
def xL:List ae->ae
 |[v]=>v
 |vs=> .aw vs
def lE (nt:Nat):List ResultVar->Bool
 |[]=>true
 | .tmp t::rs=>match Nat.blt t nt with|true=>lE nt rs|false=>false
 | .cell a _::rs=>match Nat.blt a nt with|true=>lE nt rs|false=>false
theorem ZU {k o:Nat}:(asAddr (.pointer (some ⟨k,o,none⟩))).run P w= .ok ⟨k,o,none⟩ w:=rfl
def C1 (tmps:Array Value):ResultVar->Sem Value
 | .tmp t=>pure (tmps.getD t undef)
 | .cell x t=>do loadVar t (<-asAddr (tmps.getD x undef))
theorem QX (hT:dA P T) {n0 nt:Nat} (h:bh b σ D g w) (hf:mg n0 nt σ g a w):∀ (rs:List ResultVar) (vs:List ae),lE nt rs=true->mR σ T rs=some vs->
  ∃ vals:List Value,(rs.mapM (C1 a.tmps)).run P w= .ok vals w/\vals.length=vs.length/\∀ (i:Nat) (x:ae) (v:Value),vs[i]? =some x->vals[i]? =some v->aF w g x v
 |[],vs,_,hr=>by simp [mR] at hr;simp_all
 |r::rs,vs,ho,hr=>by
  simp only [mR] at hr;cases h1:Iu σ T r with
  |none=>simp [h1] at hr
  |some v=>
   simp only [h1] at hr;cases h2:mR σ T rs with
   |none=>simp [h2] at hr
   |some vs'=>
    simp only [h2,Option.some.injEq] at hr;subst hr;have ho':lE nt rs=true:=by
     cases r with
     |tmp t=>
      grind [lE]
     |cell x t=>
      grind [lE]
    obtain ⟨vals,q1,q2,q3⟩:=QX hT h hf rs vs' ho' h2;have step:∀ val,(C1 a.tmps r).run P w= .ok val w->aF w g v val->
      ∃ vals:List Value,((r::rs).mapM (C1 a.tmps)).run P w= .ok vals w/\vals.length=(v::vs').length/\∀ (i:Nat) (x:ae) (u:Value),(v::vs')[i]? =some x->vals[i]? =some u->aF w g x u:=by
     intro val hval hrep;refine ⟨val::vals,?_,by simp [q2],λi x u hx hu=>?_⟩
     ·simp_all
     grind
    cases r with
    |tmp t=>
     simp only [Iu,Option.some.injEq] at h1;subst h1;simp only [lE] at ho;cases hb:Nat.blt t nt with
     |false=>simp [hb] at ho
     |true=>exact step _ (by simp [C1]) (hf.kI t (eH hb))
    |cell x ty=>
     simp only [lE] at ho;cases hb:Nat.blt x nt with
     |false=>simp [hb] at ho
     |true=>
      have hp:=hf.kI x (eH hb);simp only [Iu] at h1;cases hx:dV σ x with
      |ar id off=>
       simp only [hx] at h1;rw [hx] at hp;obtain ⟨c,e1,e2⟩:=hp.qU;cases hbk:σ (.af id) with
       |au bt cells=>
        cases hts:uJ T ty with
        |none=>simp_all
        |some sa=>
         obtain ⟨size,agg⟩:=sa;simp only [hbk,hts] at h1;obtain ⟨us,hus⟩:=h.EF hbk e1;obtain ⟨val,k1,k2⟩:=PZ hT hts (w:=w) (g:=g) (k:=c) (off:=off) (cs:=cells.drop off) (vs:=λj=>us (off+j)) (λj x hx=>(hus (off+j) x (by simpa using hx)).1) (λj x hx=>(hus (off+j) x (by simpa using hx)).2) (KP h1);grind [C1,Sem.run_bind,ZU,Result.andThen_ok]
       |_=>simp [hbk] at h1
      |_=>simp [hx] at h1
theorem ZR (hT:dA P T) {n0 nt:Nat} (h:bh b σ D g w) (hf:mg n0 nt σ g a w) {fn:Func} (ho:lE nt fn.results.toList=true) {vs:List ae} (hr:mR σ T fn.results.toList=some vs):
  ∃ val,(results fn a.tmps).run P w= .ok val w/\aF w g (xL vs) val:=by
 obtain ⟨vals,h1,h2,h3⟩:=QX hT h hf _ vs ho hr;have hrun:(results fn a.tmps).run P w= .ok (if h:vals.toArray.size=1 then vals.toArray[0] else .tuple vals.toArray) w:=by
  have e:results fn a.tmps=(do let vs <-fn.results.mapM (C1 a.tmps);pure (if h:vs.size=1 then vs[0] else .tuple vs)):=rfl;rw [e,Array.mapM_eq_mapM_toList];simp_all
 clear h1
 match vs,vals,h2,h3,hrun with
 |[v],[val],_,h3,hrun=>exact ⟨val,by rw [hrun];simp,h3 0 v val rfl rfl⟩
 |[],[],_,h3,hrun=>exact ⟨.tuple #[],by rw [hrun];simp, .jN (vs:=[]) rfl (by simp)⟩
 |v1::v2::vs,u1::u2::us,h2,h3,hrun=>exact ⟨.tuple (u1::u2::us).toArray,by rw [hrun];simp, .jN h2 h3⟩
structure iL (x y:ae):Prop where
 pH:∀ (w:World) (F:Nat->Nat->Prop) (v:Value),cb w F x v->cb w F y v
theorem iL.bw (x:ae):iL x x:=⟨λ_ _ _ h=>h⟩
theorem iL.mj {x y:ae} (h:x=y):iL x y:=h▸iL.bw x
theorem iL.eR (b:Bool) (s s':Nat):iL (.ag b s [] .av) (.ag b s' [] .av):=⟨λw F v h=>by
 cases h with|iK vals hnil hc hsz ha hone h=>exact .iK (els:=[]) vals hnil hc (by simp) (λi el j x h1 _=>by simp at h1) (λi el j x h1 _=>by simp at h1) (λi el j x h1 _=>by simp at h1)⟩
inductive mO:List ae->List ae->Prop
 |fa:mO [] []
 |aX {x y:ae} {l m:List ae} (h:iL x y) (h':mO l m):mO (x::l) (y::m)
theorem mO.v7:∀ {l m:List ae},mO l m->l.length=m.length
 |_,_, .fa=>rfl
 |_,_, .aX _ h=>by simp [h.v7]
theorem mO.CM:∀ {l m:List ae},mO l m->∀ (i:Nat) (x y:ae),l[i]? =some x->m[i]? =some y->iL x y
 |_,_, .fa,i,x,y,h,_=>by simp at h
 |_,_, .aX h _,0,x,y,h1,h2=>by simp_all
 |_,_, .aX _ h,i+1,x,y,h1,h2=>h.CM i x y (by simpa using h1) (by simpa using h2)
theorem mO.E5:∀ (l:List ae),mO l l
 |[]=> .fa
 |x::l=> .aX (.bw x) (mO.E5 l)
theorem iL.np {l m:List ae} (h:mO l m):iL (.aK l) (.aK m):=⟨λw F v hx=>by
 cases hx with|xq hl hr=>exact .xq (hl.trans h.v7) (λi y u hy hu=>by
  have hi:i<l.length:=by grind
  exact (h.CM i l[i] y (List.getElem?_eq_getElem hi) hy).pH _ _ _ (hr i _ u (List.getElem?_eq_getElem hi) hu))⟩
theorem iL.ml {l m:List ae} (h:mO l m):iL (.aw l) (.aw m):=⟨λw F v hx=>by
 cases hx with|rT hl hr=>exact .rT (hl.trans h.v7) (λi y u hy hu=>by
  have hi:i<l.length:=by grind
  exact (h.CM i l[i] y (List.getElem?_eq_getElem hi) hy).pH _ _ _ (hr i _ u (List.getElem?_eq_getElem hi) hu))⟩
inductive km (σ:az):ae->ae->Prop
 |mh {v:ae} (h:xC v=true):km σ v (xA v)
 |zf {k off sz len:Nat} {full:Bool} {t:TypeId} {cells:List ae} {els:List (List ae)} (h:σ (.af k)= .aR t cells) (h1:els.length=len) (h2:∀ el∈els,el.length=sz) (h3:off+len*sz<=cells.length)
   (h4:(cells.drop off).take (len*sz)=els.flatten) (h5:fL els.flatten=true):km σ (.aL k off sz len full) (.ag false sz els .av)
 |KY {cs ds:List ae} (hl:cs.length=ds.length) (h:∀ (i:Nat) (x y:ae),cs[i]? =some x->ds[i]? =some y->km σ x y):km σ (.aK cs) (.aK ds)
 |P6 {cs ds:List ae} (hl:cs.length=ds.length) (h:∀ (i:Nat) (x y:ae),cs[i]? =some x->ds[i]? =some y->km σ x y):km σ (.aw cs) (.aw ds)
 |j9 {t:TypeId} {x y:ae} (h:km σ x y):km σ (.cm t x) (.cm t y)
 |H4 {x y z:ae} (h:km σ x y) (h':iL y z):km σ x z
theorem km.YZ {F:Nat->Nat->Prop} (h:bh b σ D g w) (hF:∀ k o,g.bJ k o->F k o) (hown:∀ id c,g.aZ id=some c->(σ (.af id)).dw=true->∀ o,F c o) {x y:ae} {v:Value} (hf:km σ x y) (hr:aF w g x v):cb w F y v:=by
 induction hf generalizing v with
 |mh hp=>exact (tg hp hr).eO λk o hk=>⟨hF k o hk,rfl⟩
 |zf hs h1 h2 h3 h4 h5=>
  rename_i k off sz len full t cells els;obtain ⟨c,cap,ad,q1,rfl,q3,q4,q5,q6⟩:=hr.mK;obtain ⟨vs,hvs⟩:=h.EH hs q1;subst h1;have hfl:=lA sz els h2;have key:∀ (i:Nat) (el:List ae) (j:Nat) (x:ae),els[i]? =some el->el[j]? =some x->w.cell? ⟨c,off+(i*sz+j),none⟩=some (vs (off+(i*sz+j)))/\cb w g.bJ x (vs (off+(i*sz+j)))/\xB x=true/\0<els.length:=by
   intro i el j x hi hj;have hx:=EV sz els i j el x h2 hi hj;grind [zb]
  obtain ⟨ad',rfl⟩:=Option.isSome_iff_exists.1 q4;refine .iK (λi j=>vs (off+(i*sz+j))) rfl q5 h2 (λi el j x hi hj=>?_) (λi el j x hi hj=>?_) (λi el j x hi hj=>?_)
  ·obtain ⟨p1,_,_,p3⟩:=key i el j x hi hj;exact ⟨c,off,q3 p3,hown k c q1 (by rw [hs];rfl) _,by grind⟩
  ·obtain ⟨_,p2,p3,_⟩:=key i el j x hi hj;exact te (g:=g) (.bC p2) p3
  ·exact (key i el j x hi hj).2.1.eO λk o hk=>⟨hF k o hk,rfl⟩
 |KY hl _ ih=>
  obtain ⟨vs,rfl,h1,h2⟩:=hr.Cn;rename_i cs ds _;refine .xq om (λi y u hy hu=>?_);grind
 |P6 hl _ ih=>
  obtain ⟨vs,rfl,h1,h2⟩:=hr.Hp;rename_i cs ds _;refine .rT om (λi y u hy hu=>?_);grind
 |j9 _ ih=>
  obtain ⟨u,rfl,h1⟩:=hr.Ay;exact .Cm (ih h1)
 |H4 _ hs ih=>exact hs.pH _ _ _ (ih hr)
def Fa:List ae->(List ae->Prop)->Prop
 |[],K=>K []
 |x::l,K=>Fj x λx=>Fa l λl=>K (x::l)
theorem Lq:∀ {l:List ae} {K:List ae->Prop},Fa l K↔K l
 |[],K=>Iff.rfl
 |x::l,K=>by simp only [Fa,Ly,Lq]
def QT (v:ae) (K:ae->Prop):Prop:=match v with
 | .aK cs=>Fa cs λcs=>K (.aK cs)
 | .aw cs=>Fb cs λcs=>K (.aw cs)
 |v=>Fj v K
where
 Fb:List ae->(List ae->Prop)->Prop
  |[],K=>K []
  | .aK cs::l,K=>Fa cs λcs=>Fb l λl=>K (.aK cs::l)
  |x::l,K=>Fj x λx=>Fb l λl=>K (x::l)
theorem QS:∀ {l:List ae} {K:List ae->Prop},QT.Fb l K↔K l
 |[],K=>Iff.rfl
 |x::l,K=>by cases x<;>simp only [QT.Fb,Lq,Ly,QS]
theorem ZN {v:ae} {K:ae->Prop}:QT v K↔K v:=by
 cases v with
 |aK cs=>exact Lq
 |aw cs=>exact QS
 |_=>exact Iff.rfl
def zm (R:ae->ae->Prop) (σ:az) (v res:ae):Prop:=match AU v with
 |true=>QT (CT v) λv=>R v res
 |false=>km σ v res
def xN (R:ae->ae->Prop) (T:cN) (fn:Func) (res:ae) (e:Exit) (σ:az) (_n:Nat):Prop:=
 match e with
 | .normal=>match mR σ T fn.results.toList with|some vs=>zm R σ (xL vs) res|none=>False
 | .ret=>match mR σ T fn.results.toList with|some vs=>zm R σ (xL vs) res|none=>False
 |_=>False
theorem lC {f:FuncId} {fn:Func} {c:Code} (hf:P.funcs[f]? =some fn) (hb:fn.body=some c) (hn:(fn.name== "runtime.NumGoroutine")=false):oP P f:=by
 intro args w;have hn':¬fn.name= "runtime.NumGoroutine" :=by simpa using hn
 simp [callFunc,hf,hb,hn']
theorem bh.P8 (w:World) (F:Nat->Nat->Prop) (hG:mb P w) (hF:∀ k o,F k o->k<w.heap.size) (args:List ae):bh (P:=P) (ek.xk w F hG hF) (n5 args) (·<0) ⟨F,λ_=>none,λ_=>none⟩ w where
 dU:=oL.EC _ _ _
 fU:=hF
 kY:=λ_ _ h=>h
 kh:=λ_ _ h _ _=>h
 lu:=λ_ _ h=>by cases h
 ki:=λ_ _ h=>by cases h
 eU:=λ_ _ h=>by cases h
 gV:=λ_ _ _ h=>by cases h
 dq:=λ_ h=>by cases h
 nS:=λ_ _ _ _ h=>by cases h
 oN:=λ_ _ _ _ h=>by cases h
 EG:=λ_ _ _ _ h=>by cases h
 s8:=λ_ _ _ h=>by cases h
 lv:=λ_ _ _ h=>by cases h
 y5:=λ_ _ _ _ _ _ _ _ _ h=>by cases h
 iT:=λ_ _ _ h=>by cases h
 fA:=λ_ _ _ _ h=>by cases h
structure tj (n0:Nat) (w w':World):Prop where
 K4:w'.os=w.os
 K6:w'.tape=w.tape
 K5:w'.output=w.output
 xI:w'.heap.size=w.heap.size
 Ib:∀ (k:Nat),k<n0->w'.heap[k]? =w.heap[k]?
 AO:∀ (k:Nat),(∀ ds:Option (List Deferred),w.heap[k]?≠some (Obj.deferred ds))->w'.heap[k]? =w.heap[k]?
 Ie:∀ (k:Nat) (ds:Option (List Deferred)),w.heap[k]? =some (Obj.deferred ds)->∃ ds':Option (List Deferred),w'.heap[k]? =some (Obj.deferred ds')
 K2:w'.drawn=w.drawn
theorem tj.Za (n0:Nat) (w:World):tj n0 w w:=⟨rfl,rfl,rfl,rfl,λ_ _=>rfl,λ_ _=>rfl,λ_ ds h=>⟨ds,h⟩,rfl⟩
theorem tj.Zb {n0:Nat} {w w' w'':World} (h:tj n0 w w') (k:tj n0 w' w''):tj n0 w w'':=
 ⟨k.K4.trans h.K4,k.K6.trans h.K6,k.K5.trans h.K5,k.xI.trans h.xI,λi hi=>(k.Ib i hi).trans (h.Ib i hi),
  λi hi=>(k.AO i (λds e=>hi ds (by rw [<-h.AO i hi];exact e))).trans (h.AO i hi),λi ds hi=>(let ⟨ds',h'⟩:=h.Ie i ds hi;k.Ie i ds' h'),k.K2.trans h.K2⟩
theorem tj.Y9 {n0 r:Nat} {ds:Option (List Deferred)} (hr:n0<=r) (h:w.heap[r]? =some (.deferred ds)):tj n0 w (w.putObj r (.deferred none)):=by
 have hlt:r<w.heap.size:=(Array.getElem?_eq_some_iff.1 h).1;refine ⟨rfl,rfl,rfl,World.putObj_size,λk hk=>World.putObj_heap_other om,λk hk=>?_,λk ds' hk=>?_,rfl⟩
 ·grind [World.putObj_heap_other]
 grind [World.putObj_heap_same,World.putObj_heap_other]
theorem tj.Qi {n0:Nat} {w':World} (h:tj n0 w w') (x:Addr):w'.cell? x=w.cell? x:=by
 unfold World.cell?
 by_cases hd:∃ ds:Option (List Deferred),w.heap[x.block]? =some (Obj.deferred ds)
 ·obtain ⟨ds,hd⟩:=hd;obtain ⟨ds',hd'⟩:=h.Ie _ ds hd;rw [hd,hd']
 ·rw [h.AO _ (λds e=>hd ⟨ds,e⟩)]
theorem tj.Ic {n0:Nat} {w':World} (h:tj n0 w w') (k:Nat):w'.shape? k=w.shape? k:=by
 unfold World.shape?
 by_cases hd:∃ ds:Option (List Deferred),w.heap[k]? =some (Obj.deferred ds)
 ·obtain ⟨ds,hd⟩:=hd;obtain ⟨ds',hd'⟩:=h.Ie _ ds hd;rw [hd,hd']
 ·rw [h.AO _ (λds e=>hd ⟨ds,e⟩)]
theorem tj.K3 {n0:Nat} {w':World} (h:tj n0 w w') (g:cf):vR g w g w':=
 ⟨λ_ _ hk=>⟨hk,h.Qi _⟩,λ_ c hc=>⟨hc,h.Ic c⟩,λ_ bk N hr=>⟨bk,N,hr,Nat.le_refl _,λ_=>⟨rfl,λc _=>h.Ic c⟩⟩,λ_ _ N h=> .inl ⟨N,h⟩⟩
theorem tj.Y8 {n0 B:Nat} {w':World} (h:tj n0 w w') (hB:B<=n0):Below B w w':=⟨h.K4,h.K6,h.K5,by grind [h.xI],λk hk=>h.Ib k om⟩
theorem dp.YY {g0:cf} {w0 w':World} (hE:dp g0 w0 g w) (h:tj w0.heap.size w w'):dp g0 w0 g w':=by
 have hC:=h.K3 g;refine ⟨⟨λk o hk=>⟨(hE.ee k o hk).1,(h.Qi _).trans (hE.ee k o hk).2⟩,λid c hc=>⟨(hE.kE id c hc).1,(h.Ic c).trans (hE.kE id c hc).2⟩,λid bk N hr=>?_,hE.vS⟩,
  by rw [h.xI];exact hE.rR,by rw [h.K2];exact hE.uC,λd ds hd=>(h.Ib d (Array.getElem?_eq_some_iff.1 hd).1).trans (hE.rQ d ds hd)⟩
 obtain ⟨bk',N',h1,h2,h3⟩:=hE.vT id bk N hr;exact ⟨bk',N',h1,h2,λe=>⟨(h3 e).1,λc hc=>(h.Ic c).trans ((h3 e).2 c hc)⟩⟩
theorem mI.YX {c:Nat} {X:bs} (h:mI w g c X) (hX:X.dw=true) (ds:Option (List Deferred)):w.heap[c]?≠some (Obj.deferred ds):=by
 intro e;cases X with
 |au t cells=>obtain ⟨arr,h1,_⟩:=h;simp_all
 |aR t cells=>obtain ⟨arr,z,h1,_⟩:=h;simp_all
 |iR s pos=>obtain ⟨sb,h1,_⟩:=h;simp_all
 |eZ st pend nt tm ps assign body=>obtain ⟨r,hr⟩:=h;grind [hr.qi]
 |c9 X=>
  cases X with
  |dP clock es=>obtain ⟨arr,h1,_⟩:=h;simp_all
  |oO m since seen last=>obtain ⟨k,_,h1⟩:=h;simp_all
 |_=>cases hX
theorem bh.Y0 {n0:Nat} {w':World} (h:bh b σ D g w) (hs:tj n0 w w') (hB:b.lr.heap.size<=n0):bh b σ D g w':=by
 refine bh.lQ (h.dU.xl (.Kx (hs.Y8 hB))) (λk o hk=>by rw [hs.xI];exact h.fU k o hk) h.kY h.kh h.lu h.ki (λid c hc=>by rw [hs.xI];exact h.eU id c hc) (λid c N hc=>by rw [hs.xI];exact h.gV id c N hc)
  (λid hl=>by rw [hs.xI];exact h.dq id hl) (λid c hl hc=>?_) h.iT h.lv (λid t sz N hr=>?_)
 ·have hcl:=h.kF hc;exact hcl.ED (hs.K3 g) (hs.AO c (hcl.YX hl))
 ·obtain ⟨bk,h1,h2⟩:=h.fA id t sz N hr;refine ⟨bk,h1,λc hc=>?_⟩;obtain ⟨a1,a2,a3,a4,a5,arr,z,a6,a7⟩:=h2 c hc;exact ⟨a1,by rw [hs.xI];exact a2,a3,a4,a5,arr,z,(hs.AO c (λds e=>by rw [a6] at e;cases e)).trans a6,a7⟩
theorem zg.P9 {n0 r:Nat} {o:Obj}:∀ {l:List Deferred},zg n0 w l->(∀ e∈l,e.target≠ .collected r)->zg n0 (w.putObj r o) l
 |[],_,_=>trivial
 |d::ds,⟨⟨r',h1,h2,h3,h4⟩,h⟩,hr=>by
  have hne:r'≠r:=λe=>hr d (by simp) (by rw [h1,e])
  exact ⟨⟨r',h1,h2,(World.putObj_heap_other hne).trans h3,h4⟩,h.P9 (λe he=>hr e (by simp [he]))⟩
theorem QL {F:Fence} {n n0:Nat} {fn:Func} {tmps:Array Value} {R:Ending->World->Prop}:∀ {l:List Deferred} {w:World},zg n0 w l->(∀ w',tj n0 w w'->∃ v,(results fn tmps).run P w'= .ok v w'/\R (.returned v) w')->
  LeavesInM F n P fn tmps R l .returning w
 |[],w,_,h=>h w (tj.Za n0 w)
 |d::ds,w,⟨⟨r,h1,h2,h3,h4⟩,hm⟩,h=>by
  refine ⟨by simp, .inl ⟨r,w.putObj r (.deferred none),by rw [h1],run_takeDeferred h3,?_⟩⟩;exact QL (hm.P9 h4) λw' hs=>h w' ((tj.Y9 h2 h3).Zb hs)
def uO (T:cN) (fn:Func) (K:ae->az->Nat->Prop) (e:Exit) (σ:az) (n:Nat):Prop:=
 match e with
 | .normal=>match mR σ T fn.results.toList with|some vs=>K (xL vs) σ n|none=>False
 | .ret=>match mR σ T fn.results.toList with|some vs=>K (xL vs) σ n|none=>False
 |_=>False
theorem bz.xG (hT:dA P T) {f:FuncId} {fn:Func} {c:Code} (hf:P.funcs[f]? =some fn) (hb:fn.body=some c) (hn:(fn.name== "runtime.NumGoroutine")=false) {args:List ae} {σ:az} {n:Nat} {K:ae->az->Nat->Prop} (hl:Nat.ble args.length fn.ntmps=true) (hro:lE fn.ntmps fn.results.toList=true)
  (h:db P none fn.ntmps n c (zn σ args) n (uO T fn K)):bz P f args σ n K:=by
 refine ⟨lC hf hb hn,λb g w vals hs hvl hv=>?_⟩;have hle:args.length<=fn.ntmps:=Nat.le_of_ble_eq_true hl;refine callsIn_wide.1 (callsIn_of_wp_marks (F:=Fence.wide) (n:=0) hf hb trivial ?_)
 let t:nU:=⟨g,w,n,(λid c hc=>hs.lu id c hc),(λid x hx=>hs.ki id x hx)⟩
 have hsim:nY b t fn.ntmps (zn σ args) n {tmps:=vals.toArray++Array.replicate (fn.ntmps - vals.toArray.size) undef,defers:=[]} w:=by
  refine ⟨g,hs.sZ (λ_=>rfl) (λ_=>rfl),⟨by simp;omega,trivial,λi hi=>?_⟩,dp.qg _ _,Nat.le_refl _⟩;unfold dV;simp only [zn,td];cases hx:args[i]? with
  |none=>exact .jV
  |some x=>
   have hi':i<vals.length:=by have:=(List.getElem?_eq_some_iff.1 hx).1;omega
   have:(vals.toArray++Array.replicate (fn.ntmps - vals.toArray.size) undef).getD i undef=vals[i]:=by
    simp [Array.getElem?_append,hi']
   simp only;rw [this];exact hv i x _ hx (List.getElem?_eq_getElem hi')
 refine wpIn_mono (h.jG b t _ w (Nat.le_refl n) hsim) ?_;rintro e a' w' ⟨σ',n',hk,g',hs',hfs,hE,hn'⟩;have fin:∀ vs,mR σ' T fn.results.toList=some vs->K (xL vs) σ' n'->LeavesInM Fence.wide 0 P fn a'.tmps (λe w'=>∃ v x σ' n' g',e= .returned v/\K x σ' n'/\n<=n'/\aF w' g' x v/\bh b σ' (·<n') g' w'/\dp g w g' w') a'.defers .returning w':=by
  intro vs hvs hfin;refine QL hfs.nW λw'' hsh=>?_
  have hB:b.lr.heap.size<=w.heap.size:=hs.dU.kX;have hs':=hs'.Y0 hsh hB;have hf2:mg w.heap.size fn.ntmps σ' g' ⟨a'.tmps,[]⟩ w'':=⟨hfs.mN,trivial,λi hi=>(hfs.kI i hi).Hn (hsh.K3 g')⟩;obtain ⟨val,hrun,hrep⟩:=ZR hT hs' hf2 hro hvs;exact ⟨val,hrun,val,xL vs,σ',n',g',rfl,hfin,hn',hrep,hs',hE.YY hsh⟩
 cases e with
 |normal=>
  simp only [uO] at hk;cases hvs:mR σ' T fn.results.toList with
  |none=>simp only [hvs] at hk
  |some vs=>
   simp only [hvs] at hk;exact fin vs hvs hk
 |ret=>
  simp only [uO] at hk;cases hvs:mR σ' T fn.results.toList with
  |none=>simp only [hvs] at hk
  |some vs=>
   simp only [hvs] at hk;exact fin vs hvs hk
 |_=>exact hk.elim
theorem bz.E4 {f:FuncId} {args:List ae} {σ0:az} {n0:Nat} {K:ae->az->Nat->Prop} (h:bz P f args σ0 n0 K) (w:World) (F:Nat->Nat->Prop) (hG:mb P w) (hF:∀ k o,F k o->k<w.heap.size) {g:cf} (hs:bh (ek.xk w F hG hF) σ0 (·<n0) g w)
  {vals:List Value} (hvl:vals.length=args.length) (hv:∀ (i:Nat) (x:ae) (v:Value),args[i]? =some x->vals[i]? =some v->aF w g x v):
  Calls P f vals.toArray w λe w'=>∃ v x σ' n' g',e= .returned v/\K x σ' n'/\aF w' g' x v/\bh (ek.xk w F hG hF) σ' (·<n') g' w'/\(Below w.heap.size w w'/\w.drawn<=w'.drawn)/\(∀ k o,F k o->g'.bJ k o)/\(∀ k o,g'.bJ k o->F k o\/(w.heap.size<=k/\k<w'.heap.size)):=
 (h.q8 _ g w vals hs hvl hv).mono λ_ w' ⟨v,x,σ',n',g',he,hk,_,hrep,hs',hE⟩=>⟨v,x,σ',n',g',he,hk,hrep,hs',⟨hs'.dU.Kw (λ_ h=>h),hE.uC⟩,λk o hk=>hs'.kY k o hk,λk o hk=>by
  rcases Nat.lt_or_ge k w.heap.size with h1|h1
  ·exact .inl (hs'.kh k o hk h1 (λh=>h))
  ·exact .inr ⟨h1,hs'.fU k o hk⟩⟩
theorem bh.H5 (w:World) (F:Nat->Nat->Prop) (hG:mb P w) (hF:∀ k o,F k o->k<w.heap.size):bh (P:=P) (ek.xk w F hG hF) (λ_=> .bq) (·<0) ⟨F,λ_=> .none,λ_=> .none⟩ w:=
 (bh.P8 w F hG hF []).sZ (λ_=>rfl) (λ_=>rfl)
theorem zm.Lk {R:ae->ae->Prop} (hR:∀ x y,R x y->iL x y) {w:World} {F:Nat->Nat->Prop} {hG:mb P w} {hF:∀ k o,F k o->k<w.heap.size} {σ':az} {D:Nat->Prop} {g':cf} {w':World} (hs:bh (ek.xk w F hG hF) σ' D g' w') {x res:ae} {v:Value} (hfin:zm R σ' x res) (hrep:aF w' g' x v):
  cb w' (λk o=>g'.bJ k o\/(w.heap.size<=k/\k<w'.heap.size)) res v:=by
 unfold zm at hfin;cases hp:AU x with
 |true=>
  simp only [hp] at hfin;have hfin:=ZN.1 hfin;exact (hR _ _ hfin).pH _ _ _ ((CZ hp hrep).eO λk o hk=>⟨.inl hk,rfl⟩)
 |false=>
  simp only [hp] at hfin;exact hfin.YZ hs (λk o hk=> .inl hk) (λid c hc hl o=>by
   obtain ⟨c',h1,h2,h3,_⟩:=hs.dq id hl;rw [hc] at h1;cases h1;exact .inr ⟨h2.resolve_right (λh=>h),h3⟩) hrep
theorem QG (args:List ae):n5 args=zn (λ_=> .bq) args:=by funext l;cases l<;>rfl
theorem QY (R:ae->ae->Prop) (T:cN) (fn:Func) (res:ae):xN R T fn res=uO T fn (λv σ _=>zm R σ v res):=by funext e _ _;cases e<;>rfl
theorem aC.Qf {R:ae->ae->Prop} (hR:∀ x y,R x y->iL x y) (hT:dA P T) {f:FuncId} {fn:Func} {c:Code} (hf:P.funcs[f]? =some fn) (hb:fn.body=some c) (hn:(fn.name== "runtime.NumGoroutine")=false) {args:List ae} {res:ae} (hl:Nat.ble args.length fn.ntmps=true) (hro:lE fn.ntmps fn.results.toList=true)
  (h:db P none fn.ntmps 0 c (n5 args) 0 (xN R T fn res)):aC P f args res:=by
 rw [QG,QY] at h;refine ⟨lC hf hb hn,λw F vals hG hF hvl hv=>(bz.E4 (bz.xG hT hf hb hn hl hro h) w F hG hF (bh.H5 w F hG hF) hvl λi x v hx hy=> .bC (hv i x v hx hy)).mono ?_⟩;rintro _ w' ⟨v,x,σ',n',g',he,hk,hrep,hs,hb,h0,h1⟩;exact ⟨v,_,he,hb,λk o hk=> .inl (h0 k o hk),λk o hk=>hk.elim (h1 k o) .inr,zm.Lk hR hs hk hrep⟩
theorem aC.Qe {R:ae->ae->Prop} (hR:∀ x y,R x y->iL x y) (hT:dA P T) (hm:P.follows .mixedOrders=true) {f:FuncId} {fn:Func} {c:Code} (hf:P.funcs[f]? =some fn) (hb:fn.body=some c) (hn:(fn.name== "runtime.NumGoroutine")=false) {args:List ae} {res:ae} (hl:Nat.ble args.length fn.ntmps=true) (hro:lE fn.ntmps fn.results.toList=true)
  (h:oR P T none fn.ntmps 0 c (n5 args) 0 (xN R T fn res)):aC P f args res:=aC.Qf hR hT hf hb hn hl hro (se hT hm _ _ _ _ h)
theorem aC.Qd (hT:dA P T) (hm:P.follows .mixedOrders=true) {f:FuncId} {fn:Func} {c:Code} (hf:P.funcs[f]? =some fn) (hb:fn.body=some c) (hn:(fn.name== "runtime.NumGoroutine")=false) {args:List ae} {res:ae} (hl:Nat.ble args.length fn.ntmps=true) (hro:lE fn.ntmps fn.results.toList=true)
  (h:oR P T none fn.ntmps 0 c (n5 args) 0 (xN Eq T fn res)):aC P f args res:=
 aC.Qe (λ_ _ h=>iL.mj h) hT hm hf hb hn hl hro h
theorem aC.CL (hT:dA P T) (hm:P.follows .mixedOrders=true) {f:FuncId} {fn:Func} {c:Code} (hf:P.funcs[f]? =some fn) (hb:fn.body=some c) (hn:(fn.name== "runtime.NumGoroutine")=false) {args:List ae} {res:ae} (hl:Nat.ble args.length fn.ntmps=true) (hro:lE fn.ntmps fn.results.toList=true)
  (h:oR P T none fn.ntmps 0 c (n5 args) 0 (xN iL T fn res)):aC P f args res:=
 aC.Qe (λ_ _ h=>h) hT hm hf hb hn hl hro h
end
def Lj:ae->ae->Bool
 | .aa j a, .aa k b=>r7 j k && (a==b)
 | .bN, .bN=>true
 | .bo, .bo=>true
 | .ai a, .ai b=>a==b
 | .bU, .bU=>true
 | .ag true 1 [] .bR, .ag true 1 [] .bR=>true
 | .cA, .cA=>true
 | .cq, .cq=>true
 | .bV, .bV=>true
 |_,_=>false
theorem ZC {x y:ae} (h:Lj x y=true):x=y:=by
 unfold Lj at h;grind [Hz]
def Il:List ae->List ae->Bool
 |[],[]=>true
 |x::l,y::m=>Lj x y && Il l m
 |_,_=>false
theorem Qz:∀ {l m:List ae},Il l m=true->l=m
 |[],[],_=>rfl
 |x::l,y::m,h=>by
  simp only [Il,Bool.and_eq_true] at h;rw [ZC h.1,Qz h.2]
 |[],_::_,h=>by cases h
 |_::_,[],h=>by cases h
def lz.Qm (P:Program) (t:TypeId) (ti:y8):Bool:=
 match ti,P.underlying t with
 | .eP k,some (.int j)=>r7 j k
 | .ij,some .bool=>true
 | .fF,some .string=>true
 | .dK e,some (.slice e')=>e'==e
 | .e7 n e,some (.array n' e')=>n'==n && e'==e
 | .bO fs,some (.struct fields)=>fields.toList.map (λf=>(f.offset,f.type))==fs && (fields.toList.mapM (λf=>(P.info? f.type).map λi=>(f.offset,i.size))).isSome
 | .e8 e,some (.pointer e')=>e'==e
 | .fB,some (.interface _)=>true
 | .il,some (.func _ _ _)=>true
 | .gE,some (.map _ _)=>true
 |_,_=>false
def lz.K9 (P:Program) (t:TypeId) (r:lz):Bool:=
 lz.Qm P t r.Pu && match P.info? t with
  |some i=>i.size==r.aO && i.bytes==r.xx && match i.zero with
   |some z=>Il (z.cells.toList.map Hu) r.jX && z.cells.size==r.aO
   |none=>false
  |none=>false
theorem lz.Zi {P:Program} {t:TypeId} {r:lz} (h:lz.K9 P t r=true):r.Pt P t:=by
 simp only [lz.K9,Bool.and_eq_true] at h;obtain ⟨h1,h2⟩:=h;refine ⟨?_,?_⟩
 ·unfold lz.Qm at h1;grind [Hz,Option.isSome_iff_exists]
 ·cases hi:P.info? t with
  |none=>simp [hi] at h2
  |some i=>
   simp only [hi,Bool.and_eq_true,beq_iff_eq] at h2;obtain ⟨⟨h2,h3⟩,h4⟩:=h2;cases hz:i.zero with
   |none=>simp [hz] at h4
   |some z=>
    simp only [hz,Bool.and_eq_true,beq_iff_eq] at h4;refine ⟨i,z,rfl,h2,h3,hz,Qz h4.1,h4.2,?_⟩;cases z<;>first|(exact .inl rfl)|simp_all
def Lz (P:Program):cN->Bool
 |[]=>true
 |(t,r)::l=>lz.K9 P t r && Lz P l
theorem dA.Ql {P:Program}:∀ {T:cN},Lz P T=true->dA P T
 |[],_,t,r,h=>by cases h
 |(k,r')::l,hb,t,r,h=>by
  simp only [Lz,Bool.and_eq_true] at hb;simp only [cP] at h;cases hk:Nat.beq k t with
  |true=>
   grind [Nat.eq_of_beq_eq_true,lz.Zi]
  |false=>
   simp only [hk] at h;exact dA.Ql hb.2 t r h
theorem bj {x:Int} (h1:-9223372036854775808<=x) (h2:x<=9223372036854775807):IntKind.i64.wrap x=x:=by rw [IntKind.wrap_i64];omega
theorem Z3 (a b:Nat):((a:Int)).tmod (b:Int)=((a % b:Nat):Int):=by
 trivial
theorem LA {a b:Int} (h:0<=a):a.tdiv b=a / b:=Int.tdiv_eq_ediv_of_nonneg h
theorem Q5 {a b:Int} (h:0<=a):a.tmod b=a % b:=Int.tmod_eq_emod_of_nonneg h
section
theorem Ih (a b:List UInt8):cW (a++b)=cW a++cW b:=List.map_append
theorem Ij (a:List UInt8) (n:Nat):cW (a.take n)=(cW a).take n:=List.map_take
theorem Ii (a:List UInt8) (n:Nat):cW (a.drop n)=(cW a).drop n:=List.map_drop
theorem Lu (n:Nat):eB n [ae.aa .u8 0]=cW (List.replicate n 0):=by
 unfold eB cW;simp_all
theorem Zz (s:List UInt8):0+s.length<=(cW s).length/\((cW s).drop 0).take s.length=cW s:=by
 grind [nj]
theorem Ig {s:List UInt8} {n:Nat} (h:n=s.length):0+n<=(cW s).length/\((cW s).drop 0).take n=cW s:=by
 grind [Zz]
theorem dG {n b:Nat} (h1:n<=4294967296) (h2:b<=4096):pD n b:=by
 unfold pD;have:n*b<=4294967296*4096:=Nat.mul_le_mul h1 h2;omega
variable {P:Program}
theorem mO.Qk:∀ {l m:List ae},mO l m->∀ (i:Nat) (y:ae),m[i]? =some y->∃ x,l[i]? =some x/\iL x y
 |_,_, .fa,i,y,h=>by simp at h
 |_,_, .aX h _,0,y,hy=>by simp_all
 |_,_, .aX _ h,i+1,y,hy=>by obtain ⟨x,h1,h2⟩:=h.Qk i y (by simpa using hy);simp_all
theorem aC.Qc {f:FuncId} {args args':List ae} {res:ae} (h:aC P f args res) (hs:mO args' args):aC P f args' res:=
 ⟨h.KZ,λw F vals h0 h1 h2 h3=>h.H7 w F vals h0 h1 (h2.trans hs.v7) λi y v hy hv=>by
  obtain ⟨x,hx,hxy⟩:=hs.Qk i y hy;exact hxy.pH _ _ _ (h3 i x v hx hv)⟩
theorem db.zd {σ:az} {r:Option Nat} {nt lo n:Nat} {c:Code} {K:Exit->az->Nat->Prop} (t:Nat) (e:TypeId) (sz':Nat) {isNil:Bool} {sz:Nat} {els:List (List ae)} (hs:σ (.aj t)= .ah (.ag isNil sz els .bR)) (ht:Nat.blt t nt=true) (hz:sz'=sz\/els=[])
  (h:db P r nt lo c (aU (aU σ (.aJ n) (.aN e sz' els.length)) (.aj t) (.ah (.ag isNil sz' els (.dB n)))) (n+1) K):db P r nt lo c σ n K:=by
 refine ⟨λb tp a w h0 hsim=>?_⟩;obtain ⟨g,hh,hf,hE,hn⟩:=hsim;obtain ⟨h1,h2⟩:=hh.Cf (t:=e) (sz:=sz') (N:=els.length) hh.nX.2;have h3:bh b (aU (aU σ (.aJ n) (.aN e sz' els.length)) (.aj t) (.ah (.ag isNil sz' els (.dB n)))) (·<n+1) (g.lP n els.length) w:=
  (h1.sZ (λid=>cL (by intro e;cases e)) (λid=>cL (by intro e;cases e))).iU (λi hi=>by omega)
 refine h.jG b tp a w h0 ⟨_,h3,⟨hf.mN,hf.nW,λi hi=>?_⟩,hE.gD h2,om⟩;have hr:=hf.kI i hi
 by_cases hit:i=t
 ·subst hit;have e1:dV σ i= .ag isNil sz els .bR:=by grind [dV]
  rw [e1] at hr;rw [C3];obtain ⟨ad,c',ev,hp,htok⟩:=(hr.kG h2).jj;rw [ev];have hp':cb w (g.lP n els.length).bJ (.ag isNil sz' els .av) (.slice ad els.length c'):=by
   rcases hz with rfl|rfl
   ·exact hp
   ·exact (iL.eR _ _ _).pH _ _ _ hp
  refine .jc hp' ?_;exact ⟨none,els.length,by simp [cf.lP],Nat.le_refl _,λ_=> .inl htok⟩
 ·rw [wg (by grind)];have e2:dV (aU σ (.aJ n) (.aN e sz' els.length)) i=dV σ i:=by trivial
  rw [e2];exact hr.kG h2
end
section
variable {P:Program}
def C5:ae->Option Value
 | .aa k n=>some (.int k n)
 | .ai s=>some (.string ⟨s.toArray⟩)
 | .aE b=>some (.bool b)
 | .bN=>some (.bool true)
 | .bo=>some (.bool false)
 |_=>none
theorem LB {w:World} {F:Nat->Nat->Prop} {x:ae} {v u:Value} (h:cb w F x v) (hu:C5 x=some u):v=u:=by
 cases h<;>simp only [C5,Option.some.injEq,reduceCtorEq] at hu<;>try (subst hu;rfl)
 rename_i s b h;subst hu;congr 1;cases b with|mk d=>congr 1;grind
def tD:List ae->Option (List Value)
 |[]=>some []
 |x::l=>match C5 x,tD l with|some v,some m=>some (v::m)|_,_=>none
theorem Q7 {w:World} {F:Nat->Nat->Prop}:∀ {args:List ae} {us vals:List Value},tD args=some us->vals.length=args.length->(∀ (i:Nat) (x:ae) (v:Value),args[i]? =some x->vals[i]? =some v->cb w F x v)->vals=us
 |[],us,vals,h,hl,_=>by
  grind [tD]
 |x::l,us,[],h,hl,_=>by simp at hl
 |x::l,us,v::vals,h,hl,hv=>by
  simp only [tD] at h;cases h1:C5 x with
  |none=>simp [h1] at h
  |some u=>
   cases h2:tD l with
   |none=>simp [h1,h2] at h
   |some m=>
    simp only [h1,h2,Option.some.injEq] at h;subst h;rw [LB (hv 0 x v rfl rfl) h1,Q7 h2 (by simpa using hl) (λi=>hv (i+1))]
theorem aC.AN {f:FuncId} (hE:oP P f) {args:List ae} {us:List Value} {res:ae} {r:Value} (hu:tD args=some us) (hc:∀ w,mb P w->Calls P f us.toArray w λe w'=>e= .returned r/\(Below w.heap.size w w'/\w.drawn<=w'.drawn)) (hr:∀ w F,cb w F res r):aC P f args res:=
 ⟨hE,λw F vals hG _ hl hv=>by
  rw [Q7 hu hl hv];exact (hc w hG).mono λe w' ⟨h1,h2⟩=>⟨r,F,h1,h2,λ_ _ h=>h,λ_ _ h=> .inl h,hr _ _⟩⟩
theorem cb.Qh {w:World} {F:Nat->Nat->Prop} {xs:List ae} {vs:List Value} (hl:vs.length=xs.length) (h:∀ (i:Nat) (x:ae) (v:Value),xs[i]? =some x->vs[i]? =some v->cb w F x v):cb w F (.aw xs) (.tuple vs.toArray):= .rT hl h
theorem cb.H8 {w:World} {F:Nat->Nat->Prop} {a b:ae} {u v:Value} (h1:cb w F a u) (h2:cb w F b v):cb w F (.aw [a,b]) (.tuple #[u,v]):=
 .Qh (vs:=[u,v]) rfl λi x y hx hy=>by
  grind
theorem cb.H9 {w:World} {F:Nat->Nat->Prop} {a b c:ae} {u v x:Value} (h1:cb w F a u) (h2:cb w F b v) (h3:cb w F c x):cb w F (.aw [a,b,c]) (.tuple #[u,v,x]):=
 .Qh (vs:=[u,v,x]) rfl λi x y hx hy=>by
  grind
theorem cb.Y4 {w:World} {F:Nat->Nat->Prop} (s:List UInt8):cb w F (.ai s) (.string ⟨s.toArray⟩):= .gX rfl
end
section
variable {P:Program} {T:cN}
theorem bz.sc (hT:dA P T) (hm:P.follows .mixedOrders=true) {f:FuncId} {fn:Func} {c:Code} (hf:P.funcs[f]? =some fn) (hb:fn.body=some c) (hn:(fn.name== "runtime.NumGoroutine")=false) {args:List ae} {σ:az} {n:Nat} {K:ae->az->Nat->Prop} (hl:Nat.ble args.length fn.ntmps=true) (hro:lE fn.ntmps fn.results.toList=true)
  (h:oR P T none fn.ntmps n c (zn σ args) n (uO T fn K)):bz P f args σ n K:=bz.xG hT hf hb hn hl hro (se hT hm _ _ _ _ h)
end
end Go.Am
