import Derived.Test.YtffboamedcmpaaaGreatDoorAv
set_option linter.all false
set_option maxHeartbeats 4000000
set_option maxRecDepth 100000
namespace Gw
structure wj (l l':List eF):Prop where
 acQ:∀ ns id,jR l ns=(id,0)->jR l' ns=(id,0)
 ap1:∀ ns ms d e,jR l' ns=(d,0)->jR l ms=(e,0)->lc l' d e->jR l ns=(d,0)/\lc l d e
 ap2:∀ h s n,iB l h s=some n->∃ n',iB l' h s=some n'/\n'.eM=n.eM
theorem wj.ap4 (l):wj l l:=⟨λ_ _ h=>h,λ_ _ _ _ h _ k=>⟨h,k⟩,λ_ _ n h=>⟨n,h,rfl⟩⟩
theorem acV {l}:∀ (a:List (List UInt8)) (r:Int) {k:Int},jz l r a=(k,0)->k=r\/∃ n∈l,n.eM=k
 |[],r,k,h=>by
  have h:(r,(0:Int))=(k,0):=h;simp_all
 |s::a,r,k,h=>by
  rw [jz] at h;split at h
  .cases c:iB l r s with
   |none=>simp_all
   |some n=>
    rw [c] at h;rcases acV a n.eM h with rfl|q
    .exact .inr ⟨n,(wX c).1,rfl⟩
    .exact .inr q
  .cases h
theorem aqb {l} (c:gU l=true) {o} (m:lH l o=true) (b:o.iT≠1):wj l (iF l o):=by
 have f:∀ a,jR (iF l o) a=jR l a:=λa=>acw c m b a 0
 refine ⟨λa i h=>by rw [f];exact h,λa g d e h _ k=>⟨by rw [<-f];exact h,apz c m b k⟩,λh s n e=>?_⟩;grind [acs,KL]
theorem ap7 {l} (c:gU l=true) {o} (h:A0 l o):wj l (iF l o):=by
 have f:∀ {m e},jR l m=(e,0)->e≠o.eO:=fun {m e} q k=>by
  rcases acV m 0 q with a|⟨n,v,a⟩
  .have:=(JC h.KJ).2.2;rw [<-k,a] at this;exact absurd this (by decide)
  .exact h.N5 n v (a.trans k)
 have i:∀ {b},¬lc l o.eO b:=fun {b} q=>by
  induction q with
  |uL u=>
   obtain ⟨n,r,t,_⟩:=u;exact h.Tb n (tg r).1 t
  |tW _ _ w=>exact w
 refine ⟨λj z q=>acu c h j 0 q,λj m d e x a y=>?_,λg s n e=>⟨n,acr c h e,rfl⟩⟩;have p:=(apy c h y).resolve_right (f a);rcases acv c h j 0 x with q|q
 .exact ⟨q,p⟩
 simp_all
theorem wj.ap3 {l a} (g:wj l a) {p d} (h:A4 l p d):A4 a p d:=by
 obtain ⟨s,r,b,c,e⟩:=h;exact ⟨s,r,b,g.acQ _ _ c,e⟩
theorem wj.acS {l a} (g:wj l a) {c d} (h:vp l c d):vp a c d:=by
 rw [Ik] at*;obtain ⟨p,b,q⟩:=h;exact ⟨p,b,g.ap3 q⟩
theorem wj.acR {l a} (g:wj l a) {c d e} (h:vp a c d) (b:vp l c e) (k:lc a d e):vp l c d/\lc l d e:=by
 rw [Ik] at h b;obtain ⟨p,n,s,r,f,i,j⟩:=h;obtain ⟨_,_,u,t,_,m,_⟩:=b;obtain ⟨q,o⟩:=g.ap1 _ _ _ _ i m k;exact ⟨Ik.2 ⟨p,n,s,r,f,q,j⟩,o⟩
theorem wj.acT {l a:List eF} (g:wj l a) (t:ft) (n:List (List UInt8)):oS a t n<=oS l t n:=by
 unfold oS
 by_cases h:t.fA.al=[]\/jR l (n.take t.jA.toNat)=(wh t,0)
 .rw [ak h,ak (h.imp id (g.acQ _ _))];exact aq _
 grind
theorem wj.ap5 {D:Prop} {l j} (g:wj l j) {t} (h:sT D l t):sT D j t:=
 ⟨h.Ft,λa s y=>(h.Ig a s y).imp (λq=>by have:=g.acT t s.al;omega) id,h.Fs,h.N6,λa c y=>(h.Ct a c y).imp id λ⟨p,i⟩=>⟨p,λe f n=>
  ⟨g.acS (i e f n).1,λd b o=>by
   obtain ⟨k,m⟩:=g.acR b (i e f n).1 o;grind⟩⟩,h.A2⟩
theorem wj.ap6 {l i} (g:wj l i) {t k} (m:k∉t.fA.al) (h:uM l t k):uM i t k:=
 ⟨h.uN,h.zJ,λc y=>(h.Fu c y).imp id λ⟨q,a,b⟩=>by
  have f:k≠1:=λe=>m (e▸q)
  exact ⟨q,(g.acS ⟨a,f⟩).1,λd j o=>by
   obtain ⟨p,r⟩:=g.acR j ⟨a,f⟩ o;exact b d p r⟩,λu y=>(h.Fv u y).imp id λ⟨z,n,q,a,b,v,w,x⟩=>by
  obtain ⟨s,A,B⟩:=g.ap2 _ _ _ v;simp_all⟩
theorem aqa {l c t K a w b} (h:(a=K/\wj l c)\/a+1=K):nB c a w b t<=nB l K w b t:=by
 unfold nB;split
 .exact aq _
 split
 .exact aq _
 split
 .exact aq _
 .exact aq _
 .rename_i n _;have:a+oS c t n.al<=K+oS l t n.al:=by
   rcases h with ⟨rfl,g⟩|h
   .have:=g.acT t n.al;omega
   .have:=Ti (l:=c) (t:=t) n.al;omega
  have:=cz (2*n.al.length+4) this;omega
theorem ap9 {l f} (p:gU l=true) (g:gU f=true) {h} (s) (e:∀ n,na n h=true->(n∈f↔n∈l)):iB f h s=iB l h s:=by
 have k:∀ {a b:List eF},(∀ n,na n h=true->(n∈a↔n∈b))->∀ n,zH a h s n->zH b h s n:=λq n ⟨c,d,j,o⟩=>
  ⟨(q n d).1 c,d,j,λm r i t=>o m ((q m i).2 r) i t⟩
 cases c:iB l h s with
 |some n=>grind [DE,DF]
 |none=>
  cases d:iB f h s with
  |none=>rfl
  |some n=>
   grind [DE,DF]
theorem ap8 {l} (c:gU l=true) {o} (g:lH l o=true) (k:o.iT=1) {a h} (u:mE l o.eO a) (f:h≠a) (hp:h≠o.iW) (s):iB (iF l o) h s=iB l h s:=by
 refine ap9 c (C7 c o) s λn i=>?_
 have p:=(xq.1 i).1;obtain ⟨m,b,d,_⟩:=u;grind [Cr,mj,tf]
theorem acW {l}:∀ {n:Nat} {t:ft} {f:ft->ft},l[n]? =some t->t.g8=false->(f t).g8=true->mO (f t)=mO t->mb (l.modify n f)+(if mO t=true then 1 else 0)=mb l:=by
 unfold mb
 induction l with
 |nil=>simp_all
 |cons a l i=>
  grind
theorem Tp {t c} (h:jd t.fx= .nf c):mO t=true:=by unfold mO;rw [h]
theorem Tq {c} (h:c.gD=5\/c.gD=6\/c.gD=13):jd c= .nf c:=by
 grind [jd]
theorem Of {D:Prop} {l m:List eF} {t a:ft} {K b:Nat} (h:sT D l t) (e:t.gS=false) (d:t.g8=false) (j:t.fA.al.Nodup) (w:∀ n,jd t.fx= .ml n->∃ h,t.fA.al=[h]) (f:a.gS=false) (g:a.g8=true) (i:a.fA.al=t.fA.al):nB m b false false a<nB l K false false t:=by
 rw [yt f g,i];cases y:jd t.fx with
 |pR=>
  rw [acE e d y,h.N6 d y]
  decide
 |nf c=>
  grind [N8,acJ]
 |ml n=>
  rw [yu e d y];obtain ⟨z,k⟩:=w n y;rw [k];have:1<=r7 t n.al.length:=by grind [r7]
  simp;omega
theorem acU {T:Nat} {x:fb} (h:j9 x) (hM:kM T x.ep) {who:Nat} {t:ft} (u:x.bf.al[who]? =some t) (he:t.gS=false) (hd:t.g8=false) (S:m6 x.fg who=false) (hg:mo x.fm who=false) (p:xu x.ep.cy.ec.al t.fx (gA x.ep t.fx).1.cy.ec.al) (Z:¬(t.fx.gD=13/\(gA x.ep t.fx).2.1.qc=0))
  (hT:∀ c,jd t.fx= .nf c->1∈t.fA.al/\∀ d,vp x.ep.cy.ec.al c d->d∈t.fA.al) (hw:∀ ns,jd t.fx= .ml ns->∃ h,t.fA.al=[h]):
  j9 (od x who ⟨3,0⟩)/\(od x who ⟨3,0⟩).bf.al.length=x.bf.al.length/\nC (od x who ⟨3,0⟩)<nC x:=by
 have hlt:=(aB.1 u).1;have R:mW x who=t.fx:=by grind [mW]
 have hc:=hM.lq.qK.zc;have hnd:t.fA.al.Nodup:=by have:=h.pY.we who;grind [qo]
 unfold od;rw [R];generalize gA x.ep t.fx=r at*;obtain ⟨m,a,y⟩:=r;simp only at p Z ⊢;rw [ai Z];simp only [kA,iC,zL];generalize I:m.cy.ec.al=P at p;obtain ⟨f1,N,f3,f4⟩:(gl {t with gu:=a,kf:=x.eZ,j8:=(x.eL.gj y.al).al.length} ⟨3,0⟩).gS=false/\(gl {t with gu:=a,kf:=x.eZ,j8:=(x.eL.gj y.al).al.length} ⟨3,0⟩).g8=true/\(gl {t with gu:=a,kf:=x.eZ,j8:=(x.eL.gj y.al).al.length} ⟨3,0⟩).fx=t.fx/\(gl {t with gu:=a,kf:=x.eZ,j8:=(x.eL.gj y.al).al.length} ⟨3,0⟩).fA=t.fA:=by
  grind [gl]
 have i:∀ n,((x.bf.al.modify who λt=>{t with gu:=a,kf:=x.eZ,j8:=(x.eL.gj y.al).al.length}).modify who λt=>gl t ⟨3,0⟩)[n]? =if n=who then some (gl {t with gu:=a,kf:=x.eZ,j8:=(x.eL.gj y.al).al.length} ⟨3,0⟩) else x.bf.al[n]?:=λn=>by
  grind
 have hK:mb ((x.bf.al.modify who λt=>{t with gu:=a,kf:=x.eZ,j8:=(x.eL.gj y.al).al.length}).modify who λt=>gl t ⟨3,0⟩)+(if mO t=true then 1 else 0)=mb x.bf.al:=by
  have e1:=Fw (f:=λt=>{t with gu:=a,kf:=x.eZ,j8:=(x.eL.gj y.al).al.length}) (l:=x.bf.al) (λt=>⟨rfl,rfl⟩) who;rw [<-e1];exact acW (t:={t with gu:=a,kf:=x.eZ,j8:=(x.eL.gj y.al).al.length}) (DI u _) hd N (by grind [mO])
 have hH:mA ((x.bf.al.modify who λt=>{t with gu:=a,kf:=x.eZ,j8:=(x.eL.gj y.al).al.length}).modify who λt=>gl t ⟨3,0⟩)=mA x.bf.al:=by
  rw [DH (DI u _),DH u,f4];grind [oD,qo]
 generalize ((x.bf.al.modify who λt=>{t with gu:=a,kf:=x.eZ,j8:=(x.eL.gj y.al).al.length}).modify who λt=>gl t ⟨3,0⟩)=H at*;generalize gl {t with gu:=a,kf:=x.eZ,j8:=(x.eL.gj y.al).al.length} ⟨3,0⟩=t' at*;have O:H.length=x.bf.al.length:=by
  apply Nat.le_antisymm
  .rcases bu x.bf.al.length H.length with q|q
   .have U:=i x.bf.al.length;simp_all
   .exact q
  .rcases bu H.length x.bf.al.length with q|q
   .have U:=i H.length;grind
   .exact q
 have hT':(H[who]?:Option ft)=some t':=by rw [i,ak rfl]
 have hdn:tX x.bf.al->tX H:=by
  rintro ⟨m,s,j,F,L⟩;refine ⟨m,s,?_,F,L⟩;grind
 have hdT:mO t=true->tX H:=λq=>⟨who,t',hT',by grind [mO],N⟩
 have E:(∀ (n:Nat) s,n≠who->x.bf.al[n]? =some s->sT (tX H) P s/\∀ k,uM x.ep.cy.ec.al s k->k∉s.fA.al->uM P s k)/\((mO t=false/\wj x.ep.cy.ec.al P)\/mO t=true):=by
  have W:wj x.ep.cy.ec.al P->∀ (n:Nat) s,n≠who->x.bf.al[n]? =some s->sT (tX H) P s/\∀ k,uM x.ep.cy.ec.al s k->k∉s.fA.al->uM P s k:=λg n s _ B=>⟨(g.ap5 (h.pn n s B)).KN hdn,λk w Z=>g.ap6 Z w⟩
  have D:∀ g:wj x.ep.cy.ec.al P,_/\((mO t=false/\wj x.ep.cy.ec.al P)\/mO t=true):=λg=>⟨W g,by
   simp_all⟩
  cases p with
  |A3=>exact D (wj.ap4 _)
  |acM o k m ok=>grind [aqb]
  |acL o k b=>exact D (ap7 hc b)
  |Tn o k m ok aa bb up ha X=>
   have hy:=Tq (c:=t.fx) (by omega);obtain ⟨s1,s2⟩:=hT _ hy;refine ⟨λn s J B=>?_, .inr (Tp hy)⟩;have A:=h.pn n s B;have K:∀ d,d∈s.fA.al->d∉t.fA.al:=λd j F=>J (by
    have:=h.pY.Cs (k:=d) (n:=n) (m:=who) (by grind [qo]) (by grind [qo]);omega)
   refine ⟨⟨A.Ft,λ_ _ _=> .inr (hdT (Tp hy)),A.Fs,A.N6,λq c Q=> .inl ?_,A.A2⟩,λk w Z=>⟨w.uN,w.zJ,λc Q=> .inl ?_,λns hns=>?_⟩⟩
   .rcases A.Ct q c Q with q|⟨q,_⟩
    .exact q
    simp_all
   .rcases w.Fu c Q with q|⟨q,_⟩
    .exact q
    simp_all
   .rcases w.Fv ns hns with q|⟨z,nd,j,F,L,q4,q5,q6⟩
    .exact .inl q
    .refine .inr ⟨z,nd,j,F,L,?_,q5,q6⟩;have hz:z∈s.fA.al:=by rw [j];simp
     have hwz:xt z:=by
      rcases A.A2 w.uN ns hns with ⟨q,_⟩|⟨z',q,_,_,r⟩|⟨z',z'',q,_⟩
      .simp_all
      .simp_all
      simp_all
     rw [ap8 hc m ok up (λe=>K z hz (by simp_all)) ?_]
     .exact q4
     .intro e;rcases X with X|X
      .exact hwz.2 (e.trans X)
      simp_all
 have hwn:∀ v∈x.fg.fH.al,v.ig≠who:=Ij S;refine ⟨⟨by show oC x.fg (mA H);rw [hH];exact h.pY,λv hv=>?_,λn s B=>?_,λg Y=>?_⟩,O,zK O (λn J=>?_) ⟨who,hlt,?_⟩⟩
 .obtain ⟨n,s,j,F,L⟩:=h.wg v hv;have J:n≠who:=λq=>hwn v hv (by rw [j,q])
  refine ⟨n,s,j,by simp_all,?_⟩;show uM m.cy.ec.al s v.gf;rw [I];obtain ⟨mm,r1,r2⟩:=h.pY.A1 v hv;exact (E.1 n s J F).2 _ L λq=>r1 (by rw [j];exact h.pY.Cs r2 (by grind [qo]))
 .have B:H[n]? =some s:=B;show sT (tX H) m.cy.ec.al s;rw [I];rw [i] at B;split at B
  .cases B;exact ⟨by rw [f4];exact (h.pn who t u).Ft,λq=>(by simp_all),λq=>(by simp_all),λq=>(by simp_all),λq=>(by simp_all),λq=>(by simp_all)⟩
  grind
 .obtain ⟨n,s,j,F,L,q4,q5,q6,q7⟩:=h.vo g Y;have J:n≠who:=λq=>KO hg g Y (by rw [j,q])
  refine ⟨n,s,j,by simp_all,L,q4,q5,q6,?_⟩;show g.pz<=((x.eL.gj y.al).al.length:Nat);have:(x.eL.gj y.al).al=x.eL.al++y.al:=rfl;grind
 .show (match H[n]? with|some s=>nB m.cy.ec.al (mb H) _ _ s|none=>0)<=_;unfold mF;rw [i,I]
  by_cases q:n=who
  .subst q;rw [ak rfl,u,S,hg];exact cU (Of (h.pn n t u) he hd hnd hw f1 N (by rw [f4]))
  .rw [ai q];cases B:x.bf.al[n]? with
   |none=>exact aq _
   |some s=>
    refine aqa ?_;grind
 .show (match H[who]? with|some s=>nB m.cy.ec.al (mb H) _ _ s|none=>0)<_;unfold mF;rw [i,I,ak rfl,u,S,hg];exact Of (h.pn who t u) he hd hnd hw f1 N (by rw [f4])
theorem acX {a b} (e:a.length=b.length) (h:∀ (n:Nat) s,a[n]? =some s->∃ t,b[n]? =some t/\mO s=mO t/\s.g8=t.g8):mb a=mb b:=by
 induction a generalizing b with
 |nil=>
  grind
 |cons s a i=>
  cases b with
  |nil=>simp at e
  |cons t b=>
   obtain ⟨j,c,d,f⟩:=h 0 s rfl;have c:t=j:=by simpa using c
   subst c;have:=i (b:=b) (by simpa using e) λn s g=>by simpa using h (n+1) s (by simpa using g)
   grind [mb]
theorem aqc {a b} (e:a.length=b.length) (h:∀ (n:Nat) s,a[n]? =some s->∃ t,b[n]? =some t/\s.fA.al=t.fA.al):mA a=mA b:=by
 grind [mA]
theorem KP {x y:fb} (h:j9 x) (p:y.ep=x.ep) (L:y.eL=x.eL) (u:y.fg=x.fg) (l:y.bf.al.length=x.bf.al.length)
  (b:∀ (n:Nat) s,y.bf.al[n]? =some s->∃ t,x.bf.al[n]? =some t/\(s=t\/(t.g8=true/\t.fA.al=[]/\s.gS=true/\s.g8=true/\s.fA=t.fA/\s.fx=t.fx)))
  (E:∀ (n:Nat) t,y.bf.al[n]? =some t->t.gS=false->mo x.fm n=true->mo y.fm n=true)
  (D:∀ g∈y.fm.iI.al,∃ (n:Nat) (t:ft),g.js=n/\y.bf.al[n]? =some t/\t.g8=true/\t.gS=false/\t.fA.al=[]/\t.fx.gD=12/\g.pz<=y.eL.al.length):
  j9 y/\∀ n,mF y n<=mF x n:=by
 have H:mA y.bf.al=mA x.bf.al:=aqc l λn s c=>by
  grind
 have K:mb y.bf.al=mb x.bf.al:=acX l λn s c=>by
  grind [mO]
 have B:tX x.bf.al->tX y.bf.al:=by
  rintro ⟨m,t,i,d,j⟩;have r:m<y.bf.al.length:=by grind
  have e:=aj r;refine ⟨m,_,e,?_⟩;grind [mO]
 refine ⟨⟨by grind [h.pY],λv w=>?_,λn s c=>?_,D⟩,λn=>?_⟩
 .rw [u] at w;obtain ⟨n,t,i,d,j⟩:=h.wg v w;have F:n<y.bf.al.length:=by grind
  grind [j.uN]
 .rw [p];obtain ⟨t,a,q|q⟩:=b n s c
  .subst q;exact (h.pn n s a).KN B
  .obtain ⟨i,d,j,k,A,N⟩:=q;exact ⟨by simp_all,λz=>(by simp_all),λ_=>⟨k,by rw [A];exact d⟩,λz=>(by simp_all),λz=>(by simp_all),λz=>(by simp_all)⟩
 .unfold mF;cases c:y.bf.al[n]? with
  |none=>exact ar _
  |some s=>
   simp only
   by_cases f:s.gS=true
   .grind [Ih]
   .have f:s.gS=false:=by simpa using f
    obtain ⟨t,a,q|q⟩:=b n s c
    .subst q;rw [a,p,K,u];have o:=E n s c f;unfold nB;grind
    simp_all
theorem aqd {x:fb} (h:j9 x) {who:Nat} {t:ft} (c:x.bf.al[who]? =some t) (k:t.gS=false) (d:t.g8=true) (p:t.fA.al=[]) (o:mo x.fm who=false):
  j9 (w5 x who ⟨5,0⟩)/\(w5 x who ⟨5,0⟩).bf.al.length=x.bf.al.length/\nC (w5 x who ⟨5,0⟩)<nC x:=by
 have e:=(aB.1 c).1;unfold w5;simp only [kA,iC,zL];have m:∀ n,((x.bf.al.modify who λt=>gl t ⟨5,0⟩).modify who λt=>{t with nu:=x.eZ})[n]? =if n=who then some {t with gS:=true,nu:=x.eZ} else x.bf.al[n]?:=λn=>by
  by_cases q:n=who
  .subst q;rw [ak rfl,DI (DI c _)];rfl
  grind
 have l:((x.bf.al.modify who λt=>gl t ⟨5,0⟩).modify who λt=>{t with nu:=x.eZ}).length=x.bf.al.length:=by rw [cd,cd]
 obtain ⟨i,j⟩:=KP (y:={x with bf:=⟨x.bf.ie,(x.bf.al.modify who λt=>gl t ⟨5,0⟩).modify who λt=>{t with nu:=x.eZ}⟩}) h rfl rfl rfl l (λn s b=>by
   grind) (λ_ _ _ _ q=>q) (λg a=>by
   obtain ⟨n,s,f,u,r⟩:=h.vo g a;grind [KO])
 refine ⟨i,l,zK l (λn _=>j n) ⟨who,e,?_⟩⟩;grind [mF,Ih,yt]
theorem aqe {x:fb} (h:j9 x) {who:Nat} {t:ft} (b:x.bf.al[who]? =some t) (i:t.gS=false) (d:t.g8=true) (v:t.fA.al=[]) (A:t.fx.gD=12) (B:t.j8<=x.eL.al.length) (u:mo x.fm who=false):
  j9 (sE x who)/\(sE x who).bf.al.length=x.bf.al.length/\nC (sE x who)<nC x:=by
 have f:=(aB.1 b).1;have w:BP x who=t.j8:=by grind [BP]
 unfold sE yV;rw [w,u];split
 .rename_i j;split at j
  .rename_i g k q;obtain ⟨rfl,rfl⟩:g=x.fm/\k=true:=by
    simp_all
   rw [ak rfl];simp only [lK,iC,zL];have m:∀ n,(x.bf.al.modify who λt=>{t with gS:=true,nu:=x.eZ})[n]? =if n=who then some {t with gS:=true,nu:=x.eZ} else x.bf.al[n]?:=λn=>by
    grind
   have l:(x.bf.al.modify who λt=>{t with gS:=true,nu:=x.eZ}).length=x.bf.al.length:=by rw [cd]
   obtain ⟨o,p⟩:=KP (y:={x with bf:=⟨x.bf.ie,x.bf.al.modify who λt=>{t with gS:=true,nu:=x.eZ}⟩}) h rfl rfl rfl l (λn s c=>by
     grind) (λ_ _ _ _ q=>q) (λg a=>by
     obtain ⟨n,s,z,D,r⟩:=h.vo g a;grind [KO])
   refine ⟨o,l,zK l (λn _=>p n) ⟨who,f,?_⟩⟩;grind [mF,Ih,yt]
  .rename_i g k q;rw [ai (by decide)] at j;obtain ⟨rfl,rfl⟩:g=⟨x.fm.mC,x.fm.iI.lR ⟨who,t.j8⟩⟩/\k=false:=by
    simp_all
   rw [ai (by decide)];have e:mo ⟨x.fm.mC,x.fm.iI.lR ⟨who,t.j8⟩⟩ who=true:=by
    unfold mo;show (x.fm.iI.al++[_]).any _=true;rw [List.any_append];simp
   obtain ⟨o,p⟩:=KP (y:={x with fm:=⟨x.fm.mC,x.fm.iI.lR ⟨who,t.j8⟩⟩}) h rfl rfl rfl rfl (λn s c=>⟨s,c, .inl rfl⟩) (λn s _ _ q=>by
     unfold mo at*;show (x.fm.iI.al++[_]).any _=true;rw [List.any_append,q];rfl) (λg a=>by
     rcases aF.1 (show g∈x.fm.iI.al++[_] from a) with q|q
     .exact h.vo g q
     grind)
   refine ⟨o,rfl,zK rfl (λn _=>p n) ⟨who,f,?_⟩⟩;grind [mF,yt]
theorem DL (l) (i:Int) (f) (n:Nat):(jh l i f)[n]? =if i=n then (l[n]?).map f else l[n]?:=by
 unfold jh;grind
theorem FA (l i f):(jh l i f).length=l.length:=by
 grind [jh]
structure KQ (x y:fb):Prop where
 Fy:y.ep=x.ep
 DK:y.eL=x.eL
 Fz:y.fg=x.fg
 Il:y.fm=x.fm
 Og:y.eZ=x.eZ
 DJ:y.bf.al.length=x.bf.al.length
theorem acY:∀ (f:List Int) z,KQ z (f.foldl lK z)/\∀ (n:Nat) s,(f.foldl lK z).bf.al[n]? =some s->∃ t,z.bf.al[n]? =some t/\((s=t/\(n:Int)∉f)\/((n:Int)∈f/\s.gS=true/\s.g8=t.g8/\s.fA=t.fA/\s.fx=t.fx))
 |[],z=>⟨⟨rfl,rfl,rfl,rfl,rfl,rfl⟩,λn s h=>⟨s,h, .inl ⟨rfl,by simp⟩⟩⟩
 |i::r,z=>by
  obtain ⟨b,m⟩:=acY r (lK z i);have c:KQ z (lK z i):=⟨rfl,rfl,rfl,rfl,rfl,FA _ _ _⟩;rw [bw];refine ⟨⟨b.Fy.trans c.Fy,b.DK.trans c.DK,b.Fz.trans c.Fz,b.Il.trans c.Il,b.Og.trans c.Og,b.DJ.trans c.DJ⟩,λn s h=>?_⟩;obtain ⟨l,a,k⟩:=m n s h;have a:(jh z.bf.al i λt=>{t with gS:=true,nu:=z.eZ})[n]? =some l:=a;rw [DL] at a;grind
theorem aqf {x} (h:j9 x) {who:Nat} (S:mo x.fm who=true) (full:Bool):
  j9 (pA x who full)/\(pA x who full).bf.al.length=x.bf.al.length/\nC (pA x who full)<nC x:=by
 obtain ⟨R,k,H⟩:=bD.1 S;have H:=ah H;obtain ⟨b,t,z1,B,L,he,T,hk,hu⟩:=h.vo R k;obtain rfl:b=who:=by omega
 have v:=(aB.1 B).1;have u:mF x b=1:=by
  grind [mF,yt]
 unfold pA;cases full with
 |true=>
  rw [ak rfl];have o:∀ n:Nat,(lK (iC {x with fm:=⟨x.fm.mC,x.fm.iI.j7 λw=>decide (w.js=(b:Int))⟩} b λt=>{t with gu:=iL 120}) b).bf.al[n]? =if n=b then some {t with gu:=iL 120,gS:=true,nu:=x.eZ} else x.bf.al[n]?:=λn=>by
   show (jh (jh x.bf.al b _) b _)[n]? =_;rw [DL,DL]
   by_cases q:n=b
   .subst q;rw [ak rfl,ak rfl,ak rfl,B];rfl
   grind
  have l:(lK (iC {x with fm:=⟨x.fm.mC,x.fm.iI.j7 λw=>decide (w.js=(b:Int))⟩} b λt=>{t with gu:=iL 120}) b).bf.al.length=x.bf.al.length:=by
   show (jh (jh x.bf.al b _) b _).length=_;rw [FA,FA]
  have p:(lK (iC {x with fm:=⟨x.fm.mC,x.fm.iI.j7 λw=>decide (w.js=(b:Int))⟩} b λt=>{t with gu:=iL 120}) b).fm.iI.al=x.fm.iI.al.filter λw=>!decide (w.js=(b:Int)):=rfl
  have m:KQ {x with fm:=(lK (iC {x with fm:=⟨x.fm.mC,x.fm.iI.j7 λw=>decide (w.js=(b:Int))⟩} b λt=>{t with gu:=iL 120}) b).fm} (lK (iC {x with fm:=⟨x.fm.mC,x.fm.iI.j7 λw=>decide (w.js=(b:Int))⟩} b λt=>{t with gu:=iL 120}) b):=⟨rfl,rfl,rfl,rfl,rfl,l⟩;generalize lK (iC {x with fm:=⟨x.fm.mC,x.fm.iI.j7 λw=>decide (w.js=(b:Int))⟩} b λt=>{t with gu:=iL 120}) b=y at*;obtain ⟨J,K⟩:=KP (y:=y) h m.Fy m.DK m.Fz l (λn s d=>by
    grind) (λn s d e q=>by
    rw [o] at d;split at d
    .cases d;cases e
    .rename_i hn;obtain ⟨g,a,q⟩:=bD.1 q;have q:=ah q;refine bD.2 ⟨g,?_,aO q⟩;grind) (λg a=>by
    rw [p,bG] at a;obtain ⟨a,q⟩:=a;obtain ⟨n,s,f,c,W,D,E,X,Q⟩:=h.vo g a;grind [m.DK])
  refine ⟨J,l,zK l (λn _=>K n) ⟨b,v,?_⟩⟩;grind [mF,Ih]
 |false=>
  rw [ai (by decide)];have i:∀ g∈x.fm.iI.al,decide (g.pz<=max x.fm.mC (x.eL.al.length:Int))=true:=λg a=>by
   obtain ⟨_,_,_,_,_,_,_,_,r⟩:=h.vo g a;exact aO (by omega)
  have Y:x.fm.iI.al.filter (λw=>!decide (w.pz<=max x.fm.mC (x.eL.al.length:Int)))=[]:=dg.2 λg a q=>by simp_all
  have Z:x.fm.iI.al.filter (λw=>decide (w.pz<=max x.fm.mC (x.eL.al.length:Int)))=x.fm.iI.al:=dW.2 λg a=>i g a
  have N:vJ x.fm (x.eL.al.length:Int)=(⟨max x.fm.mC (x.eL.al.length:Int),⟨true,[]⟩⟩, .mS (x.fm.iI.al.map (·.js))):=by
   grind [vJ]
  rw [N];simp only;obtain ⟨j,I⟩:=acY (gp.mS (x.fm.iI.al.map (·.js))).al {x with fm:=⟨max x.fm.mC (x.eL.al.length:Int),⟨true,[]⟩⟩};generalize (gp.mS (x.fm.iI.al.map (·.js))).al.foldl lK {x with fm:=⟨max x.fm.mC (x.eL.al.length:Int),⟨true,[]⟩⟩}=y at*;have O:y.fm.iI.al=[]:=by rw [j.Il]
  have P:∀ n:Nat,(n:Int)∈(gp.mS (x.fm.iI.al.map (·.js))).al->∃ g∈x.fm.iI.al,g.js=n:=λn q=>aE.1 q
  obtain ⟨J,K⟩:=KP (y:=y) h j.Fy j.DK j.Fz j.DJ (λn s d=>by
    obtain ⟨F,f,c⟩:=I n s d;refine ⟨F,f,?_⟩;rcases c with ⟨c,_⟩|⟨c,A,q4,q5,q6⟩
    .exact .inl c
    .obtain ⟨g,a,r⟩:=P n c;obtain ⟨U,s',W,D,E,X,Q,_⟩:=h.vo g a;grind) (λn s d e q=>by
    exfalso;obtain ⟨F,f,c⟩:=I n s d;rcases c with ⟨_,c⟩|⟨_,A,_⟩
    .obtain ⟨g,a,q⟩:=bD.1 q;exact c (aE.2 ⟨g,a,ah q⟩)
    simp_all) (λg a=>by simp_all)
  refine ⟨J,j.DJ,zK j.DJ (λn _=>K n) ⟨b,v,?_⟩⟩;rw [u];unfold mF;cases d:y.bf.al[b]? with
  |none=>simp_all
  |some s=>
   simp only;obtain ⟨F,f,c⟩:=I b s d;rcases c with ⟨_,c⟩|⟨_,A,_⟩
   .exact absurd (aE.2 ⟨R,k,H⟩) c
   grind [Ih]
def r8 (l:List fK) (m:Int):List Int:=(l.filter λp=>decide (p.ig=m)).map (·.gf)
theorem oC.Oh {n:Int}:∀ (z:List fK) (x:kz×gp fK) (g:Int->List Int),oC x.1 g->(z.map (·.gf)).Nodup->(∀ h∈z,h.ig=n->h.gf∈g n)->(∀ w∈x.1.fH.al,w.ig≠n)->
  ∃ d c,oC (z.foldl (nV n) x).1 d/\(z.foldl (nV n) x).2.al=x.2.al++c/\(∀ k,k∈d n↔k∈g n/\(⟨k,n⟩:fK)∉z)/\(∀ m,m≠n->d m=g m++r8 c m)/\
   (∀ w,w∈(z.foldl (nV n) x).1.fH.al↔w∈x.1.fH.al/\w∉c)/\∀ p∈c,p.ig≠n/\p∈x.1.fH.al/\p.gf∈g n
 |[],x,g,h,_,_,_=>⟨g,[],h,by simp,by simp,λm _=>by simp [r8],by simp,by simp⟩
 |a::r,x,g,h,E,P,R=>by
  rw [bp,b8] at E;rw [bw]
  by_cases s:a.ig=n
  .have U:=P a aP s;have F:∀ b∈r,b.gf≠a.gf:=λb f e=>E.1 (e▸dD f)
   have o:∀ k,((⟨k,n⟩:fK)∉a::r)↔k≠a.gf/\(⟨k,n⟩:fK)∉r:=λk=>by
    rw [aK,not_or];constructor
    .rintro ⟨u,i⟩;exact ⟨λe=>u (by obtain ⟨Z,X⟩:=a;simp_all),i⟩
    grind
   rcases h.acz U with ⟨A,v,B⟩|⟨m,A,v,B,e4,Y,Q⟩
   .have D:nV n x a=((kl x.1 n a.gf).1,x.2):=by
     unfold nV;grind
    rw [D];obtain ⟨d,c,H,I,J,K,L,N⟩:=oC.Oh r ((kl x.1 n a.gf).1,x.2) _ v E.2 (λb f t=>by
     rw [Ie,bG];simp_all) (by simp_all)
    grind [Ie,KM]
   .have D:nV n x a=((kl x.1 n a.gf).1,x.2.lR ⟨a.gf,m⟩):=by
     unfold nV;grind
    rw [D];obtain ⟨d,c,H,I,J,K,L,N⟩:=oC.Oh r ((kl x.1 n a.gf).1,x.2.lR ⟨a.gf,m⟩) _ Y E.2 (λb f t=>by
     grind [KM,Ie]) (λw S=>R w ((Q w).1 S).1)
    refine ⟨d,⟨a.gf,m⟩::c,H,?_,λk=>?_,λj l=>?_,λw=>?_,λp hp=>?_⟩
    .rw [I];show (x.2.al++[_])++c=_;rw [aA];rfl
    .grind [KM,Ie]
    .grind [r8,Ie,KM]
    .grind
    grind [KM,Ie]
  .have D:nV n x a=x:=by grind [nV]
   rw [D];obtain ⟨d,c,H,I,J,K,L,N⟩:=oC.Oh r x g h E.2 (λb f=>P b (aQ _ f)) R;grind
theorem oC.aqg {t:kz} {has:Int->List Int} (h:oC t has) (n:Int):∃ hj,oC (l6 t n).1 hj/\hj n=[]/\(∀ m,m≠n->hj m=has m++r8 (l6 t n).2.al m)/\
  (∀ w,w∈(l6 t n).1.fH.al↔w∈t.fH.al/\w.ig≠n/\w∉(l6 t n).2.al)/\∀ p∈(l6 t n).2.al,p.ig≠n/\p∈t.fH.al/\p.gf∈has n:=by
 have h0:oC ⟨t.iV,t.fH.j7 λw=>decide (w.ig=n)⟩ has:=by
  refine ⟨h.zI,h.DG,h.we,h.Fq.sublist ((dV).map _),λw hw=>h.A1 w (bG.1 hw).1⟩
 have hwm:∀ w,w∈(t.fH.j7 λw=>decide (w.ig=n)).al↔w∈t.fH.al/\w.ig≠n:=λw=>by
  show w∈t.fH.al.filter _↔_;simp_all
 obtain ⟨hj,new,p1,p2,p3,p4,p5,p6⟩:=oC.Oh t.iV.al (⟨t.iV,t.fH.j7 λw=>decide (w.ig=n)⟩, .g6) has h0 h.DG (λa ha e=>by
  have:=(h.zI a.gf a.ig).1 ha
  rwa [e] at this) (λw hw=>((hwm w).1 hw).2)
 have hnew:(l6 t n).2.al=new:=by
  unfold l6;rw [p2];rfl
 refine ⟨hj,p1,cw.2 λk hk=>?_,λm hm=>by simp_all,λw=>?_,λp hp=>?_⟩
 .obtain ⟨q1,q2⟩:=(p3 k).1 hk;exact q2 ((h.zI k n).2 q1)
 .rw [hnew];show w∈(t.iV.al.foldl (nV n) (⟨t.iV,t.fH.j7 λw=>decide (w.ig=n)⟩, .g6)).1.fH.al↔_;grind
 simp_all
theorem ac2:∀ (a:List fK) (z:fb),KQ z (a.foldl lT z)/\∀ (n:Nat) s,(a.foldl lT z).bf.al[n]? =some s->∃ t,z.bf.al[n]? =some t/\s.fA.al=t.fA.al++r8 a n/\s.fx=t.fx/\s.g8=t.g8/\s.gS=t.gS/\(r8 a n=[]->s=t)
 |[],z=>⟨⟨rfl,rfl,rfl,rfl,rfl,rfl⟩,λn s h=>⟨s,h,by simp [r8],rfl,rfl,rfl,λ_=>rfl⟩⟩
 |i::r,z=>by
  obtain ⟨h1,h2⟩:=ac2 r (lT z i);have hs:KQ z (lT z i):=⟨rfl,rfl,rfl,rfl,rfl,FA _ _ _⟩;rw [bw];refine ⟨⟨h1.Fy.trans hs.Fy,h1.DK.trans hs.DK,h1.Fz.trans hs.Fz,h1.Il.trans hs.Il,h1.Og.trans hs.Og,h1.DJ.trans hs.DJ⟩,λn s h=>?_⟩;obtain ⟨t1,q1,q2,b,c,d,f⟩:=h2 n s h;have q1:(jh z.bf.al i.ig λt=>gl t ⟨1,i.gf⟩)[n]? =some t1:=q1;rw [DL] at q1;split at q1
  .rename_i e;have hh:r8 (i::r) n=i.gf::r8 r n:=by grind [r8]
   cases ht:z.bf.al[n]? with
   |none=>simp_all
   |some t=>
    rw [ht] at q1;cases q1;obtain ⟨f1,f2,f3,f4⟩:(gl t ⟨1,i.gf⟩).fA.al=t.fA.al++[i.gf]/\(gl t ⟨1,i.gf⟩).fx=t.fx/\(gl t ⟨1,i.gf⟩).g8=t.g8/\(gl t ⟨1,i.gf⟩).gS=t.gS:=by
     unfold gl;rw [ak rfl];exact ⟨rfl,rfl,rfl,rfl⟩
    simp_all
  grind [r8]
def zM (who i:Nat) (t:ft):Prop:=i≠who/\rH t.fx=true/\t.g8=false
structure Oi (x0:fb) (who N:Nat) (x:fb):Prop where
 aqh:x.ep=x0.ep
 acZ:x.eL=x0.eL
 KR:x.fm=x0.fm
 KS:x.bf.al.length=x0.bf.al.length
 Ts:oC x.fg (mA x.bf.al)
 Cv:∀ (i:Nat) s,x.bf.al[i]? =some s->∃ t,x0.bf.al[i]? =some t/\s.fx=t.fx/\s.g8=t.g8/\s.gS=t.gS/\
  (zM who i t->i<N->s.fA.al=[]/\s.jA=0/\∀ w∈x.fg.fH.al,w.ig≠i)/\(¬zM who i t->s=t)
 KT:∀ w∈x.fg.fH.al,w∈x0.fg.fH.al
 ac0:∀ w∈x0.fg.fH.al,(∀ (i:Nat) t,w.ig=i->x0.bf.al[i]? =some t->¬zM who i t)->w∈x.fg.fH.al
theorem aqj {x0 x:fb} {who N:Nat} {t0:ft} (h0:x0.bf.al[who]? =some t0) (h1:1∈t0.fA.al) (Y:∀ w∈x0.fg.fH.al,∃ (i:Nat) (t:ft),w.ig=i/\x0.bf.al[i]? =some t/\(zM who i t\/w.gf=1)) (h:Oi x0 who N x):Oi x0 who (N+1) (nW who x N):=by
 unfold nW;cases I:x.bf.al[N]? with
 |none=>
  refine {h with Cv:=λi s f=>?_};obtain ⟨t,c,k,A,O,P,n⟩:=h.Cv i s f;grind
 |some sN=>
  simp only;obtain ⟨tN,n1,n2,n3,n4,n5,n6⟩:=h.Cv N sN I;split
  .rename_i F;have r:zM who N tN:=⟨by omega,by simp_all,by simp_all⟩;obtain ⟨hj,p1,p2,p3,L,z⟩:=h.Ts.aqg (N:Int);generalize l6 x.fg (N:Int)=y at*;obtain ⟨R,a⟩:=y;simp only at p1 p3 L z ⊢;obtain ⟨D,f2⟩:=ac2 a.al (iC {x with fg:=R} N kY);have hz:∀ i:Nat,(iC {x with fg:=R} N kY).bf.al[i]? =if i=N then some (kY sN) else x.bf.al[i]?:=λi=>by
    show (jh x.bf.al N kY)[i]? =_;grind [DL]
   have Z:(iC {x with fg:=R} N kY).bf.al.length=x.bf.al.length:=by show (jh x.bf.al N kY).length=_;exact FA _ _ _
   have K:mA x.bf.al who=t0.fA.al:=by
    have W:who<x.bf.al.length:=by grind [h.KS]
    have e:=aj W;obtain ⟨t,c,_,_,_,_,n⟩:=h.Cv who _ e;rw [h0] at c;cases c;have:=n λq=>q.1 rfl
    grind [qo]
   have o:∀ p∈a.al,p.gf≠1:=λp g e=>by
    obtain ⟨_,_,q⟩:=z p g;rw [e] at q;have:=h.Ts.Cs q (by rw [K];exact h1:(1:Int)∈mA x.bf.al who);omega
   have S:∀ i:Nat,(∀ t,x0.bf.al[i]? =some t->¬zM who i t)->r8 a.al i=[]:=λi f=>by
    unfold r8;rw [dZ,dg];intro p g q;obtain ⟨_,k,_⟩:=z p g;obtain ⟨j,t,B,v,Q⟩:=Y p (h.KT p k);grind
   have X:∀ i:Nat,(∀ w∈x.fg.fH.al,w.ig≠i)->r8 a.al i=[]:=λi f=>by
    unfold r8;simp_all
   have E:r8 a.al (N:Int)=[]:=by
    unfold r8;simp_all
   generalize a.al.foldl lT (iC {x with fg:=R} N kY)=y at*;have l:y.bf.al.length=x.bf.al.length:=D.DJ.trans Z;have T:y.fg=R:=D.Fz;refine ⟨D.Fy.trans h.aqh,D.DK.trans h.acZ,D.Il.trans h.KR,l.trans h.KS,?_,λi s f=>?_,λw b=>?_,λw b u=>?_⟩
   .rw [T];have:mA y.bf.al=hj:=by
     funext m
     by_cases H:∃ i:Nat,m=i/\i<y.bf.al.length
     .obtain ⟨i,rfl,f⟩:=H;have e:=aj f;obtain ⟨t,c,k,_⟩:=f2 i _ e;rw [qo e,k];rw [hz] at c;split at c
      .rename_i q;cases c;subst q;rw [p2,E];rfl
      grind [qo]
     .have e1:mA y.bf.al m=[]:=by
       unfold mA;grind
      have e2:mA x.bf.al m=[]:=by
       unfold mA;grind
      rw [e1,p3 m (λe=>H ⟨N,e,by simp_all⟩),e2,bE,eq_comm];unfold r8;rw [dZ,dg];intro p g q;obtain ⟨j,t,B,v,_⟩:=Y p (h.KT p (z p g).2.1);grind [h.KS]
    simp_all
   .obtain ⟨s1,c,k,A,O,P,n⟩:=f2 i s f;rw [hz] at c;split at c
    .rename_i e;subst e;cases c;have:=n E;subst this;refine ⟨tN,n1,n2,n3,n4,λ_ _=>⟨rfl,rfl,λw b=>?_⟩,λq=>absurd r q⟩;simp_all
    .rename_i e;obtain ⟨t,B,v,Q,r4,r5,r6⟩:=h.Cv i s1 c;refine ⟨t,B,A.trans v,O.trans Q,P.trans r4,λd U=>?_,λd=>?_⟩
     .grind
     simp_all
   .rw [T] at b;exact h.KT w ((L w).1 b).1
   .rw [T,L];refine ⟨h.ac0 w b u,λe=>u N tN e n1 r,λq=>?_⟩;grind
  .rename_i F;refine {h with Cv:=λi s f=>?_};obtain ⟨t,c,k,A,O,P,n⟩:=h.Cv i s f;refine ⟨t,c,k,A,O,λd U=>P d ?_,n⟩;rcases bu i N with q|q
   .exact q
   .exfalso;have:i=N:=by omega
    subst this;rw [I] at f;cases f;exact F ⟨by have:=d.1;omega,by rw [k];exact d.2.1,by rw [A];exact d.2.2⟩
theorem aqi {x0:fb} {who:Nat} {t0:ft} (h:x0.bf.al[who]? =some t0) (a:1∈t0.fA.al) (c:∀ w∈x0.fg.fH.al,∃ (i:Nat) (t:ft),w.ig=i/\x0.bf.al[i]? =some t/\(zM who i t\/w.gf=1)) (l:oC x0.fg (mA x0.bf.al)):Oi x0 who x0.bf.al.length (vK x0 who):=by
 have k:∀ N,Oi x0 who N ((List.range N).foldl (nW who) x0):=λN=>by
  induction N with
  |zero=>exact ⟨rfl,rfl,rfl,rfl,l,λi s b=>⟨s,b,rfl,rfl,rfl,λ_ q=>absurd q (by omega),λ_=>rfl⟩,λw q=>q,λw q _=>q⟩
  |succ N d=>
   rw [cM,bX];exact aqj h a c d
 exact k _
theorem ac1 {x:fb} {who:Nat} {t:ft} (ht:x.bf.al[who]? =some t) (hd:t.g8=false) (m:fX) (os:gp e7) (f:ft->ft) (hf:∀ s,(f s).gS=s.gS/\(f s).g8=s.g8/\(f s).fx=s.fx/\(f s).fA=s.fA):
  ∃ a,a.gS=t.gS/\a.g8=true/\a.fx=t.fx/\a.fA=t.fA/\(∀ n:Nat,(kA (iC {x with ep:=m,eL:=os} who f) who ⟨3,0⟩).bf.al[n]? =if n=who then some a else x.bf.al[n]?)/\
   (kA (iC {x with ep:=m,eL:=os} who f) who ⟨3,0⟩).bf.al.length=x.bf.al.length/\mA (kA (iC {x with ep:=m,eL:=os} who f) who ⟨3,0⟩).bf.al=mA x.bf.al/\
   mb (kA (iC {x with ep:=m,eL:=os} who f) who ⟨3,0⟩).bf.al+(if mO t=true then 1 else 0)=mb x.bf.al:=by
 obtain ⟨e1,e2,e3,e4⟩:=hf t;have h:(kA (iC {x with ep:=m,eL:=os} who f) who ⟨3,0⟩).bf.al=(x.bf.al.modify who f).modify who λt=>gl t ⟨3,0⟩:=by
  show jh (jh x.bf.al who f) who _=_;rw [zL,zL]
 obtain ⟨f1,f2,f3,f4⟩:(gl (f t) ⟨3,0⟩).gS=t.gS/\(gl (f t) ⟨3,0⟩).g8=true/\(gl (f t) ⟨3,0⟩).fx=t.fx/\(gl (f t) ⟨3,0⟩).fA=t.fA:=by
  grind [gl]
 rw [h];refine ⟨gl (f t) ⟨3,0⟩,f1,f2,f3,f4,λn=>?_,by rw [cd,cd],?_,?_⟩
 .grind
 .rw [DH (DI ht _),DH ht,f4,e4];grind [oD,qo]
 .rw [<-Fw (f:=f) (l:=x.bf.al) (λs=>⟨by grind [mO],(hf s).2.1⟩) who];grind [acW,mO]
theorem KU {t:ft}:rH t.fx=true↔∃ n,jd t.fx= .ml n:=by
 unfold rH;grind
theorem aqk {T:Nat} {x:fb} (h:j9 x) (hM:kM T x.ep) {who:Nat} {t:ft} (Q:x.bf.al[who]? =some t) (R:t.gS=false) (hd:t.g8=false) (hnw:m6 x.fg who=false) (hg:mo x.fm who=false)
  (hk:t.fx.gD=13/\(gA x.ep t.fx).2.1.qc=0) (hs1:1∈t.fA.al):
  j9 (od x who ⟨3,0⟩)/\(od x who ⟨3,0⟩).bf.al.length=x.bf.al.length/\nC (od x who ⟨3,0⟩)<nC x:=by
 have S:=(aB.1 Q).1;have Y:mW x who=t.fx:=by grind [mW]
 have hnd:t.fA.al.Nodup:=by have:=h.pY.we who;grind [qo]
 have hy:=Tq (c:=t.fx) (.inr (.inr hk.1));have W:∀ f,jd t.fx≠ .ml f:=λf q=>by simp_all
 have hno:∀ (n:Nat) s,n≠who->x.bf.al[n]? =some s->1∉s.fA.al:=λn s J P q=>J (by
  have:=h.pY.Cs (k:=1) (n:=n) (m:=who) (by grind [qo]) (by grind [qo]);omega)
 unfold od;rw [Y];generalize gA x.ep t.fx=r at*;obtain ⟨m,a,u⟩:=r;simp only at hk ⊢;rw [ak hk];obtain ⟨t',X,O,f3,f4,F,hlen,hH,hK⟩:=ac1 Q hd m ⟨(x.eL.gj u.al).ie,(x.eL.gj u.al).al⟩ (λt=>{t with gu:=a,kf:=x.eZ,j8:=(x.eL.gj u.al).al.length}) (λs=>⟨rfl,rfl,rfl,rfl⟩);have hm0:(kA (iC {x with ep:=m,eL:=⟨(x.eL.gj u.al).ie,(x.eL.gj u.al).al⟩} who λt=>{t with gu:=a,kf:=x.eZ,j8:=(x.eL.gj u.al).al.length}) who ⟨3,0⟩).fg=x.fg/\(kA (iC {x with ep:=m,eL:=⟨(x.eL.gj u.al).ie,(x.eL.gj u.al).al⟩} who λt=>{t with gu:=a,kf:=x.eZ,j8:=(x.eL.gj u.al).al.length}) who ⟨3,0⟩).fm=x.fm/\(kA (iC {x with ep:=m,eL:=⟨(x.eL.gj u.al).ie,(x.eL.gj u.al).al⟩} who λt=>{t with gu:=a,kf:=x.eZ,j8:=(x.eL.gj u.al).al.length}) who ⟨3,0⟩).eL.al=x.eL.al++u.al:=⟨rfl,rfl,rfl⟩;generalize kA (iC {x with ep:=m,eL:=⟨(x.eL.gj u.al).ie,(x.eL.gj u.al).al⟩} who λt=>{t with gu:=a,kf:=x.eZ,j8:=(x.eL.gj u.al).al.length}) who ⟨3,0⟩=y0 at*;obtain ⟨g1,g2,g3⟩:=hm0;rw [Tp hy,ak rfl] at hK;have hww:∀ w∈x.fg.fH.al,∃ (i:Nat) (s:ft),w.ig=i/\i≠who/\x.bf.al[i]? =some s/\uM x.ep.cy.ec.al s w.gf/\(zM who i s\/(w.gf=1/\s.fA.al=[]/\∃ c,jd s.fx= .nf c)):=λw L=>by
  obtain ⟨i,s,j,B,v⟩:=h.wg w L;have I:i≠who:=λe=>Ij hnw w L (by rw [j,e])
  refine ⟨i,s,j,I,B,v,?_⟩;cases hys:jd s.fx with
  |pR=>grind [v.zJ]
  |nf c=>
   rcases v.Fu c hys with ⟨p,H⟩|⟨p,_⟩
   .simp_all
   grind
  |ml f=>exact .inl ⟨I,KU.2 ⟨f,hys⟩,v.uN⟩
 have E:=aqi (x0:=y0) (who:=who) (t0:=t') (by rw [F,ak rfl]) (by rw [f4];exact hs1) (λw L=>by
  grind) (by grind [h.pY])
 generalize vK y0 who=y at*;have b:y.bf.al.length=x.bf.al.length:=E.KS.trans hlen;have A:∀ (n:Nat) s,y.bf.al[n]? =some s->(n=who/\s=t')\/(n≠who/\∃ D,x.bf.al[n]? =some D/\((¬zM who n D/\s=D)\/(zM who n D/\s.fA.al=[]/\s.jA=0/\s.fx=D.fx/\s.g8=D.g8/\s.gS=D.gS/\∀ w∈y.fg.fH.al,w.ig≠n))):=λn s P=>by
  obtain ⟨t1,j,B,v,q4,U,q6⟩:=E.Cv n s P;have J:n<y0.bf.al.length:=by grind
  grind [zM]
 have hK':mb y.bf.al+1=mb x.bf.al:=by
  rw [<-hK];congr 1;exact acX E.KS λn s P=>by
   obtain ⟨t1,j,B,v,_⟩:=E.Cv n s P;exact ⟨t1,j,by unfold mO;rw [B],v⟩
 have hmu:∀ n:Nat,n≠who->mF y n<=mF x n:=λn J=>by
  unfold mF;cases P:y.bf.al[n]? with
  |none=>exact ar _
  |some s=>
   simp only;rcases A n s P with ⟨q,_⟩|⟨_,D,j,B⟩
   .exact absurd q J
   .rw [j];simp only;rw [E.KR,g2];rcases B with ⟨nd,rfl⟩|⟨d,p,H,z3,z4,z5,z6⟩
    .have hwb:m6 y.fg n=m6 x.fg n:=by
      unfold m6;rw [df,bD,bD];constructor
      .rintro ⟨w,L,q⟩;exact ⟨w,by have:=E.KT w L;rwa [g1] at this,q⟩
      .rintro ⟨w,L,q⟩;refine ⟨w,E.ac0 w (by rw [g1];exact L) λi s' e hs' d=>?_,q⟩;grind
     rw [hwb];unfold nB;split
     .exact aq _
     split
     .exact aq _
     rename_i N;split
     .exact aq _
     .exact aq _
     .rename_i f o;exact absurd ⟨J,KU.2 ⟨f,o⟩,by simpa using N⟩ nd
    .obtain ⟨f,o⟩:=KU.1 d.2.1;have he0:=N7 (h.pn n D j) d.2.2;rw [yu (z5.trans he0) (z4.trans d.2.2) (by rw [z3];exact o),yu he0 d.2.2 o,N9 p];have hb:r7 s f.al.length=2*f.al.length+2:=by grind [r7]
     rw [hb,<-hK'];grind
 have N:tX y.bf.al:=by
  have I:who<y.bf.al.length:=by rw [b];exact S
  have e:=aj I;refine ⟨who,_,e,?_⟩;grind [mO]
 refine ⟨⟨E.Ts,λw L=>?_,λn s P=>?_,λg Z=>?_⟩,b,zK b (λn J=>?_) ⟨who,S,?_⟩⟩
 .have hwx:=E.KT w L;rw [g1] at hwx;obtain ⟨i,s,j,B,v,q4,U⟩:=hww w hwx;have I:i<y.bf.al.length:=by grind
  have e:=aj I;rcases A i _ e with ⟨q,_⟩|⟨_,D,p,H⟩
  .exact absurd q B
  .rw [v] at p;cases p;rcases H with ⟨nd,H⟩|⟨_,_,_,_,_,_,z3⟩
   .rcases U with U|⟨r1,r2,c,r3⟩
    .exact absurd U nd
    .exact ⟨i,s,j,by rw [e,H],⟨q4.uN,q4.zJ,λc' hc'=> .inl ⟨r2,r1⟩,λf o=>(by simp_all)⟩⟩
   simp_all
 .rcases A n s P with ⟨rfl,rfl⟩|⟨J,D,p,H⟩
  .exact ⟨by rw [f4];exact (h.pn n t Q).Ft,λ_ _ _=> .inr N,λq=>(by simp_all),λq=>(by simp_all),λq=>(by simp_all),λq=>(by simp_all)⟩
  .have h0:=h.pn n D p;rcases H with ⟨nd,rfl⟩|⟨d,y1,y2,y3,y4,y5,_⟩
   .refine ⟨h0.Ft,λ_ _ _=> .inr N,h0.Fs,h0.N6,λq c hc=> .inl ?_,λq f o=>absurd ⟨J,KU.2 ⟨f,o⟩,q⟩ nd⟩;rcases h0.Ct q c hc with z|⟨z,_⟩
    .exact z
    grind
   .refine ⟨by rw [y1];decide,λ_ _ _=> .inr N,λq=>?_,λ_ _=>y1,λ_ _ _=> .inl y1,λ_ _ _=> .inl ⟨y1,y2⟩⟩;grind [N7]
 .rw [E.KR,g2] at Z;obtain ⟨n,s,j,B,v,q4,U,q6,q7⟩:=h.vo g Z;have J:n≠who:=λe=>KO hg g Z (by rw [j,e])
  have I:n<y.bf.al.length:=by grind
  have e:=aj I;grind [E.acZ]
 .by_cases q:n=who
  .subst q;refine cU ?_;unfold mF;have I:n<y.bf.al.length:=by rw [b];exact S
   have e:=aj I;rw [e,Q,hnw,hg];simp only;rcases A n _ e with ⟨_,z⟩|⟨z,_⟩
   .rw [z,yt (X.trans R) O,E.KR,g2,hg,<-yt (l:=m.cy.ec.al) (K:=0) (w:=false) (X.trans R) O];exact Of (h.pn n t Q) R hd hnd (λf q=>absurd q (W f)) (X.trans R) O (by rw [f4])
   omega
  .exact hmu n q
 .unfold mF;have I:who<y.bf.al.length:=by rw [b];exact S
  have e:=aj I;rw [e,Q,hnw,hg];simp only;rcases A who _ e with ⟨_,z⟩|⟨z,_⟩
  .rw [z,yt (X.trans R) O,E.KR,g2,hg,<-yt (l:=m.cy.ec.al) (K:=0) (w:=false) (X.trans R) O];exact Of (h.pn who t Q) R hd hnd (λf q=>absurd q (W f)) (X.trans R) O (by rw [f4])
  omega
theorem ac6 {l} (c:gU l=true) (h:qm l) {a b}:C4 l a b=true↔lc l a b:=by
 grind [C4,aco]
theorem aql {l} (x:gU l=true) (r:qm l) {c} {has:List Int} {k:Int} (i:(ng l c).find? (λk=>!has.contains k)=some k) (A:1∈has):∀ d,vp l c d->lc l d k->d∈has:=λd B w=>by
 have g:d≠k:=λe=>r k (e▸w)
 obtain ⟨h,u⟩:=B;unfold ng at i h;rw [List.find?_cons,List.contains_iff_mem.2 A] at i;have i:(x7 l ((pS c).foldl (oN l) [])).find? (λk=>!has.contains k)=some k:=i;have h:=(aK.1 h).resolve_left u;have o:(x7 l ((pS c).foldl (oN l) [])).length<=2:=by
  have:=Tk l c;grind [ng]
 have v:=bY i;generalize (pS c).foldl (oN l) []=D at*;have t:=λa b=>x7.eq_1 l a b
 generalize m:x7 l D=O at*
 match O,o,h,v with
 |[a],_,j,f=>
  simp_all
 |[a,b],_,j,f=>
  have j:d=a\/d=b:=by simpa using j
  have f:k=a\/k=b:=by simpa using f
  rcases j with rfl|rfl
  ·
   simp_all
  .rcases f with rfl|f
   .exfalso;have s:D.length=2:=by grind [Tl]
    match D,s with
    |[p,q],_=>
     rw [t] at m;have y:=(ac6 x r).2 w;split at m
     .simp_all
     .rename_i z;cases m;have:C4 l k d=true:=by
       simp_all
      exact r d (w.acj ((ac6 x r).1 this))
   omega
theorem ac4 (t k):(gl t ⟨2,k⟩).gS=t.gS/\(gl t ⟨2,k⟩).g8=t.g8/\(gl t ⟨2,k⟩).fx=t.fx/\(gl t ⟨2,k⟩).fA.al=(t.fA.al.filter λj=>!decide (j=k))/\(gl t ⟨2,k⟩).jA=if (t.fA.al.filter λj=>!decide (j=k))=[]/\t.g8=false/\rH t.fx=true then 0 else t.jA:=by
 unfold gl;rw [ai (show ¬(2:Int)=1 by decide),ak rfl];exact ⟨rfl,rfl,rfl,rfl,rfl⟩
theorem ac5 {l s a z} (b:iy z=true):∀ xs r h,jz l r (xs++s::a)=(z,0)->jz l r xs=(h,0)->∃ n,iB l h s=some n/\iy n.eM=true
 |[],r,h,e,k=>by
  have k:(r,(0:Int))=(h,0):=k;cases k;rw [bE,jz] at e;split at e
  .cases c:iB l r s with
   |none=>simp_all
   |some n=>
    rw [c] at e;refine ⟨n,rfl,?_⟩;have e:jz l n.eM a=(z,0):=e;cases a with
    |nil=>
     have:(n.eM,(0:Int))=(z,0):=e;simp_all
    |cons y a=>
     grind [jz]
  .cases e
 |x::xs,r,h,e,k=>by
  rw [bP,jz] at e;rw [jz] at k;split at e
  .rename_i d;rw [ak d] at k;cases c:iB l r x with
   |none=>simp_all
   |some n=>
    rw [c] at e k;exact ac5 b xs n.eM h e k
  .cases e
theorem ac3:∀ l d,(pa d l).1.kg=d.kg
 |[],_=>rfl
 |o::l,d=>by
  have h:(rI d o).1.kg=d.kg:=by grind [rI]
  unfold pa;generalize rI d o=y at*;obtain ⟨a,e⟩:=y;simp only at h ⊢;split
  .exact h
  .rw [ac3 l a,h]
theorem aqm {m c d} (h:tB ⟨m,iL 0,c, .g6⟩=(d,0)):d.kg.qc=0:=by
 unfold tB at h;split at h
 .cases h
 .rename_i l _;simp only at h;split at h
  .cases h
  .have:=ac3 (l.foldl (l5 m.cy) (m.jk, .g6)).2.al ⟨m,iL 0,c, .g6⟩;generalize pa ⟨m,iL 0,c, .g6⟩ (l.foldl (l5 m.cy) (m.jk, .g6)).2.al=y at*;obtain ⟨a,e⟩:=y;simp only at h this;split at h
   .simp_all
   .have h:=congrArg Prod.fst h;simp only at h;rw [<-h];simp only;rw [this];rfl
theorem aqn {m c} (k:c.gD=13) (h:(gA m c).2.1.qc≠0):(gA m c).1.cy.ec.al=m.cy.ec.al:=by
 unfold gA at h ⊢;split
 .rfl
 .rename_i g;rw [ai g] at h;have w:vI c.gD=some tB:=by rw [k];rfl
  grind [aqm]
theorem aqo {T:Nat} {x} (h:j9 x) (S:kM T x.ep) {who:Nat} {t} (J:x.bf.al[who]? =some t) (hu:t.j8<=x.eL.al.length) (o:t.gS=false) (A:m6 x.fg who=false) (X:mo x.fm who=false):
  j9 (pd x who (oO x.ep.cy.ec.al t))/\(pd x who (oO x.ep.cy.ec.al t)).bf.al.length=x.bf.al.length/\nC (pd x who (oO x.ep.cy.ec.al t))<nC x:=by
 have hc:=S.lq.qK.zc;have ha:=S.lq.S7;have B:=h.pn who t J;have hnd:t.fA.al.Nodup:=by have:=h.pY.we who;grind [qo]
 have t1:∀ k,pd x who ⟨1,k⟩=rM x who ⟨1,k⟩:=λk=>rfl
 have t2:∀ k,pd x who ⟨2,k⟩=rL x who ⟨2,k⟩:=λk=>rfl
 have t3:pd x who ⟨3,0⟩=od x who ⟨3,0⟩:=rfl;have t4:pd x who ⟨4,0⟩=sE x who:=rfl;have t5:pd x who ⟨5,0⟩=w5 x who ⟨5,0⟩:=rfl;have R:∀ {k},k∈t.fA.al->sT (tX x.bf.al) x.ep.cy.ec.al (gl t ⟨2,k⟩)->nB x.ep.cy.ec.al (mb x.bf.al) false false (gl t ⟨2,k⟩)<nB x.ep.cy.ec.al (mb x.bf.al) false false t->
   j9 (rL x who ⟨2,k⟩)/\(rL x who ⟨2,k⟩).bf.al.length=x.bf.al.length/\nC (rL x who ⟨2,k⟩)<nC x:=λD F q3=>by
  obtain ⟨a,b,c⟩:=apK h J D A X F q3;grind [b.Ii]
 have tak:∀ {k},k∉t.fA.al->uM x.ep.cy.ec.al t k->j9 (rM x who ⟨1,k⟩)/\(rM x who ⟨1,k⟩).bf.al.length=x.bf.al.length/\nC (rM x who ⟨1,k⟩)<nC x:=λD F=>by
  obtain ⟨a,b,c⟩:=apN h J D F A X;grind [b.Ii]
 unfold oO;rw [ai (by rw [o];decide)]
 by_cases g:t.g8=true
 .rw [ak g];cases i:t.fA.al with
  |nil=>
   grind [aqe,aqd]
  |cons k r=>
   simp only;rw [t2];obtain ⟨P,L,Q,l,H⟩:=ac4 t k;have v:k∈t.fA.al:=by rw [i];exact aP
   refine R v ⟨by grind [B.Ft],λq=>(by simp_all),λq=>(by simp_all),λq=>(by simp_all),λq=>(by simp_all),λq=>(by simp_all)⟩ ?_;rw [yt (P.trans o) (L.trans g),yt o g,l];grind
 .have g:t.g8=false:=by simpa using g
  rw [ai (by rw [g];decide)];have O:(∀ c,jd t.fx= .nf c->1∈t.fA.al/\∀ d,vp x.ep.cy.ec.al c d->d∈t.fA.al)->(∀ s,jd t.fx= .ml s->∃ h,t.fA.al=[h])->
    j9 (od x who ⟨3,0⟩)/\(od x who ⟨3,0⟩).bf.al.length=x.bf.al.length/\nC (od x who ⟨3,0⟩)<nC x:=λD F=>by
   by_cases v:t.fx.gD=13/\(gA x.ep t.fx).2.1.qc=0
   .exact aqk h S J o g A X v (D _ (Tq (.inr (.inr v.1)))).1
   .by_cases Z:t.fx.gD=13
    .have:xu x.ep.cy.ec.al t.fx (gA x.ep t.fx).1.cy.ec.al:=by
      have:(gA x.ep t.fx).1.cy.ec.al=x.ep.cy.ec.al:=aqn Z λq=>v ⟨Z,q⟩
      rw [this];exact .A3
     grind [acU]
    grind [acU,apT]
  cases y:jd t.fx with
  |pR=>
   simp_all
  |nf c=>
   simp only;unfold C5;cases W:(ng x.ep.cy.ec.al c).find? λk=>!t.fA.al.contains k with
   |none=>
    simp only;rw [t3];have N:∀ k∈ng x.ep.cy.ec.al c,k∈t.fA.al:=λk v=>by
     simp_all
    refine O (λc' q=>?_) (λs q=>by simp_all);rw [y] at q;cases q;exact ⟨N 1 (acO.2 (.inl rfl)),λd hd'=>N d hd'.1⟩
   |some k=>
    simp only;rw [t1];have hkl:=bY W;have hkn:k∉t.fA.al:=by grind
    refine tak hkn ⟨g,λq=>(by simp_all),λc' q=>?_,λs q=>(by simp_all)⟩;rw [y] at q;cases q;rcases B.Ct g c y with z|⟨z,_⟩
    .grind [ng]
    grind [aql]
  |ml s=>
   simp only;have hwk:rH t.fx=true:=KU.2 ⟨s,y⟩;unfold x6;cases i:t.fA.al with
   |nil=>
    simp only;rw [t1];refine tak (by rw [i];simp) ⟨g,λq=>(by simp_all),λc' q=>(by simp_all),λK q=> .inl ⟨i,rfl⟩⟩
   |cons f r=>
    simp only;have hin:f∈t.fA.al:=by rw [i];exact aP
    obtain ⟨P,L,Q,l,H⟩:=ac4 t f;split
    ·
     rename_i hr;rw [t2];rcases B.A2 g s y with ⟨z,_⟩|⟨z,E,_⟩|⟨z,z',E,z2,z3,z4,z5⟩
     .simp_all
     .simp_all
     .rw [i] at E;cases E;have hne:z'≠f:=λe=>by
       simp_all
      have f6:(t.fA.al.filter λj=>!decide (j=f))=[z']:=by rw [i];simp [hne]
      rw [f6] at l H;rw [ai (by simp)] at H;have hs:oS x.ep.cy.ec.al (gl t ⟨2,f⟩) s.al=oS x.ep.cy.ec.al t s.al:=by
       have e1:wh (gl t ⟨2,f⟩)=wh t:=by unfold wh;rw [l,i];rfl
       unfold oS;rw [l,H,e1,i];simp
      refine R hin ⟨by rw [l];simp,λ_ K q=>?_,λq=>(by simp_all),λ_ q=>(by simp_all),λ_ c' q=>(by simp_all),λ_ K q=> .inr (.inl ⟨z',l,?_⟩)⟩ ?_
      .rw [Q,y] at q;cases q;rw [hs];exact B.Ig g s y
      .simp_all
      .rw [yu (P.trans o) (L.trans g) (by rw [Q];exact y),yu o g y];have hb:r7 (gl t ⟨2,f⟩) s.al.length+1=r7 t s.al.length:=by
        grind [r7]
       grind
    .rename_i hr;have hr:r=[]:=by simpa using hr
     subst hr;have hat:0<=t.jA/\t.jA<=s.al.length/\xt f:=by
      rcases B.A2 g s y with ⟨z,_⟩|⟨z,E,z2,z3,z4⟩|⟨z,z',E,_⟩
      .simp_all
      .simp_all
      simp_all
     have Y:(¬∃ n,t.jA<s.al.length/\iB x.ep.cy.ec.al f (s.al[t.jA.toNat]?.getD [])=some n/\iy n.eM=true)->∀ u,u=(if (jR x.ep.cy.ec.al s.al).2=0/\iy (jR x.ep.cy.ec.al s.al).1=true/\(jR x.ep.cy.ec.al s.al).1≠f then (⟨2,f⟩:iX) else ⟨3,0⟩)->
       j9 (pd x who u)/\(pd x who u).bf.al.length=x.bf.al.length/\nC (pd x who u)<nC x:=by
      rintro hno u rfl;split
      .rename_i hq;rw [t2];obtain ⟨D,F,q3⟩:=hq;obtain ⟨z,e,hz⟩:∃ z e,jR x.ep.cy.ec.al s.al=(z,e):=⟨_,_,rfl⟩;rw [hz] at D F q3;simp only at D F q3;subst D;have f6:(t.fA.al.filter λj=>!decide (j=f))=[]:=by rw [i];simp
       rw [f6] at l H;rw [ak ⟨rfl,g,hwk⟩] at H;refine R hin ⟨by rw [l];decide,λ_ _ _=> .inl (N9 l),λq=>(by simp_all),λ_ _=>l,λ_ _ _=> .inl l,λ_ _ _=> .inl ⟨l,H⟩⟩ ?_;rw [yu (P.trans o) (L.trans g) (by rw [Q];exact y),yu o g y,N9 l];have hst:oS x.ep.cy.ec.al t s.al=1:=by
        unfold oS;rw [ai];rintro (q|q)
        .simp_all
        .have hcur:wh t=f:=by grind [wh]
         rw [hcur] at q;rcases bu t.jA.toNat s.al.length with p|hge
         .have I:s.al=s.al.take t.jA.toNat++s.al[t.jA.toNat]::s.al.drop (t.jA.toNat+1):=by
           rw [<-aY p,bJ]
          have hz2:jz x.ep.cy.ec.al 0 (s.al.take t.jA.toNat++s.al[t.jA.toNat]::s.al.drop (t.jA.toNat+1))=(z,0):=by rw [<-I];exact hz
          obtain ⟨n,n1,n2⟩:=ac5 F _ 0 f hz2 q;grind
         grind
       rw [hst];have hb:r7 (gl t ⟨2,f⟩) s.al.length=2*s.al.length+2:=by grind [r7]
       grind
      simp_all
     split
     .rename_i p;cases w:iB x.ep.cy.ec.al f (s.al[t.jA.toNat]?.getD []) with
      |none=>
       simp_all
      |some n=>
       simp only;split
       .rename_i U;rw [t1];have hu:=Tf hc hat.2.2 w;have hn2:n.eM≠2:=by
         obtain ⟨h1,_,_⟩:=wX w;have:=(S.lq.Q5 n h1).1;omega
        refine tak ?_ ⟨g,λq=>(by simp_all),λc' q=>(by simp_all),λK q=> .inr ⟨f,n,i,?_⟩⟩
        .rw [i,aw];intro e;rw [e] at hu;exact ha f (.uL hu)
        .rw [y] at q;cases q;exact ⟨p.1,p.2,w,rfl,U,hn2⟩
       simp_all
     grind
def kC (x:fb):Prop:=∀ (n:Nat) t,x.bf.al[n]? =some t->t.j8<=x.eL.al.length
theorem kC.Io {x} (h:kC x) (i) {f} (b:∀ t,(f t).j8=t.j8):kC (iC x i f):=λn t e=>by
 have e:(jh x.bf.al i f)[n]? =some t:=e;show t.j8<=x.eL.al.length;rw [DL] at e;split at e
 .cases a:x.bf.al[n]? with
  |none=>simp_all
  |some s=>
   rw [a] at e;cases e;rw [b];exact h n s a
 .exact h n t e
theorem ac9 (t u):(gl t u).j8=t.j8:=by
 grind [gl]
theorem kC.Im {x} (h:kC x) (i u):kC (kA x i u):=h.Io i λt=>ac9 t u
theorem kC.ac7 {x} (h:kC x) (v):kC (lT x v):=h.Io v.ig λt=>ac9 t _
theorem kC.Tt {x} (h:kC x) (i):kC (lK x i):=h.Io i λ_=>rfl
theorem kC.Oj {α:Type} {f} (b:∀ x a,kC x->kC (f x a)):∀ (l:List α) {x:fb},kC x->kC (l.foldl f x)
 |[],_,h=>h
 |a::l,x,h=>kC.Oj b l (b x a h)
theorem kC.aqq {x} (h:kC x) (who):kC (vK x who):=by
 refine kC.Oj (λy n a=>?_) _ h;unfold nW;split
 .exact a
 .split
  .have b:∀ t,kC (iC {y with fg:=t} n kY):=λt=>kC.Io (x:={y with fg:=t}) a _ λ_=>rfl
   generalize l6 y.fg n=r;obtain ⟨t,p⟩:=r;exact kC.Oj (λz v c=>c.ac7 v) _ (b t)
  .exact a
theorem kC.aqp {x} (h:kC x) (who u):kC (od x who u):=by
 unfold od;generalize gA x.ep (mW x who)=r;obtain ⟨m,a,o⟩:=r;simp only;have b:kC (iC {x with ep:=m,eL:=⟨(x.eL.gj o.al).ie,(x.eL.gj o.al).al⟩} who λt=>{t with gu:=a,kf:=x.eZ,j8:=(x.eL.gj o.al).al.length}):=λn t e=>by
  have e:(jh x.bf.al who λt=>{t with gu:=a,kf:=x.eZ,j8:=(x.eL.gj o.al).al.length})[n]? =some t:=e;show t.j8<=((x.eL.gj o.al).al.length:Nat);rw [DL] at e;have l:x.eL.al.length<=(x.eL.gj o.al).al.length:=by
   show _<=(x.eL.al++o.al).length;rw [au];omega
  split at e
  .grind
  .have:=h n t e;omega
 split
 .exact (b.Im who u).aqq who
 .exact b.Im who u
theorem kC.aqs {x} (h:kC x) (who u):kC (pd x who u):=by
 unfold pd;split
 .unfold rM;generalize pc x.fg who u.qI=r;obtain ⟨t,b⟩:=r;have a:kC {x with fg:=t}:=h;simp only;split
  .exact a.Im who u
  .exact a
 split
 .unfold rL;generalize kl x.fg who u.qI=r;obtain ⟨t,b⟩:=r;have a:kC {x with fg:=t}:=h;cases b with
  |none=>exact a.Im who u
  |some m=>exact (a.Im who u).ac7 _
 split
 .exact h.aqp who u
 split
 .unfold sE;generalize yV x.fm who (BP x who)=r;obtain ⟨g,b⟩:=r;have a:kC {x with fm:=g}:=h;simp only;split
  .exact a.Tt who
  .exact a
 split
 .exact (h.Im who u).Io who λ_=>rfl
 .exact h
theorem kC.aqr {x} (h:kC x) (who full):kC (pA x who full):=by
 unfold pA;split
 .have a:kC {x with fm:=⟨x.fm.mC,x.fm.iI.j7 λw=>decide (w.js=who)⟩}:=h;exact (a.Io who (f:=λt=>{t with gu:=iL 120}) λ_=>rfl).Tt who
 .generalize vJ x.fm x.eL.al.length=r;obtain ⟨g,o⟩:=r;have a:kC {x with fm:=g}:=h;exact kC.Oj (λz v b=>b.Tt v) _ a
theorem ac8 {x v}:∀ {l:List ft} {n:Nat},v∈mq x n l->∃ k t,v=((n+k:Nat):Int)/\l[k]? =some t/\oe x (n+k) t=true
 |[],_,h=>by cases h
 |a::l,n,h=>by
  have i:v∈mq x (n+1) l->∃ k t,v=((n+k:Nat):Int)/\(a::l)[k]? =some t/\oe x (n+k) t=true:=λq=>by
   obtain ⟨k,t,b,d,e⟩:=ac8 q;exact ⟨k+1,t,by omega,by simpa using d,by grind⟩
  unfold mq at h;split at h
  .rename_i c;rcases aK.1 h with h|h
   .exact ⟨0,a,by simpa using h,rfl,c⟩
   .exact i h
  .exact i h
theorem aqt (p) {n} (h:0<n):uy p n<n:=by
 unfold uy;have c:-(n:Int)<p.tmod n/\p.tmod n<n:=by
  have f:=cS p (b:=(n:Int)) (by omega);have q:=cS (-p) (b:=(n:Int)) (by omega);rw [Int.neg_tmod] at q;omega
 have d:=cS (p.tmod n+n) (b:=(n:Int)) (by omega);omega
theorem Tu {x} {p:Int} {who:Int} {w:Bool} (h:pB x p=some (who,w)):∃ (n:Nat) (t:ft),who=n/\x.bf.al[n]? =some t/\oe x n t=true/\w=mo x.fm who:=by
 unfold pB at h;cases b:yY x with
 |nil=>simp_all
 |cons a l=>
  rw [b] at h;have c:=aqt p (n:=l.length+1) (by omega);have m:((a::l)[uy p (l.length+1)]?).getD 0∈yY x:=by
   grind
  simp only [aG,dj] at h;obtain ⟨f,d⟩:=h;rw [f] at m d;obtain ⟨k,t,q,g,e⟩:=ac8 m;grind
theorem Ok {T:Nat} {x} (h:j9 x) (o:kM T x.ep) (f:kC x) (p:Int) (full:Bool):kC (nN x p full)/\((pB x p=none/\nN x p full=x)\/(j9 (nN x p full)/\(nN x p full).bf.al.length=x.bf.al.length/\nC (nN x p full)<nC x)):=by
 unfold nN;cases r:pB x p with
 |none=>simp_all
 |some y=>
  obtain ⟨u,w⟩:=y;obtain ⟨n,t,rfl,g,d,m⟩:=Tu r;have k:j9 {x with eZ:=x.eZ+1}:=⟨h.pY,h.wg,h.pn,h.vo⟩;have U:kC {x with eZ:=x.eZ+1}:=f;simp only;cases w with
  |true=>
   rw [ak rfl];obtain ⟨a,b,c⟩:=aqf (x:={x with eZ:=x.eZ+1}) k m.symm full;exact ⟨U.aqr _ _, .inr ⟨a,b,c⟩⟩
  |false=>
   rw [ai (by decide)];have i:w6 x n=oO x.ep.cy.ec.al t:=by grind [w6]
   rw [i];have l:t.gS=false/\m6 x.fg n=false:=by
    unfold oe at d;cases e:t.gS with
    |true=>simp_all
    |false=>
     rw [e,ai (by decide)] at d;refine ⟨rfl,?_⟩;cases j:m6 x.fg n with
     |false=>rfl
     |true=>
      exfalso;rw [ak] at d
      .cases d
      .unfold yX;rw [eA,dM];obtain ⟨v,s,q⟩:=bD.1 j;exact ⟨v,s,q⟩
   obtain ⟨a,b,c⟩:=aqo (x:={x with eZ:=x.eZ+1}) k o g (f n t g) l.1 l.2 m.symm;exact ⟨U.aqs _ _, .inr ⟨a,b,c⟩⟩
theorem aqv {p s} (h:GR p=some s):s.al.length<=16:=by
 unfold GR at h;split at h
 .cases h
 .cases h;exact ar _
 .rename_i n _ a;cases h;show n.length<=16;unfold kV at a;grind [CS]
theorem aqw {c n} (h:jd c= .ml n):n.al.length<=16:=by
 have k:∀ b,Ar c b= .ml n->n.al.length<=16:=λb q=>by
  unfold Ar at q;cases a:GR c.fR with
  |none=>rw [a] at q;cases q;exact ar _
  |some s=>
   rw [a] at q;have l:=aqv a;simp only at q;split at q
   .cases q;exact l
   .split at q
    .cases q;exact l
    .cases q;show s.al.dropLast.length<=16;grind
 grind [jd]
theorem Ol {α:Type} {p}:∀ {l:List α} {i:Nat} {a:α},l[i]? =some a->p a=false->l.countP p+1<=l.length
 |[],i,a,h,_=>by simp at h
 |b::l,0,a,h,q=>by
  grind
 |b::l,i+1,a,h,q=>by
  have:=Ol (l:=l) (i:=i) (by simpa using h) q;grind
theorem ada {α:Type} {p}:∀ {l:List α} {i j:Nat} {a b:α},l[i]? =some a->p a=false->l[j]? =some b->p b=false->i≠j->l.countP p+2<=l.length
 |[],i,_,a,_,h,_,_,_,_=>by simp at h
 |c::l,0,0,_,_,_,_,_,_,e=>absurd rfl e
 |c::l,0,j+1,a,b,h,q,d,f,_=>by
  have:c=a:=by simpa using h
  subst this;have:=Ol (l:=l) (i:=j) (by simpa using d) f;simp_all
 |c::l,i+1,0,a,b,h,q,d,f,_=>by
  have:c=b:=by simpa using d
  subst this;have:=Ol (l:=l) (i:=i) (by simpa using h) q;simp_all
 |c::l,i+1,j+1,a,b,h,q,d,f,e=>by
  have:=ada (l:=l) (i:=i) (j:=j) (by simpa using h) q (by simpa using d) f (by omega);grind
theorem adg {f M}:∀ {l:List Nat},(∀ i∈l,f i<=M)->(l.map f).sum<=M*l.length
 |[],_=>by simp
 |a::l,h=>by
  have c:=adg (f:=f) (M:=M) (l:=l) λi b=>h i (aQ _ b)
  grind [Nat.mul_succ]
theorem aqu {x} (h:j9 x):nC x<=45*x.bf.al.length*x.bf.al.length:=by
 have r:∀ i∈List.range x.bf.al.length,mF x i<=45*x.bf.al.length:=λi g=>by
  have g:=dS.1 g;have b:=aj g;unfold mF;rw [b];simp only;have f:=h.pn i _ b;generalize x.bf.al[i]=t at*;cases a:t.gS with
  |true=>grind [Ih]
  |false=>
   have w:=f.Ft;cases d:t.g8 with
   |true=>
    grind [yt]
   |false=>
    cases y:jd t.fx with
    |pR=>grind [acE]
    |nf c=>grind [N8]
    |ml n=>
     rw [yu a d y];have L:=aqw y;have r:r7 t n.al.length<=2*n.al.length+2:=by grind [r7]
     have u:(mO t && !t.g8)=false:=by grind [mO]
     have K:mb x.bf.al+oS x.ep.cy.ec.al t n.al+1<=x.bf.al.length:=by
      rcases f.Ig d n y with q|⟨m,s,k,A,o⟩
      .rw [q];exact Ol (p:=λt=>mO t && !t.g8) b u
      .have z:=Ti (l:=x.ep.cy.ec.al) (t:=t) n.al;have j:i≠m:=λe=>by
        simp_all
       have:=ada (p:=λt=>mO t && !t.g8) b u k (by rw [o];simp) j;grind [mb]
     generalize mb x.bf.al+oS x.ep.cy.ec.al t n.al=Q at*;have v:(2*n.al.length+4)*Q<=36*Q:=bI _ (by omega);omega
 have:=adg r;rw [List.length_range] at this;exact this
theorem KV (d p):(rY d p).eG=d.eG/\pB d.eG p=none\/∃ full,(rY d p).eG=nN d.eG p full:=by
 unfold rY;grind
theorem adb {x p} (h:yY x≠[]):pB x p≠none:=by
 grind [pB]
theorem ade:∀ (k i:Nat) (p:Int) {T:Nat} {d:iQ},j9 d.eG->kC d.eG->iJ T d->nC d.eG<=k->j9 (rX p k i d).eG/\kC (rX p k i d).eG/\iJ (T+2*k) (rX p k i d)/\vL (rX p k i d).eG=true/\(rX p k i d).eG.bf.al.length=d.eG.bf.al.length
 |0,i,p,T,d,h,U,D,hk=>by
  refine ⟨h,U,D,?_,rfl⟩;show vL d.eG=true;cases g:vL d.eG with
  |true=>rfl
  |false=>
   exfalso;have f:=h.acB D.kO.kI.lq.qK.zc D.kO.kI.lq.S7 g;obtain ⟨_,q|⟨_,_,q⟩⟩:=Ok h D.kO.kI U 0 false
   .exact adb f q.1
   .omega
 |k+1,i,p,T,d,h,U,D,hk=>by
  unfold rX;cases g:vL d.eG with
  |true=>rw [ak rfl];exact ⟨h,U,D.rZ (by omega),g,rfl⟩
  |false=>
   rw [ai (by decide)];have f:=h.acB D.kO.kI.lq.qK.zc D.kO.kI.lq.S7 g;have j:=Ky D (p+(i % 7:Nat));have y:j9 (rY d (p+(i % 7:Nat))).eG/\kC (rY d (p+(i % 7:Nat))).eG/\(rY d (p+(i % 7:Nat))).eG.bf.al.length=d.eG.bf.al.length/\nC (rY d (p+(i % 7:Nat))).eG<=k:=by
    grind [KV,adb,Ok,D.kO.kI]
   obtain ⟨l,m,n,o⟩:=y;obtain ⟨r,s,t,v,w⟩:=ade k (i+1) p l m j o;grind
theorem adf {T d} (h:j9 d.eG) (U:kC d.eG) (D:iJ T d) (p):j9 (sQ d p).eG/\kC (sQ d p).eG/\iJ (T+2*(45*d.eG.bf.al.length*d.eG.bf.al.length)) (sQ d p)/\vL (sQ d p).eG=true/\(sQ d p).eG.bf.al.length=d.eG.bf.al.length:=
 ade _ 0 p h U D (aqu h)
theorem Om {x} (a:x.bf.al=[]) (c:x.fg.iV.al=[]) (b:x.fg.fH.al=[]) (f:x.fm.iI.al=[]):j9 x/\kC x:=by
 have H:∀ n,mA x.bf.al n=[]:=λn=>by grind [mA]
 refine ⟨⟨⟨λk n=>(by rw [c,H];simp),(by rw [c];exact cW),λn=>(by rw [H];exact cW),(by rw [b];exact cW),λw h=>(by simp_all)⟩,λw h=>(by simp_all),λn t e=>(by simp_all),λg d=>(by simp_all)⟩,λn t e=>(by simp_all)⟩
theorem adi {x} (h:j9 x) (U:kC x) (c):j9 (pC x c).1/\kC (pC x c).1:=by
 unfold pC;split
 .exact ⟨h,U⟩
 .have a:∀ (n:Nat) t,(x.bf.al++[w4 c (x.eZ+1)])[n]? =some t->x.bf.al[n]? =some t\/(n=x.bf.al.length/\t=w4 c (x.eZ+1)):=λn t e=>by
   grind
  have o:∀ (n:Nat) t,x.bf.al[n]? =some t->(x.bf.al++[w4 c (x.eZ+1)])[n]? =some t:=λn t e=>by
   grind
  have H:mA (x.bf.al++[w4 c (x.eZ+1)])=mA x.bf.al:=by
   funext m;unfold mA;split
   .rfl
   .cases e:(x.bf.al++[w4 c (x.eZ+1)])[m.toNat]? with
    |none=>
     grind
    |some t=>
     rcases a _ t e with q|⟨b,d⟩
     .rw [q]
     .rw [b,bs (aq _),d];rfl
  refine ⟨⟨by show oC x.fg (mA (x.bf.al++_));rw [H];exact h.pY,λw k=>?_,λn t e=>?_,λg j=>?_⟩,λn t e=>?_⟩
  .obtain ⟨n,t,b,d,i⟩:=h.wg w k;exact ⟨n,t,b,o n t d,i⟩
  .rcases a n t e with q|⟨_,rfl⟩
   .refine (h.pn n t q).KN ?_;rintro ⟨m,s,b,d⟩;exact ⟨m,s,o m s b,d⟩
   .exact ⟨ar _,λ_ _ _=> .inl (N9 rfl),λq=>(by cases q),λ_ _=>rfl,λ_ _ _=> .inl rfl,λ_ _ _=> .inl ⟨rfl,rfl⟩⟩
  .obtain ⟨n,t,b,d,i⟩:=h.vo g j;exact ⟨n,t,b,o n t d,i⟩
  .rcases a n t e with q|⟨_,rfl⟩
   .exact U n t q
   .show (0:Int)<=_;omega
theorem aqy {r}:j9 (nJ r).1/\kC (nJ r).1:=by
 unfold nJ;generalize rJ r=y;obtain ⟨m,e⟩:=y;simp only;split
 .exact Om rfl rfl rfl rfl
 .exact Om rfl rfl rfl rfl
theorem aqx {T d} (h:j9 d.eG) (U:kC d.eG) (p:iJ T d) (o):j9 (rn d o).1.eG/\kC (rn d o).1.eG:=by
 unfold rn;split
 .have t:=adi h U o.nn;show j9 (mz d o.nn).1.eG/\kC (mz d o.nn).1.eG;unfold mz;grind
 split
 .show j9 (rY d o.ym).eG/\kC (rY d o.ym).eG;rcases KV d o.ym with ⟨q,_⟩|⟨u,q⟩
  .simp_all
  .rw [q];obtain ⟨a,⟨_,b⟩|⟨b,_⟩⟩:=Ok h p.kO.kI U o.ym u
   .simp_all
   .exact ⟨b,a⟩
 split
 .unfold zB;grind
 split
 .unfold zA;have k:∀ D,j9 (vk d.eG.ep.ky D).1.eG/\kC (vk d.eG.ep.ky D).1.eG:=λD=>by
   unfold vk;have f:j9 Dx.eG/\kC Dx.eG:=Om rfl rfl rfl rfl;have r:∀ c e,nJ d.eG.ep.ky=(c,e)->e=0->c.bf.al=[]/\c.fg.iV.al=[]/\c.fg.fH.al=[]/\c.fm.iI.al=[]:=λc e q _=>by
    unfold nJ at q;generalize rJ d.eG.ep.ky=y at q;obtain ⟨m,v⟩:=y;simp only at q;split at q
    .simp_all
    .cases q;exact ⟨rfl,rfl,rfl,rfl⟩
   generalize nJ d.eG.ep.ky=y at*;grind [Om,SA]
  grind
 .exact ⟨h,U⟩
theorem adh:∀ (l:List my) {T:Nat} {d:iQ},j9 d.eG->kC d.eG->iJ T d->(∀ o∈l,wa o)->j9 (rm d l).eG/\kC (rm d l).eG
 |[],_,_,h,U,_,_=>⟨h,U⟩
 |o::l,T,d,h,U,D,c=>by
  obtain ⟨a,b⟩:=aqx h U D o;exact adh l a b (Kx D (c o aP)) λp e=>c p (aQ _ e)
end Gw
