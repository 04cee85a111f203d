import Derived.Test.YtffboamedcmpaaaGreatDoorCo
set_option linter.all false
set_option maxHeartbeats 4000000
set_option maxRecDepth 100000
namespace Gw
def ig (x:aV):List bu:=x.aq.ab.map (·.dN)
theorem ahi {f:cd->cd} (hf:∀ t,(f t).dN=t.dN) (l:List cd) (n:Nat):(l.modify n f).map (·.dN)=l.map (·.dN):=by
 induction l generalizing n with
 |nil=>simp_all
 |cons t l ih=>
  grind
theorem B0 (x:aV) (n:Int) (f:cd->cd) (hf:∀ t,(f t).dN=t.dN):ig (gy x n f)=ig x:=by
 show (gA x.aq.ab n f).map (·.dN)=_;unfold gA;split
 ·rfl
 ·exact ahi hf _ _
theorem WB (u:dt) (t:cd):(nJ t u).dN=t.dN:=by
 grind [nJ]
theorem GS (x:aV) (who:Int) (u:dt):ig (jT x who u)=ig x:=B0 x who _ λt=>WB u t
theorem WG (x:aV) (h:bX):ig (jE x h)=ig x:=B0 x _ _ λt=>WB _ t
theorem OD (x:aV) (n:Int):ig (kD x n)=ig x:=B0 x n _ λ_=>rfl
theorem J8 {α:Type} {f:aV->α->aV} (hf:∀ x a,ig (f x a)=ig x):∀ (l:List α) (x:aV),ig (l.foldl f x)=ig x
 |[],_=>rfl
 |a::l,x=>(J8 hf l (f x a)).trans (hf x a)
theorem WJ (x:aV) (who:Int) (u:dt):ig (yB x who u)=ig x:=by
 unfold yB;split;split
 ·exact GS _ who u
 ·rfl
theorem WE (x:aV) (who:Int) (u:dt):ig (yA x who u)=ig x:=by
 unfold yA;split
 ·exact GS _ who u
 ·exact (WG _ _).trans (GS _ who u)
theorem ahf (who:Int) (x:aV) (n:Nat):ig (ln who x n)=ig x:=by
 unfold ln;split
 ·rfl
 ·split
  ·split;rename_i tb p _;exact (J8 WG p.ab (gy {x with cM:=tb} n i6)).trans (B0 {x with cM:=tb} n i6 λ_=>rfl)
  ·rfl
theorem ahe (x:aV) (who:Int):ig (yz x who)=ig x:=J8 (ahf who) _ x
theorem WD (x:aV) (who:Int) (u:dt):ig (vr x who u)=ig x:=by
 unfold vr;split;rename_i m a ops _;have e:ig (jT (gy {x with br:=m,bG:=⟨(x.bG.eI ops.ab).dI,(x.bG.eI ops.ab).ab⟩} who λt=>{t with dT:=a,lh:=x.ca,ua:=(x.bG.eI ops.ab).ab.length}) who u)=ig x:=
  (GS _ who u).trans (B0 {x with br:=m,bG:=⟨(x.bG.eI ops.ab).dI,(x.bG.eI ops.ab).ab⟩} who _ λ_=>rfl)
 grind [ahe]
theorem WK (x:aV) (who:Int):ig (vu x who)=ig x:=by
 unfold vu;split;split
 ·exact OD _ who
 ·rfl
theorem WI (x:aV) (who:Int) (u:dt):ig (Gu x who u)=ig x:=(B0 (jT x who u) who (λt=>{t with pW:=x.ca}) λ_=>rfl).trans (GS x who u)
theorem WH (x:aV) (who:Int) (full:Bool):ig (qH x who full)=ig x:=by
 unfold qH;split
 ·exact (OD _ who).trans (B0 _ who _ λ_=>rfl)
 ·split;exact J8 OD _ _
theorem ahg (x:aV) (p:Int) (full:Bool):ig (pX x p full)=ig x:=by
 unfold pX;split
 ·rfl
 ·split
  ·exact WH _ _ _
  ·unfold BH;split
   ·exact WJ _ _ _
   split
   ·exact WE _ _ _
   split
   ·exact WD _ _ _
   split
   ·exact WK _ _
   split
   ·exact WI _ _ _
   ·rfl
structure kV (r:Int) (N:Nat) (x:aV):Prop where
 Ai:∀ c∈ig x,c.dD≠13
 Aj:x.br.iH=r
 yT:∀ o∈du x.br.aA,o.aT.dS=r
 vJ:x.br.aA.b8.ab.length=x.bG.ab.length
 yS:x.bG.ab.length<=N
theorem kV.OC {r:Int} {N:Nat} {x y:aV} (h:kV r N x) (k:rM x y) (hc:ig y=ig x):kV r N y:=
 ⟨by rw [hc];exact h.Ai,by rw [k.Aa];exact h.Aj,by rw [k.Aa];exact h.yT,by rw [k.Aa,k.Ab];exact h.vJ,by rw [k.Ab];exact h.yS⟩
theorem ahd {r:Int} {N:Nat} {x:aV} (h:kV r N x) (who:Int):(lK x who).dD≠13:=by
 unfold lK;split
 ·rename_i t ht;exact h.Ai _ (List.mem_map.2 ⟨t,List.mem_of_getElem? ht,rfl⟩)
 ·decide
theorem ahh (x:aV) (who:Int) (full:Bool):(qH x who full).br=x.br/\(qH x who full).bG=x.bG:=by
 unfold qH;split
 ·trivial
 ·split;rename_i g gone _;have:=GO (f:=kD) (λx n=>uw x _ _) gone.ab {x with dy:=g};exact ⟨this.Aa,this.Ab⟩
theorem ag9 {T:Nat} {r:Int} {N:Nat} {x:aV} (ho:eN T x) (h:kV r N x) (who:Int) (u:dt):kV r (N+1) (vr x who u):=by
 have hk:=ahd h who;have hd:=Eg ho.jb (lK x who);have ha:=afZ x.br (lK x who) hk;have hca:=WD x who u;have hm:(vr x who u).br=(dR x.br (lK x who)).1/\(vr x who u).bG.ab=x.bG.ab++(dR x.br (lK x who)).2.2.ab:=by
  unfold vr;generalize dR x.br (lK x who)=y at*;obtain ⟨m,a,ops⟩:=y;dsimp only;rw [if_neg λq=>hk q.1];trivial
 obtain ⟨m1,m2⟩:=hm;have hcnt:=hd.BS.Ee;have hmem:=hd.BS.xf;have hrep:=hd.age;have hN:=h.yS;have hC:=h.vJ;have hops:∀ o∈(dR x.br (lK x who)).2.2.ab,o.aT.dS=r:=λo hoo=>by
  cases ha with
  |Ed _ _ _ ops=>simp_all
  |N3 p at_ _ _ _ _ _ ops=>
   grind [h.Aj]
 have hlen:(dR x.br (lK x who)).2.2.ab.length<=1:=by
  cases ha with
  |Ed _ _ _ ops=>simp_all
  |N3 p _ _ _ _ _ _ ops=>simp_all
 refine ⟨by grind [h.Ai],by grind [h.Aj],λo hoo=>?_,?_,?_⟩
 ·rw [m1] at hoo;rcases (hmem o).1 hoo with q|q
  ·exact h.yT o q
  ·exact hops o q
 ·simp_all
 grind
theorem kV.uy {r:Int} {N:Nat} {x:aV} (h:kV r N x):kV r (N+1) x:=⟨h.Ai,h.Aj,h.yT,h.vJ,Nat.le_succ_of_le h.yS⟩
theorem ahc {T:Nat} {r:Int} {N:Nat} {x:aV} (ho:eN T x) (h:kV r N x) (p:Int) (full:Bool):kV r (N+1) (pX x p full):=by
 have h0:kV r N {x with ca:=x.ca+1}:=⟨h.Ai,h.Aj,h.yT,h.vJ,h.yS⟩;have ht:=ho.p9;have hl:=ho.rL;have ho0:eN (T+1) {x with ca:=x.ca+1}:=⟨hl.jb,hl.gC.yL rfl rfl,hl.p8,⟨by grind,by simp_all⟩,hl.sS,hl.sR,hl.uv⟩;unfold pX;split
 ·exact h.uy
 ·rename_i who waits _;split
  ·obtain ⟨k1,k2⟩:=ahh {x with ca:=x.ca+1} who full;have k3:=WH {x with ca:=x.ca+1} who full;exact (show kV r N (qH {x with ca:=x.ca+1} who full) from ⟨by rw [k3];exact h0.Ai,by rw [k1];exact h0.Aj,by rw [k1];exact h0.yT,by grind [h0.vJ],by rw [k2];exact h0.yS⟩).uy
  ·unfold BH;split
   ·exact (h0.OC (Wb _ _ _) (WJ _ _ _)).uy
   split
   ·exact (h0.OC (Wa _ _ _) (WE _ _ _)).uy
   split
   ·grind [ag9]
   split
   ·have hw:kV r N (vu {x with ca:=x.ca+1} who):=by
     have hc:=WK {x with ca:=x.ca+1} who;have hm:(vu {x with ca:=x.ca+1} who).br=x.br/\(vu {x with ca:=x.ca+1} who).bG=x.bG:=by
      unfold vu;split;split
      ·trivial
      trivial
     exact ⟨by rw [hc];exact h0.Ai,by grind [h.Aj],by grind [h.yT],by grind [h.vJ],by grind [h.yS]⟩
    exact hw.uy
   split
   ·exact (h0.OC ((uw _ _ _).Ej (uw _ _ _)) (WI _ _ _)).uy
   ·exact h0.uy
theorem ahb {r:Int} {N:Nat} {x:aV} (h:kV r N x) {c:bu} (hc:c.dD≠13):kV r N (qJ x c).1:=by
 unfold qJ;split
 ·exact h
 ·refine ⟨λd hd=>?_,h.Aj,h.yT,h.vJ,h.yS⟩;have hd:d∈(x.aq.ab++[Gt c (x.ca+1)]).map (·.dN):=hd;rw [List.map_append,List.mem_append] at hd;rcases hd with hd|hd
  ·exact h.Ai d hd
  ·rw [List.map_singleton,List.mem_singleton] at hd;rw [hd];exact hc
theorem aha {r:Int} (h:(oD r).2=0):kV r 0 (oD r).1:=by
 unfold oD rF at*
 by_cases hr:r<0\/63<r
 ·simp_all
 ·rw [if_neg hr];exact ⟨λc hc=>(by cases hc),rfl,λo ho=>(by cases ho),rfl,Nat.le_refl _⟩
theorem ahj {T:Nat} {r:Int} {N:Nat} {d:dF} (hd:dZ T d) (h:kV r N d.bL) {o:jF} (h1:o.kU.dD≠13) (h2:o.qN≠4):kV r (N+1) (sV d o).1.bL:=by
 unfold sV;split
 ·have:=ahb h h1;unfold qd;generalize qJ d.bL o.kU=y at*;grind [h.uy,this.uy]
 split
 ·have:=λf=>ahc hd.jU h o.GP f
  grind [Ah,h.uy]
 grind [Ae,h.uy]
def px (d:dF) (o:jF):dF:=if o.kU.dD≠13/\o.qN≠4 then (sV d o).1 else d
theorem OE:∀ (l:List jF) {T N:Nat} {r:Int} {d:dF},dZ T d->kV r N d.bL->(∀ o∈l,vI o)->dZ (T+2*l.length) (l.foldl px d)/\kV r (N+l.length) (l.foldl px d).bL
 |[],_,_,_,_,h,k,_=>⟨h,k⟩
 |o::l,T,N,r,d,h,k,ho=>by
  have h1:dZ (T+2) (px d o):=by
   unfold px;split
   ·grind [GR]
   ·exact h.nP om
  have h2:kV r (N+1) (px d o).bL:=by
   grind [px,ahj,k.uy]
  obtain ⟨a,b⟩:=OE l h1 h2 λp hp=>ho p (List.mem_cons_of_mem _ hp)
  grind
def lO (b:List UInt8):bu:=⟨13,[],[],b,0⟩
theorem WM {l:List aH} (h:kQ l):l.Pairwise xe:=h.imp fun {a b} hab=>λq=>by
 grind [jQ]
theorem WL {T:Nat} {m:bM} (h:ji T m) {l:List aH} (hl:kQ l) (hc:l.all cJ=true) (hn:∀ o∈l,kg m.aA o.aT=false) (hf:m.aA.b8.ab.length+l.length<=200) (hs:(l.flatMap dM).length<=4000):
  (dR m (lO (l.flatMap dM))).2.1.vk=0/\(dR m (lO (l.flatMap dM))).2.1.qF=l.length/\pt m.aA (dR m (lO (l.flatMap dM))).1.aA l:=by
 have hck:yt (lO (l.flatMap dM))=true:=by
  grind [yt,lO,vg,Gl,BB]
 have hfr:=VQ (g:=m.aA) l (m.eC, .dE) hn (WM hl);have hfr:(l.foldl (i7 m.aA) (m.eC, .dE)).2.ab=l:=hfr;have hck2:=List.all_eq_true.1 hc;obtain ⟨g,e1,e2,e3⟩:=Od l (fi m (lO (l.flatMap dM))) h.ja h.xg (λo ho=>⟨hck2 o ho,hn o ho⟩) (WM hl) hf;have hM:∃ D,sK (fi m (lO (l.flatMap dM)))=(D,0)/\D.gj.vk=0/\D.gj.qF=l.length/\D.bp.aA=g:=by
  grind [sK,fi,lO,afM,fg]
 obtain ⟨D,d1,d2,d3,d4⟩:=hM;unfold dR;rw [if_neg (by rw [hck];decide)];rw [show DV (lO (l.flatMap dM)).dD=some sK from rfl];dsimp only;rw [show (⟨m,fg 0,lO (l.flatMap dM),cj.dE⟩:dj)=fi m (lO (l.flatMap dM)) from rfl,d1];dsimp only;rw [if_neg dd];have e3:pt m.aA g l:=e3;split
 ·simp_all
 ·exact ⟨d2,d3,by show pt m.aA D.bp.aA l;rw [d4];exact e3⟩
theorem ahk {T U:Nat} {x y:aV} {r s:Int} {N M:Nat} (hx:eN T x) (hy:eN U y) (ax:kV r N x) (ay:kV s M y) (hrs:r≠s) (hNM:N+M<=200) (h1:((du x.br.aA).flatMap dM).length<=4000) (h2:((du y.br.aA).flatMap dM).length<=4000):
  (dR x.br (lO ((du y.br.aA).flatMap dM))).2.1.vk=0/\(dR y.br (lO ((du x.br.aA).flatMap dM))).2.1.vk=0/\
  (dR x.br (lO ((du y.br.aA).flatMap dM))).2.1.qF=y.bG.ab.length/\(dR y.br (lO ((du x.br.aA).flatMap dM))).2.1.qF=x.bG.ab.length/\
  (dR x.br (lO ((du y.br.aA).flatMap dM))).1.aA.aQ.ab=(dR y.br (lO ((du x.br.aA).flatMap dM))).1.aA.aQ.ab:=by
 have cx:(du x.br.aA).all cJ=true:=List.all_eq_true.2 λo ho=>by
  obtain ⟨e,he,rfl⟩:=List.mem_map.1 ho;exact hx.jb.ja.xd e he
 have cy:(du y.br.aA).all cJ=true:=List.all_eq_true.2 λo ho=>by
  obtain ⟨e,he,rfl⟩:=List.mem_map.1 ho;exact hy.jb.ja.xd e he
 have lx:(du x.br.aA).length=x.bG.ab.length:=by grind [du,ax.vJ]
 have ly:(du y.br.aA).length=y.bG.ab.length:=by grind [du,ay.vJ]
 have fx:=ax.yS;have fy:=ay.yS;have kx:=ax.vJ;have ky:=ay.vJ;have nx:∀ o∈du y.br.aA,kg x.br.aA o.aT=false:=λo ho=>by
  rw [Bool.eq_false_iff];intro q;obtain ⟨f,hf,_,e⟩:=Ec.1 q;rw [ax.yT f hf,ay.yT o ho] at e;exact hrs e
 have ny:∀ o∈du x.br.aA,kg y.br.aA o.aT=false:=λo ho=>by
  grind [Ec]
 obtain ⟨a1,a2,a3⟩:=WL hx.jb hy.jb.xg cy nx om h2;obtain ⟨b1,b2,b3⟩:=WL hy.jb hx.jb.xg cx ny om h1;grind [afR,a3.z7.xc,b3.z7.xc,a3.BR,b3.BR,a3.xf,b3.xf]
end Gw
namespace Go.Proofs.YtffboamedcmpaaaGreatDoor
open Gw
open Go.Am
theorem GU {o:aH} (h:cJ o=true):lZ o:=by
 obtain ⟨h1,h2⟩:=NV h;obtain ⟨_,_,_,h4,h5⟩:=Di h;exact ⟨⟨om,om⟩,⟨om,om⟩,om,om⟩
theorem ahm {g:eh} (h:iy g):xb 100000 g.aQ.ab:=
 ⟨λn hn=>by have:=h.Vs n hn;exact ⟨om,om⟩,Nat.le_trans h.BP dd⟩
theorem OF {g:eh} (h:iy g) (o:aH) (hf:lZ o):aC Tryz.prog 215 [rG g,mV o] (.aw [rG (eF g o).1, .aa .i64 (eF g o).2]):=
 afD g o hf (λe he=>GU (h.xd e he)) (Nat.le_trans h.qL dd) (ahm h)
theorem ahn {g:eh} (h:iy g):aC Tryz.prog 225 [rG g] (rG g):=
 Vr g (Nat.le_trans h.qL dd) (Nat.le_trans h.BP dd)
theorem ahl {g:eh} (h:iy g) (nil:Bool) (l:List aH) (hf:∀ o∈l,lZ o) (hl:l.length<=100000):aC Tryz.prog 178 [rG g, .ag nil 7 (l.map cI) .av] (.aw [rG (DS g l).1, .aa .i64 (DS g l).2]):=by
 have hll:(l.map cI).length=l.length:=List.length_map _;have hsm:=ahn h;unfold DS;refine bK Tryz.func178 ?_;refine ak ?_;refine db.cK (X:=Nat×eh×Nat) (λx=>[(.aj 4, .ah (.ar 1 0)),(.af 1, .au 27 [.ag true 1 [] .bR, .ag true 1 [] .bR]),(.aj 6, .ah (.ar 4 0)),(.af 4, .au 27 (UX x.2.1)),(.aj 7, .ah (.aa .i64 x.2.2)),(.aj 13, .ah (.ag nil 7 (l.map cI) .av)),(.aj 14, .ah (.aa .i64 l.length)),(.aj 15, .ah (.aa .i64 x.1))]) 5
  (λx=>x.1<=l.length/\iy x.2.1/\x.2.2<=x.1/\(l.take x.1).foldl (λx o=>((eF x.1 o).1,if (eF x.1 o).2≠0 then x.2+1 else x.2)) (g,(0:Int))=(x.2.1,(x.2.2:Int))) (λx=>l.length - x.1) dd (0,g,0) ⟨Nat.zero_le _,h,Nat.le_refl _,rfl⟩ ⟨rfl,rfl,rfl,rfl,rfl,rfl,rfl,rfl,rfl,rfl,rfl,rfl,?_,rfl,rfl,rfl,trivial⟩ ?_
 ·show bs.ah (ae.aa .i64 ((l.map cI).length:Nat))=_;rw [hll]
 rintro ⟨k,x,c⟩ ⟨hk,hx,hc,hfold⟩;dsimp only at hk hx hc hfold ⊢;refine cn ?_;refine ⟨λh=>?_,λh=>?_⟩
 ·have h:=of_decide_eq_true h;have hlt:k<l.length:=om;have hg:=lN cI hlt;have hadd:=OF hx l[k] (hf _ (List.getElem_mem hlt));have hxa:=hx.Ea l[k];have htk:l.take (k+1)=l.take k++[l[k]]:=List.take_succ_eq_append_getElem hlt;have w0:IntKind.i64.wrap ((k:Int)+1)=((k+1:Nat):Int):=by grind [bj]
  have w1:IntKind.i64.wrap ((c:Int)+1)=((c+1:Nat):Int):=by grind [bj]
  generalize l[k]=o at*;refine ak ?_;have hstep:(l.take (k+1)).foldl (λx o=>((eF x.1 o).1,if (eF x.1 o).2≠0 then x.2+1 else x.2)) (g,(0:Int))=((eF x o).1,if (eF x o).2≠0 then (c:Int)+1 else c):=by simp_all
  generalize eF x o=r at*;obtain ⟨y,e⟩:=r;dsimp only at hstep hxa ⊢
  conv=>whnf
  refine ⟨λh=>?_,λh=>?_⟩
  ·have h:¬e=0:=by simpa using h
   rw [if_pos h] at hstep
   conv=>whnf
   refine ⟨(k+1,y,c+1),⟨om,hxa,by simp_all,hstep⟩,by grind,rfl,rfl,rfl,rfl,rfl,rfl,rfl,rfl,?_,rfl,rfl,rfl,rfl,rfl,?_,rfl,trivial⟩
   ·exact dh
   ·exact dh
  ·have h:e=0:=by simpa using h
   rw [if_neg (λq=>q h)] at hstep
   conv=>whnf
   refine ⟨(k+1,y,c),⟨om,hxa,by grind,hstep⟩,by grind,rfl,rfl,rfl,rfl,rfl,rfl,rfl,rfl,rfl,rfl,rfl,rfl,rfl,rfl,?_,rfl,trivial⟩;exact dh
 ·have h:=of_decide_eq_false h;obtain rfl:k=l.length:=om;rw [List.take_length] at hfold;rw [hfold];exact bm
def aho:Nt->ae
 | .zP=> .cm 376 (.aK [])
 | .yx c=> .cm 380 (.aK [.aa .i64 c.dD, .ai c.bY, .ai c.fO, .ai c.ia, .aa .i64 c.cR])
 | .sC s=> .cm 378 (.aK [cv 1 jv s])
theorem OG (c:bu) (hp:c.bY.length<=1048576):aC Tryz.prog 197 [tX c] (aho (sF c)):=by
 obtain ⟨kind,path,to,data,n⟩:=c;have hsp:=DC path hp;unfold sF zQ Nu;dsimp only
 by_cases h4:kind=4
 ·subst h4;rw [if_pos rfl];refine cU Tryz.func197 ?_;refine cC ?_;refine ⟨λh=>?_,λh=>?_⟩
  ·have h:¬n=0:=by simpa using h
   rw [if_neg h]
   conv=>whnf
   exact .j9 (kz (cs:=[]) rfl)
  ·have h:n=0:=by simpa using h
   rw [if_pos h];refine cC ?_;cases hp:ir path with
   |none=>
    refine cC ?_;exact .j9 (kz (cs:=[.ag true 1 [] .bR]) rfl)
   |some l=>
    cases l with
    |nil=>
     refine cC ?_;exact .j9 (kz (cs:=[.ag true 1 [] .av]) rfl)
    |cons a r=>
     have hl:(fN (a::r)).length=r.length+1:=by rw [wS];rfl
     have h16:r.length+1<=16:=by grind [vb]
     have htk:(fN (a::r)).take r.length=((a::r).dropLast).map jv:=by rw [List.dropLast_eq_take];show ((a::r).map _).take _=_;rw [<-List.map_take];rfl
     have w1:IntKind.i64.wrap (((fN (a::r)).length:Int) - 1)=(r.length:Int):=by grind [bj]
     refine cC ?_;refine ⟨λ_=>?_,λh=>absurd (of_decide_eq_false h) (by rw [hl];omega)⟩
     conv=>whnf
     rw [w1];refine cC ?_;rw [Int.toNat_natCast,htk];exact .j9 (kz (cs:=[.ag false 1 (((a::r).dropLast).map jv) .av]) rfl)
 rw [if_neg h4]
 by_cases h7:kind=7
 ·subst h7;rw [if_pos rfl];refine cU Tryz.func197 ?_;refine cC ?_;refine ⟨λh=>?_,λh=>?_⟩
  ·have h:¬n=0:=by simpa using h
   rw [if_neg h]
   conv=>whnf
   exact .j9 (kz (cs:=[]) rfl)
  ·have h:n=0:=by simpa using h
   rw [if_pos h];refine cC ?_;cases hp:ir path with
   |none=>
    refine cC ?_;exact .j9 (kz (cs:=[.ag true 1 [] .bR]) rfl)
   |some l=>
    cases l with
    |nil=>
     refine cC ?_;exact .j9 (kz (cs:=[.ag true 1 [] .av]) rfl)
    |cons a r=>
     have hl:(fN (a::r)).length=r.length+1:=by rw [wS];rfl
     have h16:r.length+1<=16:=by grind [vb]
     have htk:(fN (a::r)).take r.length=((a::r).dropLast).map jv:=by rw [List.dropLast_eq_take];show ((a::r).map _).take _=_;rw [<-List.map_take];rfl
     have w1:IntKind.i64.wrap (((fN (a::r)).length:Int) - 1)=(r.length:Int):=by grind [bj]
     refine cC ?_;exact .j9 (kz (cs:=[.ag false 1 (fN (a::r)) .av]) rfl)
 rw [if_neg h7]
 by_cases h1:kind=1
 ·subst h1;rw [if_pos (.inl rfl)];refine cU Tryz.func197 ?_;refine cC ?_;cases hp:ir path with
  |none=>
   refine cC ?_;exact .j9 (kz (cs:=[.ag true 1 [] .bR]) rfl)
  |some l=>
   cases l with
   |nil=>
    refine cC ?_;exact .j9 (kz (cs:=[.ag true 1 [] .av]) rfl)
   |cons a r=>
    have hl:(fN (a::r)).length=r.length+1:=by rw [wS];rfl
    have h16:r.length+1<=16:=by grind [vb]
    have htk:(fN (a::r)).take r.length=((a::r).dropLast).map jv:=by rw [List.dropLast_eq_take];show ((a::r).map _).take _=_;rw [<-List.map_take];rfl
    have w1:IntKind.i64.wrap (((fN (a::r)).length:Int) - 1)=(r.length:Int):=by grind [bj]
    refine cC ?_;refine ⟨λ_=>?_,λh=>absurd (of_decide_eq_false h) (by rw [hl];omega)⟩
    conv=>whnf
    rw [w1];refine cC ?_;rw [Int.toNat_natCast,htk];exact .j9 (kz (cs:=[.ag false 1 (((a::r).dropLast).map jv) .av]) rfl)
 by_cases h2:kind=2
 ·subst h2;rw [if_pos (.inr (.inl rfl))];refine cU Tryz.func197 ?_;refine cC ?_;cases hp:ir path with
  |none=>
   refine cC ?_;exact .j9 (kz (cs:=[.ag true 1 [] .bR]) rfl)
  |some l=>
   cases l with
   |nil=>
    refine cC ?_;exact .j9 (kz (cs:=[.ag true 1 [] .av]) rfl)
   |cons a r=>
    have hl:(fN (a::r)).length=r.length+1:=by rw [wS];rfl
    have h16:r.length+1<=16:=by grind [vb]
    have htk:(fN (a::r)).take r.length=((a::r).dropLast).map jv:=by rw [List.dropLast_eq_take];show ((a::r).map _).take _=_;rw [<-List.map_take];rfl
    have w1:IntKind.i64.wrap (((fN (a::r)).length:Int) - 1)=(r.length:Int):=by grind [bj]
    refine cC ?_;refine ⟨λ_=>?_,λh=>absurd (of_decide_eq_false h) (by rw [hl];omega)⟩
    conv=>whnf
    rw [w1];refine cC ?_;rw [Int.toNat_natCast,htk];exact .j9 (kz (cs:=[.ag false 1 (((a::r).dropLast).map jv) .av]) rfl)
 by_cases h3:kind=3
 ·subst h3;rw [if_pos (.inr (.inr (.inl rfl)))];refine cU Tryz.func197 ?_;refine cC ?_;cases hp:ir path with
  |none=>
   refine cC ?_;exact .j9 (kz (cs:=[.ag true 1 [] .bR]) rfl)
  |some l=>
   cases l with
   |nil=>
    refine cC ?_;exact .j9 (kz (cs:=[.ag true 1 [] .av]) rfl)
   |cons a r=>
    have hl:(fN (a::r)).length=r.length+1:=by rw [wS];rfl
    have h16:r.length+1<=16:=by grind [vb]
    have htk:(fN (a::r)).take r.length=((a::r).dropLast).map jv:=by rw [List.dropLast_eq_take];show ((a::r).map _).take _=_;rw [<-List.map_take];rfl
    have w1:IntKind.i64.wrap (((fN (a::r)).length:Int) - 1)=(r.length:Int):=by grind [bj]
    refine cC ?_;refine ⟨λ_=>?_,λh=>absurd (of_decide_eq_false h) (by rw [hl];omega)⟩
    conv=>whnf
    rw [w1];refine cC ?_;rw [Int.toNat_natCast,htk];exact .j9 (kz (cs:=[.ag false 1 (((a::r).dropLast).map jv) .av]) rfl)
 by_cases h10:kind=10
 ·subst h10;rw [if_pos (.inr (.inr (.inr rfl)))];refine cU Tryz.func197 ?_;refine cC ?_;cases hp:ir path with
  |none=>
   refine cC ?_;exact .j9 (kz (cs:=[.ag true 1 [] .bR]) rfl)
  |some l=>
   cases l with
   |nil=>
    refine cC ?_;exact .j9 (kz (cs:=[.ag true 1 [] .av]) rfl)
   |cons a r=>
    have hl:(fN (a::r)).length=r.length+1:=by rw [wS];rfl
    have h16:r.length+1<=16:=by grind [vb]
    have htk:(fN (a::r)).take r.length=((a::r).dropLast).map jv:=by rw [List.dropLast_eq_take];show ((a::r).map _).take _=_;rw [<-List.map_take];rfl
    have w1:IntKind.i64.wrap (((fN (a::r)).length:Int) - 1)=(r.length:Int):=by grind [bj]
    refine cC ?_;exact .j9 (kz (cs:=[.ag false 1 (fN (a::r)) .av]) rfl)
 rw [if_neg om]
 by_cases h5:kind=5
 ·subst h5;rw [if_pos (.inl rfl)];refine cU Tryz.func197 ?_;refine cC ?_;exact .j9 (kz (cs:=[.aa .i64 5, .ai path, .ai to, .ai data, .aa .i64 n]) rfl)
 by_cases h6:kind=6
 ·subst h6;rw [if_pos (.inr (.inl rfl))];refine cU Tryz.func197 ?_;refine cC ?_;exact .j9 (kz (cs:=[.aa .i64 6, .ai path, .ai to, .ai data, .aa .i64 n]) rfl)
 by_cases h13:kind=13
 ·subst h13;rw [if_pos (.inr (.inr rfl))];refine cU Tryz.func197 ?_;refine cC ?_;exact .j9 (kz (cs:=[.aa .i64 13, .ai path, .ai to, .ai data, .aa .i64 n]) rfl)
 rw [if_neg om];refine cU Tryz.func197 ?_
 conv=>whnf
 refine ⟨λh=>absurd (show kind=4 by simpa using h) h4,λ_=>?_⟩
 conv=>whnf
 refine ⟨λh=>absurd (show kind=7 by simpa using h) h7,λ_=>?_⟩
 conv=>whnf
 refine ⟨λh=>absurd (show kind=1 by simpa using h) h1,λ_=>?_⟩
 conv=>whnf
 refine ⟨λh=>absurd (show kind=2 by simpa using h) h2,λ_=>?_⟩
 conv=>whnf
 refine ⟨λh=>absurd (show kind=3 by simpa using h) h3,λ_=>?_⟩
 conv=>whnf
 refine ⟨λh=>absurd (show kind=10 by simpa using h) h10,λ_=>?_⟩
 conv=>whnf
 refine ⟨λh=>absurd (show kind=5 by simpa using h) h5,λ_=>?_⟩
 conv=>whnf
 refine ⟨λh=>absurd (show kind=6 by simpa using h) h6,λ_=>?_⟩
 conv=>whnf
 refine ⟨λh=>absurd (show kind=13 by simpa using h) h13,λ_=>?_⟩
 conv=>whnf
 exact .j9 (kz (cs:=[]) rfl)
theorem ahr (c:bu) (hp:c.bY.length<=1048576):aC Tryz.prog 294 [tX c] (.aE (vm c)):=by
 have hw:=OG c hp;unfold vm;generalize sF c=w at*;refine bK Tryz.func294 ?_;refine ak ?_;cases w with
 |zP=>
  exact dC
 |yx c=>
  exact dC
 |sC s=>
  conv=>whnf
theorem ahq (t:cd) (h1:t.jB.ab.length<=1048576) (h2:t.dT.kB.ab.length<=1048576) (h3:t.dT.mD.ab.length<=1048576):aC Tryz.prog 293 [vz t] (vz t):=by
 have hc1:=aeP t.jB.bZ (t.jB.ab.map ie) (λh=>by rw [cj.wZ h];rfl) (by rw [List.length_map];exact h1);have hc2:=JH t.dT.kB.bZ (t.dT.kB.ab.map jv) (λh=>by rw [cj.wZ h];rfl) (by rw [List.length_map];exact h2);have hc3:=NM t.dT.mD.bZ (t.dT.mD.ab.map fD) (λh=>by rw [cj.wZ h];rfl) (by rw [List.length_map];exact h3);refine bK Tryz.func293 ?_;exact bm
theorem ahp (t:cd) (h1:t.jB.ab.length<=1048576) (h2:t.dT.kB.ab.length<=1048576) (h3:t.dT.mD.ab.length<=1048576):aC Tryz.prog 275 [vz t] (vz (i6 t)):=by
 have ho:=ahq t h1 h2 h3;refine cU Tryz.func275 ?_;exact bm
theorem WN (t:cd) (u:dt) (h1:t.jB.ab.length<=1048576) (h2:t.dT.kB.ab.length<=1048576) (h3:t.dT.mD.ab.length<=1048576) (hp:t.dN.bY.length<=1048576) (ha:0<=t.mX/\t.mX<=1048576) (hu:u.gu=1\/u.gu=2\/u.gu=3\/u.gu=5):
  aC Tryz.prog 269 [vz t,GB u] (vz (nJ t u)):=by
 obtain ⟨c,⟨q,l⟩,p,d,e,up,bg,mk,en,an⟩:=t;obtain ⟨k,ul⟩:=u;dsimp only at*;show aC _ _ [_, .aK [.aa .i64 k, .aa .i64 ul]] _;have hc2:=JH an.kB.bZ (an.kB.ab.map jv) (λh=>by rw [cj.wZ h];rfl) (by rw [List.length_map];exact h2);have hc3:=NM an.mD.bZ (an.mD.ab.map fD) (λh=>by rw [cj.wZ h];rfl) (by rw [List.length_map];exact h3);have hw:=ahr c hp;unfold nJ;dsimp only;generalize vm c=w at*;cases l with
 |nil=>
  have hz:=ae0 2 ul q [] (Nat.zero_le _);rcases hu with rfl|rfl|rfl|rfl
  ·rw [if_pos rfl,if_neg (λh=>absurd h.1 dd)];cases q
   all_goals
    refine cU Tryz.func269 ?_
    conv=>whnf
    refine bn Tryz.func293 ?_
    conv=>whnf
    refine bz.Iz (NP _) rfl ?_;refine cC ?_;refine ⟨dG (show (1:Nat)<=4294967296 by decide) dd,?_⟩;exact dC
  ·cases q<;>cases d<;>cases w
   all_goals
    refine cU Tryz.func269 ?_
    conv=>whnf
    refine bn Tryz.func293 ?_
    conv=>whnf
    refine bz.Iz (NP _) rfl ?_;refine cC ?_;refine bn Tryz.func295 ?_;exact dC
  all_goals
   cases q
   all_goals
    refine cU Tryz.func269 ?_
    conv=>whnf
    refine bn Tryz.func293 ?_
    conv=>whnf
    refine bz.Iz (NP _) rfl ?_;exact dC
 |cons a l=>
  have hpa:=aeQ ((a::l).map ie) (Nat.succ_pos _) (by rw [List.length_map];exact h1);rw [List.length_map] at hpa;have hd:=ae1 2 ul true (a::l) h1;rcases hu with rfl|rfl|rfl|rfl
  ·rw [if_pos rfl];have hw1:IntKind.i64.wrap (p+1)=p+1:=bj om om;have hx:(if (a::l).length=1/\w=true then p+1 else p)=match l,w with|[],true=>p+1|_,_=>p:=by
    cases l<;>cases w<;>simp
   unfold vz cr cv cj.bZ cj.jg;dsimp only;rw [List.map_append,hx];rcases l with _|⟨b,l⟩<;>cases w<;>cases q
   all_goals
    refine cU Tryz.func269 ?_
    conv=>whnf
    refine bn Tryz.func293 ?_
    conv=>whnf
    refine bz.xP hpa rfl ?_;refine cC ?_
    first|rw [hw1]|skip
    refine ⟨List.map ie _,⟨List.length_map _,λel he=>?_,rfl,xa (λ_=>rfl) _,dG (by rw [List.length_map];exact Nat.le_trans (Nat.succ_le_succ h1) dd) dd⟩,?_⟩
    ·obtain ⟨x,_,rfl⟩:=List.mem_map.1 he;rfl
    exact dC
  ·rw [if_neg dd,if_pos rfl];unfold cj.gL;dsimp only
   by_cases hF:((a::l).filter λz=>!decide (z=ul))=[]
   ·rw [hF];cases q<;>cases d<;>cases w
    all_goals
     refine cU Tryz.func269 ?_
     conv=>whnf
     refine bn Tryz.func293 ?_
     conv=>whnf
     refine bz.xP hpa rfl ?_;refine mq ?_;rw [hF];refine mq ?_;exact NL
   ·rw [if_neg (λh=>hF h.1)];cases q
    all_goals
     refine cU Tryz.func269 ?_
     conv=>whnf
     refine bn Tryz.func293 ?_
     conv=>whnf
     refine bz.xP hpa rfl ?_;refine mq ?_;refine ⟨λh=>absurd (List.length_eq_zero_iff.1 (Int.ofNat_eq_zero.1 (eq_of_beq h))) hF,λ_=>?_⟩;refine mq ?_;exact NL
  all_goals
   cases q
   all_goals
    refine cU Tryz.func269 ?_
    conv=>whnf
    refine bn Tryz.func293 ?_
    conv=>whnf
    refine bz.xP hpa rfl ?_;refine cC ?_;exact NL
end Go.Proofs.YtffboamedcmpaaaGreatDoor
namespace Go.Am
open Go.RowKit
section
variable {P:Program} {T:cN} {σ:az} {o:Oper} {n:Nat} {K:ae->az->Nat->Prop}
theorem ahs (w:World) (t tx ty e:TypeId) (i:TypeInfo) (z:Value) (ht:P.underlying t=some (.slice e)) {ik:IntKind} (hx:P.underlying tx=some (.int ik)) (hi:P.info? e=some i) (hz:i.zero=some z) (ad:Option Addr) (ik2:IntKind) (m:Nat) (h0:0<m) (hpos:0<i.size)
  (h1:m<=140737488355328) (hb:m*i.bytes<=140737488355328):
  (Builtin.append_ #[t,tx] ty #[.slice ad 0 0, .int ik2 (m:Int)]).run P w= .ok (.slice (some ⟨w.heap.size,0,none⟩) m (grownCap w m 0 e))
   (w.drew.alloc (.cells ((Builtin.zeroCells z.cells m).toList++(Builtin.zeroCells z.cells (grownCap w m 0 e - m)).toList).toArray e)):=by
 have hw:IntKind.i64.wrap (m:Int)=m:=bj om om;have hn:¬((m:Int)<0):=om;have hbi:((m:Int)*(i.bytes:Int))<=140737488355328:=om;have hn2:¬((m:Int)*(i.bytes:Int)>281474976710656):=om;have hm0:¬(m<=0):=om;have h63:¬(9223372036854775807<(m:Int)):=om;have h48:¬(281474976710656<Builtin.nextslicecap m 0*i.bytes):=by have:=growslice_fits (need:=m) (old:=0) (bytes:=i.bytes) h0 hb;omega
 have hms:¬(m*i.size=0):=by have:=Nat.mul_pos h0 hpos;omega
 have hs1:(sizeOf e).run P w= .ok i.size w:=by simp [sizeOf,typeInfo,hi]
 have ht1:∀ w',(typeInfo e).run P w'= .ok i w':=λw'=>by simp [typeInfo,hi]
 have hz1:∀ w',(zeroValue e).run P w'= .ok z w':=λw'=>by simp [zeroValue,typeInfo,hi,hz]
 have ha1:(asInt (.int ik2 (m:Int))).run P w= .ok (m:Int) w:=rfl;have hmx:¬(((m:Nat):Int)>IntKind.i64.max/\(True\/i.bytes=0)):=λh=>by
  have:(m:Int)>9223372036854775807:=h.1;omega
 have e1:0+(IntKind.i64.wrap (m:Int)).toNat=m:=by rw [hw];omega
 have e2:(IntKind.i64.wrap (m:Int)).toNat=m:=by rw [hw];omega
 have hold:∀ w',(Builtin.firstCells i.size 0 (.slice ad 0 0)).run P w'= .ok #[] w':=λw'=>by
  exact Ct P (w:=w') (vs:=[]) (by simp) (λh0=>absurd h0 (by simp)) w' rfl
 unfold Builtin.append_;simp only [List.getElem?_toArray,List.getElem?_cons_zero,List.getElem?_cons_succ,Sem.run_bind,run_underlying ht,run_underlying hx,Result.andThen_ok,pure_bind,hs1,if_true,ha1,hw,if_neg hn,ht1];rw [if_neg (show ¬((m:Int)*(i.bytes:Int)>2^48) from hn2)];simp only [Int.toNat_natCast,Nat.zero_add,if_neg hm0,Sem.run_bind,ht1,Result.andThen_ok,if_neg hmx];rw [if_neg (show ¬(Builtin.nextslicecap m 0*i.bytes>2^48) from h48)];simp [Question.forced,hold,hz1,hms,newRow,grownCap];rw [ht1];simp only [Result.andThen_ok];congr 3;simp_all
theorem mf.akB (hT:dA P T) {t tx e:TypeId} {c0:Call} (hop:o.op= .call c0) (hcal:c0.callee= .builtin .append) (hat:c0.argTypes=#[t,tx]) {s x:Operand} (hargs:c0.args=#[s,x]) {n0 b0:Nat} {z0:List ae} (hr:cP T t=some ⟨.dK e,n0,b0,z0⟩) {ik:IntKind} (hx:P.underlying tx=some (.int ik))
  {r:lz} (he:cP T e=some r) {isNil:Bool} {sz:Nat} (hs:aM σ s= .ag isNil sz [] .bR) {ik2:IntKind} (m:Nat) (hm:aM σ x= .aa ik2 (m:Int)) (h0:0<m) (h1:m<=140737488355328) (h2:m*r.xx<=140737488355328) (hpos:0<r.aO) (hzp:kZ r.jX=true)
  (hK:K (.aL n 0 r.aO m true) (aU σ (.af n) (.aR e (eB m (iB r.jX)))) (n+1)):mf P o σ n K:=by
 refine ⟨λb g a w h hrr=>?_⟩;have hrs:=hrr s (by grind [Op.operands,Call.operands]);have hrx:=hrr x (by grind [Op.operands,Call.operands]);rw [hs] at hrs;rw [hm] at hrx;obtain ⟨ad,c,ev,_,hc⟩:=hrs.jj;have hc:c=0:=hc;subst hc;have ex:a.eval x= .int ik2 (m:Int):=by
  generalize a.eval x=u at hrx;cases hrx with|bC h=>cases h;rfl
 obtain ⟨i,zv,q1,q2,q3,q3',q4,q5,q6,_⟩:=lz.pG hT he;have hrow:=(hT t _ hr).1;simp only at hrow;have hrun:=ahs (P:=P) w t tx o.type e i zv hrow hx q1 q2 ad ik2 m h0 (by rw [q3];exact hpos) h1 (by rw [q3'];exact h2);have run:(execOp a.eval o).run P w= .ok (.value (.slice (some ⟨w.heap.size,0,none⟩) m (grownCap w m 0 e))) (w.drew.alloc (.cells ((Builtin.zeroCells zv.cells m).toList++(Builtin.zeroCells zv.cells (grownCap w m 0 e - m)).toList).toArray e)):=by
  obtain ⟨dst,op,ty,pos,after,guard⟩:=o;grind [tl,builtin,Sem.run_bind,Result.andThen_ok,Sem.run_pure]
 have hge:=grownCap_ge w m 0 e;generalize grownCap w m 0 e=cap at run hge;have hz1:=H0 zv.cells m r.aO q4;have hz2:=H0 zv.cells (cap - m) r.aO q4;have hall:((Builtin.zeroCells zv.cells m).toList++(Builtin.zeroCells zv.cells (cap - m)).toList).length=cap*r.aO:=by
  rw [List.length_append,hz1,hz2,<-Nat.add_mul];congr 1;omega
 obtain ⟨h0',e0⟩:=h.pE (w':=w.drew) ((Below.refl _ w).drew);have hzlen:r.jX.length=r.aO:=q5;have hrl:(eB m (iB r.jX)).length=m*r.aO:=by rw [r8,rZ,hzlen]
 obtain ⟨h1',e1⟩:=h0'.Hk (f:=n) (h.nX).1 (t:=e) (cells:=eB m (iB r.jX)) (arr:=(Builtin.zeroCells zv.cells m).toList++(Builtin.zeroCells zv.cells (cap - m)).toList) (z:=(0,0)) (by grind) (λo _ ho=>by omega) (λj y u hy hu=>by
  have hj:j<(eB m (iB r.jX)).length:=(List.getElem?_eq_some_iff.1 hy).1;rw [hrl] at hj;rw [List.getElem?_append_left om] at hu;obtain ⟨hy1,_⟩:=EX _ _ _ _ hy;have hmod:j % r.aO<r.aO:=Nat.mod_lt _ hpos;have hm2:j % r.aO<zv.cells.size:=om;have hu':(Builtin.zeroCells zv.cells m)[j]? =some u:=by simpa using hu
  simp only [Builtin.zeroCells,q4,Array.getElem?_map,Array.getElem?_range,hj,if_pos,Option.map_some,Option.some.injEq] at hu';rw [<-hu',getElem!_pos zv.cells (j % r.aO) hm2];rw [rZ,hzlen] at hy1;obtain ⟨y0,hy0,rfl⟩:=rY hy1;have e9:zv.cells.toList[j % r.aO]? =some (zv.cells[j % r.aO]):=by simp [hm2]
  exact (tg (tf hzp _ _ hy0) (q6 w.drew g _ _ _ hy0 e9)).eO λk o hk=>⟨hk,rfl⟩)
 refine ⟨_,_,_,_,_,n+1,_,run, .inl rfl,hK,Nat.le_succ n,?_,h1'.iU (λi hi=>by omega),e0.gD e1⟩;refine .kH (cf.mJ _ _ _) (λ_=>rfl) rfl om (λ_=>⟨rfl,rfl,e,?_⟩);unfold World.shape?;rw [heap_alloc_new w.drew _];simp_all
theorem mf.akC {t e:TypeId} (hu:P.underlying t=some (.slice e)) {c0:Call} (hop:o.op= .call c0) (hcal:c0.callee= .builtin .cap) (hat:c0.argTypes[0]? =some t) {x:Operand} (hargs:c0.args=#[x])
  {isNil:Bool} {sz:Nat} {els:List (List ae)} (hx:aM σ x= .ag isNil sz els .bR) (hK:K (.aa .i64 els.length) σ (n+1)):mf P o σ n K:=by
 refine ⟨λb g a w h hrr=>?_⟩;have hrx:=hrr x (by grind [Op.operands,Call.operands]);rw [hx] at hrx;obtain ⟨ad,c,ev,_,hc⟩:=hrx.jj;have hc:c=els.length:=hc;subst hc;have run:(execOp a.eval o).run P w= .ok (.value (.int .i64 (els.length:Int))) w:=by
  obtain ⟨dst,op,ty,pos,after,guard⟩:=o;simp only at hop;subst hop;refine tl hcal ?_;simp only [builtin,hargs,List.map_toArray,List.map_cons,List.map_nil,Builtin.cap_,hat,ev,List.getElem?_toArray,List.getElem?_cons_zero,Sem.run_bind,run_underlying hu,Result.andThen_ok,Sem.run_pure,goInt]
 exact ⟨_,_,w,_,σ,n+1,g,run, .inl rfl,hK,Nat.le_succ n, .bC (.fK _ _),h.qp (Nat.le_succ n),dp.qg _ _⟩
theorem mf.akD (hT:dA P T) {t e:TypeId} {x hi:Operand} (hop:o.op= .slice t x none (some hi) none) {n0 b0:Nat} {z0:List ae} (hr:cP T t=some ⟨.dK e,n0,b0,z0⟩) {r:lz} (he:cP T e=some r)
  {isNil:Bool} {sz:Nat} (hx:aM σ x= .ag isNil sz [] .bR) {k2:IntKind} {h:Int} (hh:aM σ hi= .aa k2 h) (h0:h=0) (hK:K (.ag isNil sz [] .bR) σ (n+1)):mf P o σ n K:=by
 refine ⟨λb g a w hsim hrr=>?_⟩;subst h0;have hrx:=hrr x (by simp [hop,Op.operands]);have hrh:=hrr hi (by simp [hop,Op.operands]);rw [hx] at hrx;obtain ⟨ad,c,ev,_,hc⟩:=hrx.jj;have hc:c=0:=hc;subst hc;have e1:iq σ none=some none:=rfl;have e2:iq σ (some hi)=some (some 0):=by simp [iq,hh]
 have hb:=Cy (P:=P) (w:=w) (g:=g) (a:=a) (σ:=σ) (isS:=true) (Nat.le_refl 0) e1 e2 (m:=none) (mx:=none) rfl (λy hy=>by
  simp_all) (by simp) (λm hm=>by cases hm) (λm hm=>by cases hm;omega)
 have hrow:=(hT t _ hr).1;simp only at hrow;have hrun:(execOp a.eval o).run P w= .ok (.value (.slice ad 0 0)) w:=by
  obtain ⟨dst,op,ty,pos,after,guard⟩:=o;simp only at hop;subst hop;simp only [cS] at hb
  replace hb:(Instr.sliceBounds true 0 0 ((none:Option Operand).map a.eval) ((some hi:Option Operand).map a.eval) ((none:Option Operand).map a.eval)).run P w= .ok (0,0,0) w:=hb
  generalize (some hi:Option Operand)=hi' at hb ⊢;simp only [Option.map_none] at hb;simp only [Option.map_none,execOp,Instr.sliceAt,Sem.run_bind,run_underlying hrow,Result.andThen_ok,Instr.slice,ev,List.length_nil,hb,xE hT he,Sem.run_pure,if_true,Nat.sub_self]
 rw [ev] at hrx;exact ⟨_,_,w,_,σ,n+1,g,hrun, .inl rfl,hK,Nat.le_succ n,hrx,hsim.qp (Nat.le_succ n),dp.qg _ _⟩
theorem bh.OI {b:ek P} {D:Nat->Prop} {g:cf} {w:World} {σ':az} (h:bh b σ D g w) (h1:∀ id,σ' (.af id)=σ (.af id)) (h2:∀ id t sz N,σ' (.aJ id)= .aN t sz N->σ (.aJ id)= .aN t sz N):bh b σ' D g w:=by
 refine bh.lQ h.dU h.fU h.kY h.kh h.lu h.ki h.eU h.gV (λid hl=>h.dq id (by simp_all)) (λid c hl hc=>by rw [h1];exact h.kF hc)
  (λi j k hi hj=>h.iT i j k (by simp_all) (by simp_all)) (λid Y c hs hc=>h.lv id Y c (by simp_all) hc) (λid t sz N hs=>?_)
 obtain ⟨bk,a1,a2⟩:=h.fA id t sz N (h2 id t sz N hs);grind
theorem db.WQ {r:Option Nat} {nt lo n:Nat} {c:Code} {K:Exit->az->Nat->Prop} (s id:Nat) {sz len:Nat} {bt:TypeId} {cells:List ae} (els:List (List ae)) (hsn:s<nt) (hs:σ (.aj s)= .ah (.aL id 0 sz len true)) (hb:σ (.af id)= .aR bt cells) (hcells:cells=els.flatten) (hlen:els.length=len)
  (hes:∀ el∈els,el.length=sz) (hpu:fL els.flatten=true) (h:db P r nt lo c (aU (aU σ (.af id) .bq) (.aj s) (.ah (.ag false sz els .av))) (n+1) K):db P r nt lo c σ n K:=by
 refine ⟨λb t a w hl hsim=>h.jG b t a w hl ?_⟩;obtain ⟨g,hh,hf,hE,hn⟩:=hsim;have hslot:=hf.kI s hsn;unfold dV at hslot;rw [hs] at hslot;simp only at hslot;obtain ⟨k,cap,ad,p1,ev,p3,p4,p5,p6⟩:=hslot.mK;obtain ⟨_,rfl,tt,hshape⟩:=p6 rfl;subst hcells hlen;obtain ⟨k',l1,l2,l3,l4⟩:=hh.dq id (by rw [hb];rfl);rw [p1] at l1;cases l1;obtain ⟨arr,z,m1,m2,m3,m4⟩:=hh.oN id bt els.flatten k hb p1;have hal:arr.length=cap*sz:=by
  grind [World.shape?]
 have hnid:∀ id',((aU σ (.af id) .bq) (.af id')).dw=true->g.aZ id'≠some k:=λid' hl hc=>by
  by_cases hid:id'=id
  ·subst hid;rw [gY] at hl;cases hl
  ·rw [cL (by simp_all)] at hl;exact hid (hh.iT id' id k hl (by rw [hb];rfl) hc p1)
 have hnrow:∀ id' t sz N N',id'≠n->(aU σ (.af id) .bq) (.aJ id')= .aN t sz N->g.cu id'≠some (some k,N'):=λid' t sz N N' _ hs' hc=>by
  rw [cL (by intro e;cases e)] at hs';obtain ⟨bk,b1,b2⟩:=hh.fA id' t sz N hs';have hbb:bk=some k:=by simp_all
  exact (b2 k hbb).2.2.2.1 id (by rw [hb];rfl) p1
 obtain ⟨k1,k2,k3⟩:=(hh.P7 id).Av (id:=n) (c:=k) (sz:=sz) (N:=els.length) (cap:=cap) (t:=bt) (z:=z) (els:=els) rfl (λbk M hM=>by grind [hh.nX]) (.inr l4) l2 l3 (λo ho=>absurd ho (l4 o)) hnid hnrow m1 m3 hal p5 hes
  (λj x v hx hv=>te (.bC (m4 j x v hx hv)) (zb hpu j x hx)) m4
 have k4:=k1.s7 (.aJ n);refine ⟨_,?_,⟨hf.mN,hf.nW,λi hi=>?_⟩,hE.gD k2,om⟩
 ·refine (k4.OI (σ':=aU (aU σ (.af id) .bq) (.aj s) (.ah (.ag false sz els .av))) (λi=>?_) (λi t' sz' N hs'=>?_)).iU (λi hi=>by omega)
  ·trivial
  ·rw [cL (by intro e;cases e)] at hs';have hin:i≠n:=λe=>by
    subst e;rw [cL (by intro e;cases e)] at hs';obtain ⟨bk,b1,_⟩:=hh.fA i t' sz' N hs';grind [hh.nX]
   rw [cL (by simp_all),cL (by simp_all)];exact hs'
 ·by_cases hi2:i=s
  ·subst hi2;rw [C3,ev];exact .jc (by grind [k3.jj]) trivial
  ·rw [wg (by grind),wg (by intro e;cases e)];exact (hf.kI i hi).kG k2
theorem bh.WS {b:ek P} {D:Nat->Prop} {g:cf} {w:World} (h:bh b σ D g w) (v:ae):bh b (aU σ (.aJ 1) (.ah v)) D g w:=
 h.OI (λid=>cL (by intro e;cases e)) (λid t sz N hs=>by
  grind [gY,cL])
theorem db.akE {r:Option Nat} {nt lo n:Nat} {c:Code} {K:Exit->az->Nat->Prop} (v:ae) (h:db P r nt lo c (aU σ (.aJ 1) (.ah v)) n K):db P r nt lo c σ n K:=
 ⟨λb t a w hl hsim=>h.jG b t a w hl (by
  obtain ⟨g,hh,hf,hE,hn⟩:=hsim;exact ⟨g,hh.WS v,hf.qo (λi=>by trivial),hE,hn⟩)⟩
theorem bz.akA {f:FuncId} {args:List ae} (u:ae) (h:bz P f args (aU σ (.aJ 1) (.ah u)) n (λv σ' n'=>K v (aU σ' (.aJ 1) .bq) n')):bz P f args σ n K:=
 ⟨h.r9,λb g w vals hs hl hv=>(h.q8 b g w vals (hs.WS u) hl hv).mono λ_ _ ⟨v,x,_,n',g',e1,e2,e3,e4,e5,e6⟩=>⟨v,x,_,n',g',e1,e2,e3,e4,e5.s7 _,e6⟩⟩
theorem db.akF {r:Option Nat} {nt lo n:Nat} {c:Code} {K:Exit->az->Nat->Prop} (v:ae) (h:db P r nt lo c (aU σ (.aJ 0) (.ah v)) n K):db P r nt lo c σ n K:=
 ⟨λb t a w hl hsim=>h.jG b t a w hl (by
  obtain ⟨g,hh,hf,hE,hn⟩:=hsim;exact ⟨g,hh.LG v,hf.qo (λi=>by trivial),hE,hn⟩)⟩
theorem mi.WT {f:FuncId} {clock:Nat} {el:iC} (h:bz P f [] (aD []) 0 (cG 0 (λx e=>x= .sh clock el/\e=[]))):mi P 0 f [] σ n [] [(.af n, .c9 (.dP clock el))] (.cg n):=by
 refine ⟨h.r9,λσ' _ b D g w vals _ hs hf1 hf2 hvl hv=>?_⟩;have hi:=bh.P8 w g.bJ hs.Au hs.fU [];have hi2:bh (ek.xk w g.bJ hs.Au hs.fU) (aD []) (·<0) ⟨g.bJ,λ_=>none,λ_=>none⟩ w:=hi.sZ (λ_=>rfl) (λ_=>rfl);have hvn:vals=[]:=List.eq_nil_of_length_eq_zero hvl;subst hvn;refine (h.q8 _ _ w [] hi2 rfl (λi x v hx=>by simp at hx)).mono ?_;rintro ed w' ⟨v,x,σ1,n1,g1,rfl,hk,hn,hrep,hs1,hE⟩;obtain ⟨y,es',⟨rfl,rfl⟩,hro,hout,hw⟩:=hk;obtain ⟨k,q1,rfl,q3⟩:=hout;obtain ⟨c,q4,rfl⟩:=hrep.xu;obtain ⟨c',l1,l2,l3,l4⟩:=hs1.dq k (by rw [q3];rfl);rw [q4] at l1;cases l1;have hob:=hs1.s8 k (.dP clock el) c q3 q4;have hb2:Below w.heap.size w w':=hs1.dU.Kw (λ_ h=>h);have hd2:w.drawn<=w'.drawn:=hE.uC;have hF1:∀ k o,g.bJ k o->g1.bJ k o:=λk o hk=>hs1.kY k o hk
 have hF2:∀ k o,g1.bJ k o->g.bJ k o\/(w.heap.size<=k/\k<w'.heap.size):=λk o hk=>by
  rcases Nat.lt_or_ge k w.heap.size with h1|h1
  ·exact .inl (hs1.kh k o hk h1 (λh=>h))
  ·exact .inr ⟨h1,hs1.fU k o hk⟩
 have k1:=hs.yZ hb2 hd2 hF1 hF2;have e1:=hs.xn hb2 hd2 hF1;have hc1:w.heap.size<=c:=l2.resolve_right (λh=>h);have k2:=k1.Hj (f:=n) (c:=c) (X:= .c9 (.dP clock el)) hf1 rfl (.inl (Nat.le_trans hs.dU.kX hc1)) l3 l4 (λid hl hc=>?_) (λid t sz N N' hs' hr=>?_) ?_
 ·exact ⟨_,_,rfl, .pF (cf.mJ _ _ _),k2,e1.gD (dp.EE hf1)⟩
 ·have:=hs.eU id c hc;omega
 ·have:=hs.gV id c N' hr;omega
 trivial
theorem db.OH {r:Option Nat} {nt lo n:Nat} {c:Code} {K:Exit->az->Nat->Prop} (k j:Nat) (e:TypeId) (sz:Nat) {bt:TypeId} {isNil:Bool} {sz0:Nat} {cells cells':List ae} (hs:σ (.af k)= .au bt cells) (hj:cells[j]? =some (.ag isNil sz0 [] .bR)) (hc:cells.set j (.ag isNil sz [] (.cO n))=cells')
  (h:db P r nt lo c (aU (aU σ (.aJ n) (.aN e sz 0)) (.af k) (.au bt cells')) (n+1) K):db P r nt lo c σ n K:=by
 subst hc;refine ⟨λb tp a w h0 hsim=>?_⟩;obtain ⟨g,hh,hf,hE,hn⟩:=hsim;obtain ⟨h1,h2⟩:=hh.Cf (t:=e) (sz:=sz) (N:=0) hh.nX.2;have h3:bh b (aU σ (.aJ n) (.aN e sz 0)) (·<n+1) (g.lP n 0) w:=h1.iU (λi hi=>by omega);have hbk:(aU σ (.aJ n) (.aN e sz 0)) (.af k)= .au bt cells:=by trivial
 obtain ⟨c',hc',_⟩:=h3.dq k (by rw [hbk];rfl);obtain ⟨arr,ha1,ha2,ha3⟩:=h3.nS k bt _ c' hbk hc';have hrow:(g.lP n 0).cu n=some (none,0):=by simp [cf.lP]
 obtain ⟨h4,_⟩:=h3.j8 (X:= .au bt (cells.set j (.ag isNil sz [] (.cO n)))) (by rw [hbk];rfl) hc' (kj.xS c' w) (λ_=>⟨arr,ha1,by simp_all,λi x v hx hv=>by
  by_cases hij:i=j
  ·subst hij;have hlt:i<cells.length:=(List.getElem?_eq_some_iff.1 hj).1;rw [List.getElem?_set_self hlt] at hx;cases hx;have hr:=ha3 i _ v hj hv;obtain ⟨ad,c'',rfl,h5,h6⟩:=hr.jj;exact .jc ((iL.eR isNil sz0 sz).pH _ _ _ h5) ⟨none,0,hrow,Nat.le_refl _,λ_=> .inl ⟨h6,rfl⟩⟩
  grind⟩)
 refine h.jG b tp a w h0 ⟨_,h4,⟨hf.mN,hf.nW,λi hi=>?_⟩,hE.gD h2,om⟩;have e1:dV (aU (aU σ (.aJ n) (.aN e sz 0)) (.af k) (.au bt (cells.set j (.ag isNil sz [] (.cO n))))) i=dV σ i:=by
  trivial
 rw [e1];exact (hf.kI i hi).kG h2
theorem bh.WR {b:ek P} {g:cf} {w:World} (hh:bh b σ (·<n) g w) (id:Nat) {sz len:Nat} {bt:TypeId} (els:List (List ae)) (hb:σ (.af id)= .aR bt els.flatten) (hlen:els.length=len)
  (hes:∀ el∈els,el.length=sz) (hpu:fL els.flatten=true) {sv:Value} (hslot:aF w g (.aL id 0 sz len true) sv):
  ∃ g',bh b (aU σ (.af id) .bq) (·<n+1) g' w/\dp g w g' w/\g'.aZ=g.aZ/\∀ sv,aF w g (.aL id 0 sz len true) sv->aF w g' (.ag false sz els .av) sv:=by
 obtain ⟨k,cap,ad,p1,ev,p3,p4,p5,p6⟩:=hslot.mK;obtain ⟨_,rfl,tt,hshape⟩:=p6 rfl;subst hlen;obtain ⟨k',l1,l2,l3,l4⟩:=hh.dq id (by rw [hb];rfl);rw [p1] at l1;cases l1;obtain ⟨arr,z,m1,m2,m3,m4⟩:=hh.oN id bt els.flatten k hb p1;have hal:∀ {cap:Nat} {tt:TypeId},w.shape? k=some (tt,cap*sz)->arr.length=cap*sz:=λhshape=>by
  grind [World.shape?]
 have hnid:∀ id',((aU σ (.af id) .bq) (.af id')).dw=true->g.aZ id'≠some k:=λid' hl hc=>by
  by_cases hid:id'=id
  ·subst hid;rw [gY] at hl;cases hl
  ·rw [cL (by simp_all)] at hl;exact hid (hh.iT id' id k hl (by rw [hb];rfl) hc p1)
 have hnrow:∀ id' t sz N N',id'≠n->(aU σ (.af id) .bq) (.aJ id')= .aN t sz N->g.cu id'≠some (some k,N'):=λid' t sz N N' _ hs' hc=>by
  rw [cL (by intro e;cases e)] at hs';obtain ⟨bk,b1,b2⟩:=hh.fA id' t sz N hs';have hbb:bk=some k:=by simp_all
  exact (b2 k hbb).2.2.2.1 id (by rw [hb];rfl) p1
 have key:∀ {cap:Nat} {tt:TypeId},w.shape? k=some (tt,cap*sz)->els.length<=cap->bh b (aU (aU σ (.af id) .bq) (.aJ n) (.aN bt sz els.length)) (λi=>i<n\/i=n) (g.qh n k els.length sz) w/\dp g w (g.qh n k els.length sz) w/\aF w (g.qh n k els.length sz) (.ag false sz els (.cO n)) (.slice (some ⟨k,0,none⟩) els.length cap):=λhshape p5=>
  (hh.P7 id).Av (id:=n) (c:=k) (sz:=sz) (N:=els.length) (t:=bt) (z:=z) (els:=els) rfl (λbk M hM=>by grind [hh.nX]) (.inr l4) l2 l3 (λo ho=>absurd ho (l4 o)) hnid hnrow m1 m3 (hal hshape) p5 hes
   (λj x v hx hv=>te (.bC (m4 j x v hx hv)) (zb hpu j x hx)) m4
 obtain ⟨k1,k2,k3⟩:=key hshape p5;have k4:=k1.s7 (.aJ n);refine ⟨g.qh n k els.length sz,(k4.OI (σ':=aU σ (.af id) .bq) (λi=>?_) (λi t' sz' N hs'=>?_)).iU (λi hi=>by omega),k2,rfl,λsv' hsv=>?_⟩
 ·trivial
 ·have hin:i≠n:=λe=>by
   subst e;rw [cL (by intro e;cases e)] at hs';obtain ⟨bk,b1,_⟩:=hh.fA i t' sz' N hs';grind [hh.nX]
  rw [cL (by simp_all),cL (by simp_all)];exact hs'
 ·obtain ⟨k',cap',ad',r1,ev',r3,r4,r5,r6⟩:=hsv.mK;rw [p1] at r1;cases r1;obtain ⟨_,rfl,tt',hsh'⟩:=r6 rfl;obtain ⟨_,_,u3⟩:=key hsh' r5;rw [ev'];obtain ⟨_,_,e,h1,_⟩:=u3.jj;cases e;exact .jc h1 trivial
theorem bh.Ka {b:ek P} {D:Nat->Prop} {g:cf} {w:World} (hh:bh b σ D g w) {k:Nat} {bt:TypeId} {cells cells':List ae} (hs:σ (.af k)= .au bt cells) (hl:cells'.length=cells.length)
  (hr:∀ (i:Nat) (x:ae) (v:Value),cells'[i]? =some x->(∀ y,cells[i]? =some y->aF w g y v)->aF w g x v):bh b (aU σ (.af k) (.au bt cells')) D g w:=by
 obtain ⟨c',hc',_⟩:=hh.dq k (by rw [hs];rfl);obtain ⟨arr,ha1,ha2,ha3⟩:=hh.nS k bt _ c' hs hc';exact (hh.j8 (X:= .au bt cells') (by rw [hs];rfl) hc' (kj.xS c' w) (λ_=>⟨arr,ha1,by rw [hl];exact ha2,λi x v hx hv=>hr i x v hx λy hy=>ha3 i y v hy hv⟩)).1
theorem bz.WO {f:FuncId} {args:List ae} (k:Nat) (h:bz P f args σ n (λv σ' n'=>∃ bt cells,σ' (.af k)= .au bt cells/\K v (aU σ' (.af k) (.au bt (iB cells))) n')):bz P f args σ n K:=
 ⟨h.r9,λb g w vals hs hl hv=>(h.q8 b g w vals hs hl hv).mono λ_ _ ⟨v,x,σ',n',g',e1,⟨bt,cells,e2,e2'⟩,e3,e4,e5,e6⟩=>⟨v,x,_,n',g',e1,e2',e3,e4,e5.Ka e2 (rZ _) (λi x v hx hy=>by
  grind [rY,QF]),e6⟩⟩
theorem bz.J9 {f:FuncId} {args:List ae} (k j id:Nat) (h:bz P f args σ n (λv σ' n'=>∃ bt cells mt els sz len,σ' (.af k)= .au bt cells/\cells[j]? =some (.aL id 0 sz len true)/\σ' (.af id)= .aR mt els.flatten/\els.length=len/\(∀ el∈els,el.length=sz)/\fL els.flatten=true/\
  K v (aU (aU σ' (.af id) .bq) (.af k) (.au bt (cells.set j (.ag false sz els .av)))) (n'+1))):bz P f args σ n K:=by
 refine ⟨h.r9,λb g w vals hs hl hv=>(h.q8 b g w vals hs hl hv).mono ?_⟩;rintro _ w' ⟨v,x,σ',n',g',e1,⟨bt,cells,mt,els,sz,len,q1,q2,q3,q4,q5,q6,q7⟩,e3,e4,e5,e6⟩;obtain ⟨c',hc',_⟩:=e5.dq k (by rw [q1];rfl);obtain ⟨arr,ha1,ha2,ha3⟩:=e5.nS k bt _ c' q1 hc';have hjl:j<cells.length:=(List.getElem?_eq_some_iff.1 q2).1;have hja:arr[j]? =some arr[j]:=List.getElem?_eq_getElem om;obtain ⟨g2,h1,h2,h3,h4⟩:=e5.WR id els q3 q4 q5 q6 (ha3 j _ _ q2 hja);have hki:k≠id:=λe=>by simp_all
 have q1':(aU σ' (.af id) .bq) (.af k)= .au bt cells:=by grind [cL]
 obtain ⟨c2,hc2,_⟩:=h1.dq k (by rw [q1'];rfl);have hcc:c2=c':=by simp_all
 subst hcc;refine ⟨v,x,_,n'+1,g2,e1,q7,om,e4.kG h2,?_,e6.gD h2⟩;refine (h1.j8 (X:= .au bt (cells.set j (.ag false sz els .av))) (by rw [q1'];rfl) hc2 (kj.xS c2 w') (λ_=>⟨arr,ha1,by simp_all,λi y u hy hu=>?_⟩)).1
 by_cases hij:i=j
 ·grind
 ·rw [List.getElem?_set_ne (λe=>hij e.symm)] at hy;exact (ha3 i y u hy hu).kG h2
theorem bz.na {f:FuncId} {args:List ae} (k:Nat) (h:bz P f args σ n (λv σ' n'=>∃ bt cells cells',σ' (.af k)= .au bt cells/\kZ cells=true/\mO (iB cells) cells'/\K v (aU σ' (.af k) (.au bt cells')) n')):bz P f args σ n K:=
 ⟨h.r9,λb g w vals hs hl hv=>(h.q8 b g w vals hs hl hv).mono λ_ _ ⟨v,x,σ',n',g',e1,⟨bt,cells,cells',e2,e2p,e2s,e2'⟩,e3,e4,e5,e6⟩=>⟨v,x,_,n',g',e1,e2',e3,e4,e5.Ka e2 (by rw [<-e2s.v7,rZ]) (λi x v hx hy=>by
  have hi:i<(iB cells).length:=by grind [e2s.v7]
  obtain ⟨y,hy',hyf⟩:=rY (List.getElem?_eq_getElem hi);have hsub:=e2s.CM i _ x (List.getElem?_eq_getElem hi) hx;rw [hyf] at hsub;exact .bC (hsub.pH _ _ _ (tg (tf e2p i y hy') (hy y hy')))),e6⟩⟩
end
end Go.Am
namespace Go.Proofs.YtffboamedcmpaaaGreatDoor
open Go.Am
theorem ahu:∀ {a b:List ae},fL a=true->fL b=true->fL (a++b)=true
 |[],_,_,h=>h
 |x::a,b,h1,h2=>by
  simp only [fL] at h1;show fL (x::(a++b))=true;simp only [fL];cases hx:xB x with
  |false=>rw [hx] at h1;cases h1
  |true=>rw [hx] at h1;exact ahu h1 h2
def Kb (x y:Nat):Nat->Nat
 |0=>0
 |1=>x
 |_=>x+y
def akJ (sz:Nat):Nat->Nat
 |0=>1
 |_+1=>sz
def B3 (z:List ae) (a b:List (List ae)):Nat->List ae
 |0=>eB (a.length+b.length) z
 |1=>a.flatten++eB b.length z
 |_=>a.flatten++b.flatten
theorem ahv (n m:Nat) (z:List ae):eB (n+m) z=eB n z++eB m z:=by
 unfold eB;rw [<-List.flatten_append,List.replicate_append_replicate]
theorem akG {sz:Nat} {z:List ae} (hz:z.length=sz) {a b:List (List ae)} (ha:∀ e∈a,e.length=sz) (hb:∀ e∈b,e.length=sz) (k:Nat):(B3 z a b k).length=(a.length+b.length)*sz:=by
 match k with
 |0=>show (eB _ z).length=_;rw [r8,hz]
 |1=>show (a.flatten++eB b.length z).length=_;rw [List.length_append,r8,hz,lA sz a ha,Nat.add_mul]
 |_+2=>show (a.flatten++b.flatten).length=_;rw [List.length_append,lA sz a ha,lA sz b hb,Nat.add_mul]
theorem akH {sz:Nat} {z:List ae} (hz:z.length=sz) {a b:List (List ae)}:(B3 z a b 0).take (Kb a.length b.length 0*sz)++a.flatten++(B3 z a b 0).drop ((Kb a.length b.length 0+a.length)*sz)=B3 z a b 1:=by
 show (eB (a.length+b.length) z).take (0*sz)++a.flatten++(eB (a.length+b.length) z).drop ((0+a.length)*sz)=a.flatten++eB b.length z;rw [Nat.zero_mul,List.take_zero,List.nil_append,Nat.zero_add,ahv,List.drop_append_of_le_length (by rw [r8,hz];exact Nat.le_refl _),List.drop_of_length_le (by rw [r8,hz];exact Nat.le_refl _),List.nil_append]
theorem akI {sz:Nat} {z:List ae} (hz:z.length=sz) {a b:List (List ae)} (ha:∀ e∈a,e.length=sz):(B3 z a b 1).take (Kb a.length b.length 1*sz)++b.flatten++(B3 z a b 1).drop ((Kb a.length b.length 1+b.length)*sz)=B3 z a b 2:=by
 show (a.flatten++eB b.length z).take (a.length*sz)++b.flatten++(a.flatten++eB b.length z).drop ((a.length+b.length)*sz)=a.flatten++b.flatten;have hf:=lA sz a ha;rw [<-hf,List.take_left' rfl,List.drop_of_length_le (by rw [List.length_append,r8,hz,hf,Nat.add_mul];exact Nat.le_refl _),List.append_nil]
theorem WU {p:Prop} {f g:FuncId} {fn gn:Func} (hf:Tryz.prog.funcs[f]? =some fn) (hg:Tryz.prog.funcs[g]? =some gn) {t e n0 b0:Nat} {z0 zZ:List ae} {ti:y8} (ht:cP tI t=some ⟨.dK e,n0,b0,z0⟩) {sz bB:Nat} (he:cP tI e=some ⟨ti,sz,bB,zZ⟩) (c:Tryz.prog.funcs[f]? =some fn->Tryz.prog.funcs[g]? =some gn->cP tI t=some ⟨.dK e,n0,b0,z0⟩->cP tI e=some ⟨ti,sz,bB,zZ⟩->p:=by
 intro hf hg ht he;revert ht he;show cP tI ?tT=some ⟨.dK ?eE,?n0,?b0,?z0⟩->cP tI ?eE=some ⟨?ti,?sz,?bB,?zZ⟩->_;intro ht he;have w0:IntKind.i64.wrap (((Kb a.length b.length 0:Nat):Int)+(a.length:Int))=((Kb a.length b.length 1:Nat):Int):=by show IntKind.i64.wrap (((0:Nat):Int)+_)=(a.length:Int);rw [bj om om];omega
 have w1:IntKind.i64.wrap (((Kb a.length b.length 1:Nat):Int)+(b.length:Int))=((Kb a.length b.length 2:Nat):Int):=by show IntKind.i64.wrap ((a.length:Int)+_)=((a.length+b.length:Nat):Int);rw [bj om om];omega
 have s1:Kb a.length b.length 1=a.length:=rfl;have s2:Kb a.length b.length 2=a.length+b.length:=rfl;have n1:¬(((Kb a.length b.length 1:Nat):Int)<0):=om;have n2:¬(((Kb a.length b.length 2:Nat):Int)<0):=om;refine cU hf ?_
 conv=>whnf
 refine db.cK (λk:Nat=>[(.aj 0, .ah (.ag false 1 [[.ag q1 ?sz a .av],[.ag q2 ?sz b .av]] .av)),(.aj 3, .ah (.aa .i64 (Kb a.length b.length k:Nat))),(.aj 9, .ah (.ag false 1 [[.ag q1 ?sz a .av],[.ag q2 ?sz b .av]] .av)),(.aj 10, .ah (.aa .i64 2)),(.aj 11, .ah (.aa .i64 k))]) 5
  (λk=>k<=2) (λk=>2 - k) dd 0 (Nat.zero_le _) ⟨rfl,rfl,rfl,rfl,rfl,rfl,rfl,rfl,rfl,rfl,trivial⟩ ?_
 intro k hk;refine cn ?_;refine ⟨λh=>?_,λh=>?_⟩
 ·have h:=of_decide_eq_true h;have hlt:k<2:=om;rcases (by omega:k=0\/k=1) with rfl|rfl
  ·conv=>whnf
   refine ⟨_,⟨om,rfl⟩,?_⟩
   conv=>whnf
   rw [w0];refine fu n1 ?_
   conv=>whnf
   exact ⟨1,om,dd,rfl,rfl,rfl,rfl,rfl,rfl,rfl,rfl,rfl,rfl,trivial⟩
  ·conv=>whnf
   refine ⟨_,⟨om,rfl⟩,?_⟩
   conv=>whnf
   rw [w1];refine fu n2 ?_
   conv=>whnf
   exact ⟨2,om,dd,rfl,rfl,rfl,rfl,rfl,rfl,rfl,rfl,rfl,rfl,trivial⟩
 ·have h:=of_decide_eq_false h;have h2:k=2:=om;subst h2;have w3:IntKind.i64.wrap (((Kb a.length b.length 2:Nat):Int) - IntKind.i64.wrap ((([]:List (List ae)).length:Int) - (([]:List (List ae)).length:Int)))=((Kb a.length b.length 2:Nat):Int):=by
   rw [show IntKind.i64.wrap ((([]:List (List ae)).length:Int) - (([]:List (List ae)).length:Int))=0 from dd,bj om om];omega
  conv=>whnf
  refine bz.akA .bN ?_;refine bn hg ?_
  conv=>whnf
  refine fu n2 ?_
  conv=>whnf
  refine mf.akC (t:=?tT) (e:=?eE) aG rfl rfl rfl rfl rfl ?_
  conv=>whnf
  rw [w3];refine ⟨λh=>?_,λh=>?_⟩
  ·have h:=of_decide_eq_true h
   conv=>whnf
   refine mf.akC (t:=?tT) (e:=?eE) aG rfl rfl rfl rfl rfl ?_
   conv=>whnf
   refine mf.akD dW (t:=?tT) (e:=?eE) rfl rfl rfl rfl rfl rfl ?_
   conv=>whnf
   refine mf.akB dW (t:=?tT) (tx:=3) (e:=?eE) (ik:= .i64) (ik2:= .i64) rfl rfl rfl rfl rfl aG rfl rfl (Kb a.length b.length 2) rfl om om (by show _*?bB<=_;omega) dd aG ?_
   conv=>whnf
   refine ⟨⟨by show (0:Int)<=0;decide,Nat.zero_le _⟩,?_⟩
   conv=>whnf
   refine db.akE .bV ?_;refine db.cK (λk:Nat=>[(.aJ 1, .ah .bV),(.aj 0, .ah (.ag false 1 [[.ag q1 ?sz a .av],[.ag q2 ?sz b .av]] .av)),(.aj 6, .ah (.aL 25 0 ?sz (Kb a.length b.length k) true)),(.af 25, .aR ?eE (B3 ?zZ a b k)),(.aj 25, .ah (.ag false 1 [[.ag q1 ?sz a .av],[.ag q2 ?sz b .av]] .av)),(.aj 26, .ah (.aa .i64 2)),(.aj 27, .ah (.aa .i64 k))]) 26
    (λk=>k<=2) (λk=>2 - k) dd 0 (Nat.zero_le _) ⟨rfl,rfl,rfl,rfl,rfl,rfl,rfl,rfl,rfl,rfl,rfl,rfl,rfl,rfl,trivial⟩ ?_
   intro k hk;refine cn ?_;refine ⟨λh=>?_,λh=>?_⟩
   ·have h:=of_decide_eq_true h;rcases (by omega:k=0\/k=1) with rfl|rfl
    ·conv=>whnf
     refine ⟨_,⟨om,rfl⟩,?_⟩
     conv=>whnf
     refine ⟨⟨by rw [akG (sz:=?sz) rfl ha hb];show (0+a.length)*?sz<=_;omega,dd⟩,?_⟩;have hm:=akH (sz:=?sz) (z:=?zZ) (a:=a) (b:=b) rfl
     conv=>whnf
     refine ⟨1,om,dd,rfl,rfl,rfl,rfl,?_,rfl,?_,rfl,rfl,rfl,rfl,rfl,rfl,rfl,trivial⟩
     ·show bs.ah (ae.aL 25 0 ?sz (0+a.length) true)=bs.ah (ae.aL 25 0 ?sz a.length true);rw [Nat.zero_add]
     ·exact congrArg (bs.aR _) hm
    ·conv=>whnf
     refine ⟨_,⟨om,rfl⟩,?_⟩
     conv=>whnf
     refine ⟨⟨by rw [akG (sz:=?sz) rfl ha hb];show (a.length+b.length)*?sz<=_;omega,dd⟩,?_⟩;have hm:=akI (sz:=?sz) (z:=?zZ) (b:=b) rfl ha
     conv=>whnf
     refine ⟨2,om,dd,rfl,rfl,rfl,rfl,rfl,rfl,?_,rfl,rfl,rfl,rfl,rfl,rfl,rfl,trivial⟩
     ·exact congrArg (bs.aR _) hm
   ·have h':=of_decide_eq_false h;have h2:k=2:=om;subst h2;have hne:(a++b).isEmpty=false:=by
     cases hab:a++b with
     |nil=>
          have:(a++b).length=0:=by rw [hab];rfl
          rw [List.length_append] at this;omega
     |cons=>rfl
    rw [hne]
    conv=>whnf
    refine .zf (t:=?eE) (cells:=B3 ?zZ a b 2) rfl (by rw [List.length_append];rfl) (λe he=>by rcases List.mem_append.1 he with h|h;exact ha e h;exact hb e h) ?_ ?_ ?_
    ·rw [akG (sz:=?sz) rfl ha hb];show 0+(a.length+b.length)*?sz<=_;omega
    ·rw [List.drop_zero,show Kb a.length b.length 2*?sz=(B3 ?zZ a b 2).length from (akG (sz:=?sz) rfl ha hb 2).symm,List.take_length,List.flatten_append];rfl
    ·rw [List.flatten_append];exact ahu oa ob
  ·have h:=of_decide_eq_false h;have ea:a=[]:=List.eq_nil_of_length_eq_zero om;have eb:b=[]:=List.eq_nil_of_length_eq_zero om;subst ea eb
   conv=>whnf
   refine db.akF .bN ?_;refine db.cK (λk:Nat=>[(.aJ 0, .ah .bN),(.aj 0, .ah (.ag false 1 [[.ag q1 ?sz [] .av],[.ag q2 ?sz [] .av]] .av)),(.aj 6, .ah (.ag true (akJ ?sz k) [] .bR)),(.aj 25, .ah (.ag false 1 [[.ag q1 ?sz [] .av],[.ag q2 ?sz [] .av]] .av)),(.aj 26, .ah (.aa .i64 2)),(.aj 27, .ah (.aa .i64 k))]) 5
    (λk=>k<=2) (λk=>2 - k) dd 0 (Nat.zero_le _) ⟨rfl,rfl,rfl,rfl,rfl,rfl,rfl,rfl,rfl,rfl,rfl,rfl,trivial⟩ ?_
   intro k hk;refine cn ?_;refine ⟨λh=>?_,λh=>?_⟩
   ·have h:=of_decide_eq_true h;rcases (by omega:k=0\/k=1) with rfl|rfl
    ·conv=>whnf
     refine ⟨_,⟨om,rfl⟩,?_⟩
     conv=>whnf
     refine ⟨rfl,?_⟩
     conv=>whnf
     first|refine ⟨rfl,?_⟩|skip
     conv=>whnf
     exact ⟨1,om,dd,rfl,rfl,rfl,rfl,rfl,rfl,rfl,rfl,rfl,rfl,rfl,rfl,trivial⟩
    ·conv=>whnf
     refine ⟨_,⟨om,rfl⟩,?_⟩
     conv=>whnf
     refine ⟨rfl,?_⟩
     conv=>whnf
     exact ⟨2,om,dd,rfl,rfl,rfl,rfl,rfl,rfl,rfl,rfl,rfl,rfl,rfl,rfl,trivial⟩
   ·have h:=of_decide_eq_false h;have h2:k=2:=om;subst h2;exact bm):p:=c hf hg ht he
theorem OJ (q1 q2:Bool) (a b:List (List ae)) (ha:∀ e∈a,e.length=1) (hb:∀ e∈b,e.length=1) (oa:fL a.flatten=true) (ob:fL b.flatten=true) (hl:a.length+b.length<=1048576):
  aC Tryz.prog 339 [(.ag false 1 [[.ag q1 1 a .av],[.ag q2 1 b .av]] .av)] (.ag (a++b).isEmpty 1 (a++b) .av):=WU Tryz.func339 Tryz.func340 (t:=57) (e:=3) rfl rfl
theorem aht (q1 q2:Bool) (a b:List (List ae)) (ha:∀ e∈a,e.length=7) (hb:∀ e∈b,e.length=7) (oa:fL a.flatten=true) (ob:fL b.flatten=true) (hl:a.length+b.length<=1048576):
  aC Tryz.prog 236 [(.ag false 1 [[.ag q1 7 a .av],[.ag q2 7 b .av]] .av)] (.ag (a++b).isEmpty 7 (a++b) .av):=WU Tryz.func236 Tryz.func271 (t:=39) (e:=130) rfl rfl
end Go.Proofs.YtffboamedcmpaaaGreatDoor
