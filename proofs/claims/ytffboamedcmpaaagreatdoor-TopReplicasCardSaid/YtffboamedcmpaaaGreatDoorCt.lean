import Derived.Test.YtffboamedcmpaaaGreatDoorCs
set_option linter.all false
set_option maxHeartbeats 4000000
set_option maxRecDepth 100000
namespace Go.Proofs.YtffboamedcmpaaaGreatDoor
open Gw
open Go.Am
def nf (x:aV) (who:Int) (u:dt) (n:Nat):List ae:=[cv 17 dY x.br.aA.b8,cv 8 iF x.br.aA.aQ, .aa .i64 x.br.eC, .aa .i64 x.br.iH,cv 2 iJ x.br.dO,cv 4 ej x.br.de, .aa .i64 x.br.fz,
 cv 2 bA x.cM.eW,cv 2 bA x.cM.di, .aa .i64 x.dy.nH,cv 2 dz x.dy.gi, .aL 31 0 18 n true, .aa .i64 x.ca,cv 7 cI x.bG, .aa .i64 who, .aa .i64 u.gu, .aa .i64 u.pk]
def ga (x:aV) (who:Int) (u:dt):List (Am.aS×bs):=[(.af 16, .au 235 (nf x who u x.aq.ab.length)),(.af 31, .aR 78 ((x.aq.ab.map cr).flatten))]
theorem XD {f:cd->cd} {l:List cd} {n:Nat} (h:n<l.length):l.modify n f=l.set n (f l[n]):=by
 induction l generalizing n with
 |nil=>simp at h
 |cons t l ih=>
  cases n with
  |zero=>rfl
  |succ n=>grind
theorem B8 {l:List cd} {n:Int} {f:cd->cd} (h0:0<=n) (h:n<l.length):∃ k:Nat,n=k/\∃ hk:k<l.length,gA l n f=l.set k (f l[k]):=by
 refine ⟨n.toNat,om,om,?_⟩;grind [gA,XD]
theorem Km {l:List cd} {n:Int} {f:cd->cd} (h:n<0\/(l.length:Int)<=n):gA l n f=l:=by
 grind [gA,List.modify_eq_self]
theorem xj (l:List cd):((l.map cr).flatten).length=l.length*18:=pq (enc:=cr) (sz:=18) (λ_=>rfl) l
theorem XE {L:List ae} {x:ae} {k:Nat} (h:k+1<=L.length):(L.take k++[x]++L.drop (k+1)).length=L.length:=by
 grind
theorem O3 (x:aV) (who:Int) (u:dt) (n:Int):bz Tryz.prog 195 [.ar 16 0, .aa .i64 n] (aD (ga x who u)) 32
  (cG 32 (λr es=>r= .cE (.aw [])/\es=ga (kD x n) who u)):=by
 by_cases h0:0<=n
 ·by_cases h1:n<x.aq.ab.length
  ·obtain ⟨k,rfl,hk,hset⟩:=B8 (f:=λt=>{t with kf:=true,pW:=x.ca}) h0 h1;have hx:kD x k={x with aq:=⟨x.aq.dI,x.aq.ab.set k {x.aq.ab[k] with kf:=true,pW:=x.ca}⟩}:=by
    grind [kD,gy]
   rw [hx];refine bn Tryz.func195 ?_;refine ak ?_;have o1:0+(k:Int).toNat*18+8=k*18+8:=om;have o2:0+(k:Int).toNat*18+12=k*18+12:=om;have hfl:=xj x.aq.ab;refine eJ ?_;rw [o1];refine ak ?_;rw [o2];refine ⟨Nat.le_trans om (Nat.le_of_eq (XE om).symm),?_⟩;refine ak ?_;refine ⟨_,_,⟨rfl,rfl⟩,rfl,⟨rfl,rfl⟩,⟨?_,rfl,?_,rfl,trivial⟩⟩
   ·exact congrArg (λn=>bs.au 235 (nf x who u n)) (List.length_set).symm
   ·have s1:=G2 (enc:=cr) (sz:=18) (λ_=>rfl) (l:=x.aq.ab) (i:=k) hk (b:={x.aq.ab[k] with kf:=true}) (k:=k*18+8) (p:=(cr x.aq.ab[k]).take 8) (s:=(cr x.aq.ab[k]).drop 9) (y:= .aE x.aq.ab[k].kf) (x:= .aE true) rfl rfl rfl;have hk2:k<(x.aq.ab.set k {x.aq.ab[k] with kf:=true}).length:=by simp_all
    have s2:=G2 (enc:=cr) (sz:=18) (λ_=>rfl) (l:=x.aq.ab.set k {x.aq.ab[k] with kf:=true}) (i:=k) hk2 (b:={x.aq.ab[k] with kf:=true,pW:=x.ca}) (k:=k*18+12) (p:=(cr {x.aq.ab[k] with kf:=true}).take 12) (s:=(cr {x.aq.ab[k] with kf:=true}).drop 13) (y:= .aa .i64 x.aq.ab[k].pW) (x:= .aa .i64 x.ca) (by rw [List.getElem_set_self];rfl) rfl rfl;rw [<-s1,List.set_set] at s2;exact congrArg (bs.aR _) s2
  ·have hx:kD x n=x:=by
    unfold kD gy;rw [Km (.inr om)]
   rw [hx];refine bn Tryz.func195 ?_;exact bm
 ·have hx:kD x n=x:=by
   unfold kD gy;rw [Km (.inl om)]
  rw [hx];refine bn Tryz.func195 ?_;exact bm
theorem O4 {l:List cd} {k:Nat} (hk:k<l.length) (b:cd):((l.map cr).flatten).take (k*18)++cr b++((l.map cr).flatten).drop (k*18+18)=((l.set k b).map cr).flatten:=by
 have h:=DZ (enc:=cr) (sz:=18) (λ_=>rfl) (l.take k) (l.drop (k+1)) l[k] b;grind [List.drop_eq_getElem_cons,List.take_append_drop]
structure Kk (t:cd):Prop where
 G3:t.jB.ab.length<=1048576
 O1:t.dT.kB.ab.length<=1048576
 O0:t.dT.mD.ab.length<=1048576
 O2:t.dN.bY.length<=1048576
 OZ:0<=t.mX/\t.mX<=1048576
theorem Kl (x:aV) (k:Nat) (u:dt) (hk:k<x.aq.ab.length) (ht:Kk x.aq.ab[k]) (hu:u.gu=1\/u.gu=2\/u.gu=3\/u.gu=5):bz Tryz.prog 233 [.ar 16 0] (aD (ga x k u)) 32
  (cG 32 (λr es=>r= .cE (.aw [])/\es=ga (jT x k u) k u)):=by
 obtain ⟨k',hk',hk2,hset⟩:=B8 (l:=x.aq.ab) (n:=k) (f:=λt=>nJ t u) om om;obtain rfl:k=k':=om;have hx:jT x k u={x with aq:=⟨x.aq.dI,x.aq.ab.set k (nJ x.aq.ab[k] u)⟩}:=by
  grind [jT,gy]
 rw [hx];have hA:=WN x.aq.ab[k] u ht.G3 ht.O1 ht.O0 ht.O2 ht.OZ hu;have o1:0+(k:Int).toNat*18=k*18:=om;have hfl:=xj x.aq.ab;have hL:=vA (enc:=cr) (sz:=18) (λ_=>rfl) hk;refine bn Tryz.func233 ?_;refine cC ?_;rw [o1];refine cC ?_;rw [o1];refine cC ?_;refine ak ?_;refine ⟨_,_,⟨rfl,rfl⟩,rfl,⟨rfl,rfl⟩,⟨?_,rfl,?_,rfl,trivial⟩⟩
 ·exact congrArg (λn=>bs.au 235 (nf x k u n)) (List.length_set).symm
 ·exact congrArg (bs.aR _) (O4 hk _)
theorem Ao {T:Nat} {x:aV} (h:fS T x) (hT:T<=1000000):∀ t∈x.aq.ab,Kk t:=λt ht=>by
 have h1:=h.oG t ht;have h2:=V4 kS ht;have h3:=V4 kR ht;have h4:=h.vF;have h5:=h.vE;have h6:kS t=t.jB.ab.length:=rfl;have h7:kR t=t.mX.toNat:=rfl;have h8:=h1.vG;exact ⟨om,Nat.le_trans h1.yK.1 dd,Nat.le_trans h1.yK.2 dd,Nat.le_trans h1.rK dd,om⟩
theorem XF (x:aV) (who:Int) (u:dt) (h:bX) (ht:∀ t∈x.aq.ab,Kk t):bz Tryz.prog 235 [.ar 16 0, .aK (bA h)] (aD (ga x who u)) 32
  (cG 32 (λr es=>r= .cE (.aw [])/\es=ga (jE x h) who u)):=by
 obtain ⟨lk,n⟩:=h
 by_cases h0:0<=n
 ·by_cases h1:n<x.aq.ab.length
  ·obtain ⟨k,rfl,hk,hset⟩:=B8 (f:=λt=>nJ t ⟨1,lk⟩) h0 h1;have hx:jE x ⟨lk,k⟩={x with aq:=⟨x.aq.dI,x.aq.ab.set k (nJ x.aq.ab[k] ⟨1,lk⟩)⟩}:=by
    grind [jE,gy]
   rw [hx];have htk:=ht x.aq.ab[k] (List.getElem_mem hk);have hA:=WN x.aq.ab[k] ⟨1,lk⟩ htk.G3 htk.O1 htk.O0 htk.O2 htk.OZ (.inl rfl);have o1:0+(k:Int).toNat*18=k*18:=om;have hfl:=xj x.aq.ab;have hL:=vA (enc:=cr) (sz:=18) (λ_=>rfl) hk;show bz _ _ [.ar 16 0, .aK [.aa .i64 lk, .aa .i64 (k:Int)]] _ _ _;refine bn Tryz.func235 ?_;refine eJ ?_;rw [o1];refine cC ?_;rw [o1];refine cC ?_;refine ak ?_;refine ⟨_,_,⟨rfl,rfl⟩,rfl,⟨rfl,rfl⟩,⟨?_,rfl,?_,rfl,trivial⟩⟩
   ·exact congrArg (λn=>bs.au 235 (nf x who u n)) (List.length_set).symm
   ·exact congrArg (bs.aR _) (O4 hk _)
  ·have hx:jE x ⟨lk,n⟩=x:=by
    unfold jE gy;rw [Km (.inr (by simp_all))]
   rw [hx];show bz _ _ [.ar 16 0, .aK [.aa .i64 lk, .aa .i64 n]] _ _ _;refine bn Tryz.func235 ?_;exact bm
 ·have hx:jE x ⟨lk,n⟩=x:=by
   unfold jE gy;rw [Km (.inl (by show n<0;omega))]
  rw [hx];show bz _ _ [.ar 16 0, .aK [.aa .i64 lk, .aa .i64 n]] _ _ _;refine bn Tryz.func235 ?_;exact bm
theorem ai7 {T:Nat} (x:aV) (k:Nat) (u:dt) (hT:T<=1000000) (hx:fS T x) (hk:k<x.aq.ab.length) (hu:u.gu=1):bz Tryz.prog 198 [.ar 16 0] (aD (ga x k u)) 32
  (cG 32 (λr es=>r= .cE (.aw [])/\es=ga (yB x k u) k u)):=by
 have ht:=Ao hx hT x.aq.ab[k] (List.getElem_mem hk);have hh:=hx.nO;have hA:=afv x.cM k u.pk om om;unfold yB;generalize sB x.cM k u.pk=y at*;obtain ⟨tb,has⟩:=y;dsimp only at*;have hB:=Kl {x with cM:=tb} k u hk ht (.inl hu);cases has with
 |true=>
  rw [if_pos rfl];refine bn Tryz.func198 ?_;exact bm
 |false=>
  rw [if_neg dd];refine bn Tryz.func198 ?_;exact bm
theorem ai4 {T:Nat} (x:aV) (k:Nat) (u:dt) (hT:T<=1000000) (hx:fS T x) (hk:k<x.aq.ab.length) (hu:u.gu=2):bz Tryz.prog 199 [.ar 16 0] (aD (ga x k u)) 32
  (cG 32 (λr es=>r= .cE (.aw [])/\es=ga (yA x k u) k u)):=by
 have ht:=Ao hx hT x.aq.ab[k] (List.getElem_mem hk);have hh:=hx.nO;have hA:=afx x.cM k u.pk om om;have hG:=V9 hx k u (by rw [hu];decide);have hbt:=Eh (T:=T) k u hx (by rw [hu];decide);unfold yA at*;generalize iO x.cM k u.pk=y at*;obtain ⟨tb,o⟩:=y;dsimp only at*;have hB:=Kl {x with cM:=tb} k u hk ht (.inr (.inl hu));cases o with
 |none=>
  refine bn Tryz.func199 ?_;exact bm
 |some n=>
  have hg:=XF (jT {x with cM:=tb} k u) k u ⟨u.pk,n⟩ (λt htm=>by
   have htm:t∈gA x.aq.ab k λt=>nJ t u:=htm
   exact Ao hbt hT t htm)
  refine bn Tryz.func199 ?_;exact dC
theorem ai6 {T:Nat} (x:aV) (k:Nat) (u:dt) (hT:T<=1000000) (hx:fS T x) (hk:k<x.aq.ab.length) (hu:u.gu=5):bz Tryz.prog 202 [.ar 16 0] (aD (ga x k u)) 32
  (cG 32 (λr es=>r= .cE (.aw [])/\es=ga (Gu x k u) k u)):=by
 have ht:=Ao hx hT x.aq.ab[k] (List.getElem_mem hk);have hB:=Kl x k u hk ht (.inr (.inr (.inr hu)));have hkb:k<(jT x k u).aq.ab.length:=by
  show k<(gA x.aq.ab k _).length;rw [Ei];exact hk
 have hL:Gu x k u=gy (jT x k u) k λt=>{t with pW:=(jT x k u).ca}:=rfl
 rw [hL];generalize jT x k u=z at*;obtain ⟨k',hk',hk2,hset⟩:=B8 (l:=z.aq.ab) (n:=k) (f:=λt=>{t with pW:=z.ca}) om om;obtain rfl:k=k':=om;have hz:gy z k (λt=>{t with pW:=z.ca})={z with aq:=⟨z.aq.dI,z.aq.ab.set k {z.aq.ab[k] with pW:=z.ca}⟩}:=by
  grind [gy]
 rw [hz];have o2:0+(k:Int).toNat*18+12=k*18+12:=om;have hfl:=xj z.aq.ab;refine bn Tryz.func202 ?_;refine eJ ?_;rw [o2];refine ak ?_;refine ⟨_,_,⟨rfl,rfl⟩,rfl,⟨rfl,rfl⟩,⟨?_,rfl,?_,rfl,trivial⟩⟩
 ·exact congrArg (λn=>bs.au 235 (nf z k u n)) (List.length_set).symm
 ·have s2:=G2 (enc:=cr) (sz:=18) (λ_=>rfl) (l:=z.aq.ab) (i:=k) hkb (b:={z.aq.ab[k] with pW:=z.ca}) (k:=k*18+12) (p:=(cr z.aq.ab[k]).take 12) (s:=(cr z.aq.ab[k]).drop 13) (y:= .aa .i64 z.aq.ab[k].pW) (x:= .aa .i64 z.ca) rfl rfl rfl;exact congrArg (bs.aR _) s2
theorem ai5 (g:l6) (th upto:Int) (hl:g.gi.ab.length<=1000000):aC Tryz.prog 238 [l9 g, .aa .i64 th, .aa .i64 upto] (.aw [l9 (zO g th upto).1, .aE (zO g th upto).2]):=by
 unfold zO
 by_cases h0:upto<=g.nH
 ·rw [if_pos h0];exact aiK g th upto om h0
 ·rw [if_neg h0]
  by_cases h1:rv g th=true
  ·rw [if_pos h1];exact aiM g th upto hl h0 h1
  ·rw [if_neg h1];exact aiL g th upto hl h0 (by simpa using h1)
theorem ai8 (x:aV) (k:Nat) (u:dt) (hg:x.dy.gi.ab.length<=1000000) (hk:k<x.aq.ab.length):bz Tryz.prog 201 [.ar 16 0] (aD (ga x k u)) 32
  (cG 32 (λr es=>r= .cE (.aw [])/\es=ga (vu x k) k u)):=by
 have hu:Gx x k=x.aq.ab[k].ua:=by
  grind [Gx]
 have hJ:=ai5 x.dy k x.aq.ab[k].ua hg;unfold vu;rw [hu];generalize zO x.dy k x.aq.ab[k].ua=y at*;obtain ⟨g,kept⟩:=y;dsimp only at*;have hE:=O3 {x with dy:=g} k u k;have o9:0+(k:Int).toNat*18+9=k*18+9:=om;have hfl:=xj x.aq.ab;have hL:=Ki (enc:=cr) (sz:=18) (λ_=>rfl) hk (j:=9) (x:= .aa .i64 x.aq.ab[k].ua) rfl;refine bn Tryz.func201 ?_;refine ak ?_;rw [o9];refine ⟨_,hL,?_⟩;refine ak ?_;cases kept with
 |true=>
  rw [if_pos rfl];exact bm
 |false=>
  rw [if_neg dd];exact bm
def An (x:aV) (k:Nat) (u:dt):aV:=
 jT (gy {x with br:=(dR x.br (lK x k)).1,bG:=⟨(x.bG.eI (dR x.br (lK x k)).2.2.ab).dI,(x.bG.eI (dR x.br (lK x k)).2.2.ab).ab⟩} k λt=>
  {t with dT:=(dR x.br (lK x k)).2.1,lh:=x.ca,ua:=(x.bG.eI (dR x.br (lK x k)).2.2.ab).ab.length}) k u
theorem ai3 (x:aV) (k:Nat) (u:dt):vr x k u=if (lK x k).dD=13/\(dR x.br (lK x k)).2.1.vk=0 then yz (An x k u) k else An x k u:=rfl
theorem O5 {T:Nat} {m:bM} (h:ji T m) (hT:T<=1000000):py m:=
 ⟨h.ja,by have:=h.qM;omega,Nat.le_trans h.yH dd,λs hs=>by obtain ⟨g,g1,g2⟩:=h.vC s hs;grind [vL],Nat.le_trans h.yI dd,λw hw=>Nat.le_trans (h.vD w hw).1 dd⟩
theorem Kn {l:List cd} {k:Nat} (hk:k<l.length) {b:cd} {p y x s:List ae} (h1:cr l[k]=p++(y++s)) (h2:cr b=p++(x++s)) {i j:Nat} (hi:i=k*18+p.length) (hj:j=i+y.length):
  ((l.map cr).flatten).take i++x++((l.map cr).flatten).drop j=((l.set k b).map cr).flatten:=by
 subst hj;subst hi;have e:l=l.take k++l[k]::l.drop (k+1):=by simp_all
 have hl:(((l.take k).map cr).flatten).length=k*18:=by grind [xj]
 have e2:(l.map cr).flatten=(((l.take k).map cr).flatten++p)++(y++(s++((l.drop (k+1)).map cr).flatten)):=by
  grind
 have e3:((l.set k b).map cr).flatten=(((l.take k).map cr).flatten++p)++(x++(s++((l.drop (k+1)).map cr).flatten)):=by
  grind
 have h3:(((l.take k).map cr).flatten++p).length=k*18+p.length:=by grind
 grind [List.drop_left']
theorem ajb (u:dt) (t:cd):(nJ t u).dN=t.dN:=by
 grind [nJ]
theorem O6 {L:List ae} {a b c d e:ae} {k:Nat} (h:k+5<=L.length):(L.take k++[a,b,c,d,e]++L.drop (k+5)).length=L.length:=by
 grind [List.length_cons]
theorem XG (l:List aH):fL (l.map cI).flatten=true:=xa (λ_=>rfl) l
theorem ajc (a b:cj aH) (hq:a.ab=[]->a.dI=true) (hl:a.ab.length+b.ab.length<=1000000):
  aC Tryz.prog 236 [(.ag false 1 [[cv 7 cI a],[cv 7 cI b]] .av)] (cv 7 cI ⟨(a.eI b.ab).dI,(a.eI b.ab).ab⟩):=by
 have h:=aht a.bZ b.bZ (a.ab.map cI) (b.ab.map cI) (λe he=>by obtain ⟨z,_,rfl⟩:=List.mem_map.1 he;rfl) (λe he=>by obtain ⟨z,_,rfl⟩:=List.mem_map.1 he;rfl) (XG _) (XG _) (by grind);have e:cv 7 cI ⟨(a.eI b.ab).dI,(a.eI b.ab).ab⟩= .ag (a.ab.map cI++b.ab.map cI).isEmpty 7 (a.ab.map cI++b.ab.map cI) .av:=by
  show ae.ag ((a.dI && b.ab.isEmpty) && (a.ab++b.ab).isEmpty) 7 ((a.ab++b.ab).map cI) .av=_;rw [List.map_append];refine congrArg (λq=>ae.ag q 7 (a.ab.map cI++b.ab.map cI) .av) ?_;cases ha:a.ab with
  |nil=>
   simp_all
  |cons x r=>simp
 rw [e];exact h
def oI (a:l7) (time:Int) (up:Nat) (t:cd):cd:={t with dT:=a,lh:=time,ua:=up}
theorem aja {l:List cd} {k:Nat} (hk:k<l.length) (a:l7) (time:Int) (up:Nat):
  List.take (k*18+9) (List.take (k*18+11) (List.take (k*18+13) (l.map cr).flatten++yD a++List.drop (k*18+13+5) (l.map cr).flatten)++[.aa .i64 time]++List.drop (k*18+11+1) (List.take (k*18+13) (l.map cr).flatten++yD a++List.drop (k*18+13+5) (l.map cr).flatten))++[.aa .i64 up]++
   List.drop (k*18+9+1) (List.take (k*18+11) (List.take (k*18+13) (l.map cr).flatten++yD a++List.drop (k*18+13+5) (l.map cr).flatten)++[.aa .i64 time]++List.drop (k*18+11+1) (List.take (k*18+13) (l.map cr).flatten++yD a++List.drop (k*18+13+5) (l.map cr).flatten))=((l.set k (oI a time up l[k])).map cr).flatten:=by
 have h1:=Kn hk (b:={l[k] with dT:=a}) (p:=(cr l[k]).take 13) (y:=yD l[k].dT) (s:=[]) (x:=yD a) rfl rfl (i:=k*18+13) (j:=k*18+13+5) rfl rfl;have k1:k<(l.set k {l[k] with dT:=a}).length:=by simp_all
 have e1:(l.set k {l[k] with dT:=a})[k]'k1={l[k] with dT:=a}:=by simp_all
 have h2:=Kn k1 (b:={l[k] with dT:=a,lh:=time}) (p:=(cr {l[k] with dT:=a}).take 11) (y:=[.aa .i64 l[k].lh]) (s:=(cr {l[k] with dT:=a}).drop 12) (x:=[.aa .i64 time]) (by rw [e1];rfl) rfl (i:=k*18+11) (j:=k*18+11+1) rfl rfl;rw [List.set_set] at h2;have k2:k<(l.set k {l[k] with dT:=a,lh:=time}).length:=by simp_all
 have e2:(l.set k {l[k] with dT:=a,lh:=time})[k]'k2={l[k] with dT:=a,lh:=time}:=by simp_all
 have h3:=Kn k2 (b:=oI a time up l[k]) (p:=(cr {l[k] with dT:=a,lh:=time}).take 9) (y:=[.aa .i64 l[k].ua]) (s:=(cr {l[k] with dT:=a,lh:=time}).drop 10) (x:=[.aa .i64 up]) (by rw [e2];rfl) rfl (i:=k*18+9) (j:=k*18+9+1) rfl rfl;simp_all
theorem ai9 {T:Nat} (x:aV) (k:Nat) (u:dt) (hT:T<=100000) (hx:eN T x) (hk:k<x.aq.ab.length) (hu:u.gu=3)
  (hAn:bz Tryz.prog 237 [.ar 16 0] (aD (ga (An x k u) k u)) 32 (cG 32 (λr es=>r= .cE (.aw [])/\es=ga (yz (An x k u) k) k u))):bz Tryz.prog 200 [.ar 16 0] (aD (ga x k u)) 32
  (cG 32 (λr es=>r= .cE (.aw [])/\es=ga (vr x k u) k u)):=by
 have hc:lK x k=x.aq.ab[k].dN:=by
  grind [lK]
 have hth:=hx.gC.oG _ (List.getElem_mem hk);have hD:=OT x.br x.aq.ab[k].dN (O5 hx.jb om) (Nat.le_trans hth.rK dd) (Nat.le_trans hth.uu dd) (Nat.le_trans hth.vH dd);have hdo:=Eg hx.jb x.aq.ab[k].dN;have hops:=hx.sS;have hfew:=hx.jb.ja.qL;have hfl:=xj x.aq.ab;have o0:0+(k:Int).toNat*18=k*18:=om;have hL5:=vA (enc:=cr) (sz:=18) (λ_=>rfl) hk;rw [ai3];unfold An at*;rw [hc] at hAn ⊢;change bz _ _ _ (aD (ga (jT (gy _ k (oI (dR x.br x.aq.ab[k].dN).2.1 x.ca (x.bG.eI (dR x.br x.aq.ab[k].dN).2.2.ab).ab.length)) k u) k u)) _ (cG 32 (λr es=>r= .cE (.aw [])/\es=ga (yz (jT (gy _ k (oI (dR x.br x.aq.ab[k].dN).2.1 x.ca (x.bG.eI (dR x.br x.aq.ab[k].dN).2.2.ab).ab.length)) k u) k) k u)) at hAn;change bz _ _ _ _ _ (cG 32 (λr es=>r= .cE (.aw [])/\es=ga (if x.aq.ab[k].dN.dD=13/\(dR x.br x.aq.ab[k].dN).2.1.vk=0 then yz (jT (gy _ k (oI (dR x.br x.aq.ab[k].dN).2.1 x.ca (x.bG.eI (dR x.br x.aq.ab[k].dN).2.2.ab).ab.length)) k u) k else (jT (gy _ k (oI (dR x.br x.aq.ab[k].dN).2.1 x.ca (x.bG.eI (dR x.br x.aq.ab[k].dN).2.2.ab).ab.length)) k u)) k u));generalize dR x.br x.aq.ab[k].dN=y at*;obtain ⟨m,a,ops⟩:=y;have hcnt:=hdo.BS.Ee;have hmf:=hdo.BS.z7.qL;have han:=hdo.Of;dsimp only at*;have hC:=ajc x.bG ops hx.uv om;have hthk:=Ao hx.gC om x.aq.ab[k] (List.getElem_mem hk);obtain ⟨k',hk',hk2,hset⟩:=B8 (l:=x.aq.ab) (n:=k) (f:=oI a x.ca (x.bG.eI ops.ab).ab.length) om om;obtain rfl:k=k':=om;have hX2:gy {x with br:=m,bG:=⟨(x.bG.eI ops.ab).dI,(x.bG.eI ops.ab).ab⟩} k (oI a x.ca (x.bG.eI ops.ab).ab.length)={x with br:=m,bG:=⟨(x.bG.eI ops.ab).dI,(x.bG.eI ops.ab).ab⟩,aq:=⟨x.aq.dI,x.aq.ab.set k (oI a x.ca (x.bG.eI ops.ab).ab.length x.aq.ab[k])⟩}:=by
  grind [gy]
 rw [hX2] at hAn ⊢;have hel:∀ h:k<(x.aq.ab.set k (oI a x.ca (x.bG.eI ops.ab).ab.length x.aq.ab[k])).length,Kk ((x.aq.ab.set k (oI a x.ca (x.bG.eI ops.ab).ab.length x.aq.ab[k]))[k]'h):=λh=>by
  rw [List.getElem_set_self];exact ⟨hthk.G3,Nat.le_trans han.1 dd,Nat.le_trans han.2 dd,hthk.O2,hthk.OZ⟩
 have hB:=Kl {x with br:=m,bG:=⟨(x.bG.eI ops.ab).dI,(x.bG.eI ops.ab).ab⟩,aq:=⟨x.aq.dI,x.aq.ab.set k (oI a x.ca (x.bG.eI ops.ab).ab.length x.aq.ab[k])⟩} k u (by simp_all)
  (hel _) (.inr (.inr (.inl hu)))
 have hZ1:k<(jT {x with br:=m,bG:=⟨(x.bG.eI ops.ab).dI,(x.bG.eI ops.ab).ab⟩,aq:=⟨x.aq.dI,x.aq.ab.set k (oI a x.ca (x.bG.eI ops.ab).ab.length x.aq.ab[k])⟩} k u).aq.ab.length:=by
  show k<(gA (x.aq.ab.set k _) k _).length;grind [Ei]
 have hZ2:((jT {x with br:=m,bG:=⟨(x.bG.eI ops.ab).dI,(x.bG.eI ops.ab).ab⟩,aq:=⟨x.aq.dI,x.aq.ab.set k (oI a x.ca (x.bG.eI ops.ab).ab.length x.aq.ab[k])⟩} k u).aq.ab[k]'hZ1).dN=x.aq.ab[k].dN:=by
  have hm:(jT {x with br:=m,bG:=⟨(x.bG.eI ops.ab).dI,(x.bG.eI ops.ab).ab⟩,aq:=⟨x.aq.dI,x.aq.ab.set k (oI a x.ca (x.bG.eI ops.ab).ab.length x.aq.ab[k])⟩} k u).aq.ab.map (·.dN)=(x.aq.ab.set k (oI a x.ca (x.bG.eI ops.ab).ab.length x.aq.ab[k])).map (·.dN):=by
   show (gA (x.aq.ab.set k _) k _).map (·.dN)=_;grind [gA,XD,List.map_set,ajb]
  have:=congrArg (λl=>l[k]?) hm;simp only [List.getElem?_map,List.getElem?_eq_getElem hZ1,List.getElem?_set_self hk,Option.map_some] at this;exact Option.some.inj this
 generalize jT {x with br:=m,bG:=⟨(x.bG.eI ops.ab).dI,(x.bG.eI ops.ab).ab⟩,aq:=⟨x.aq.dI,x.aq.ab.set k (oI a x.ca (x.bG.eI ops.ab).ab.length x.aq.ab[k])⟩} k u=Z at*;have hL0:=Ki (enc:=cr) (sz:=18) (λ_=>rfl) hZ1 (j:=0) (x:= .aa .i64 (Z.aq.ab[k]'hZ1).dN.dD) rfl;rw [hZ2] at hL0;have o00:0+(k:Int).toNat*18+0=k*18+0:=om;refine bn Tryz.func200 ?_;refine ak ?_;rw [o0];refine ak ?_;have hQ:=Eu hL5 0 5 dd;refine ak ?_;refine ⟨Nat.le_trans om (Nat.le_of_eq (O6 om).symm),?_⟩
 conv=>whnf
 refine ⟨Nat.le_trans om (Nat.le_of_eq ((XE (Nat.le_trans om (Nat.le_of_eq (O6 om).symm))).trans (O6 om)).symm),?_⟩
 conv=>whnf
 refine bz.tE (es:=ga {x with br:=m,bG:=⟨(x.bG.eI ops.ab).dI,(x.bG.eI ops.ab).ab⟩,aq:=⟨x.aq.dI,x.aq.ab.set k (oI a x.ca (x.bG.eI ops.ab).ab.length x.aq.ab[k])⟩} k u) (es':=ga Z k u) ⟨?_,rfl,?_,rfl,trivial⟩ rfl rfl (uQ rfl rfl rfl) dd rfl rfl hB ?_
 ·exact congrArg (λn=>bs.au 235 (nf {x with br:=m,bG:=⟨(x.bG.eI ops.ab).dI,(x.bG.eI ops.ab).ab⟩} k u n)) (List.length_set).symm
 ·exact congrArg (bs.aR _) ((aja hk a x.ca _).trans (by simp_all))
 refine ak ?_;rw [o0];refine ⟨_,hL0,?_⟩
 conv=>whnf
 refine ⟨λh1=>?_,λh1=>?_⟩
 ·have h1:=eq_of_beq h1;refine ak ?_;refine ⟨λh2=>?_,λh2=>?_⟩
  ·have h2:=eq_of_beq h2;rw [if_pos ⟨h1,h2⟩];exact bm
  ·rw [if_neg (λq=>by simp_all)];exact bm
 ·rw [if_neg (λq=>by simp_all)];exact bm
theorem aje (y:aV) (who:Int) (u:dt) (full:Bool) (l pad:List fI) (hl:l.length<=1048576):bz Tryz.prog 230 [.aL 43 0 2 l.length full, .aP 192 [] [.ar 32 0]] (aD [(.af 43, .aR 331 (((l++pad).map dz).flatten)),(.af 16, .au 235 (nf y who u y.aq.ab.length)),(.af 31, .aR 78 ((y.aq.ab.map cr).flatten)),(.af 32, .au 231 [.ar 16 0])]) 44 (cG 44 (λx es=>x= .cE (.aa .i64 (fR (λw=>decide (w.fJ=who)) l))/\es=[(.af 43, .aR 331 (((l++pad).map dz).flatten)),(.af 16, .au 235 (nf y who u y.aq.ab.length)),(.af 31, .aR 78 ((y.aq.ab.map cr).flatten)),(.af 32, .au 231 [.ar 16 0])])):=zW Tryz.func230 Tryz.func192 hl
theorem ajd (y:aV) (who:Int) (u:dt) (full:Bool) (l:List fI) (hl:l.length<=1048576):bz Tryz.prog 193 [.aL 43 0 2 l.length full, .aP 192 [] [.ar 32 0]] (aD [(.af 43, .aR 331 (((l).map dz).flatten)),(.af 16, .au 235 (nf y who u y.aq.ab.length)),(.af 31, .aR 78 ((y.aq.ab.map cr).flatten)),(.af 32, .au 231 [.ar 16 0])]) 44 (cG 44 (λx es=>x= .cE (.aL 43 0 2 (l.filter λa=>!(λw=>decide (w.fJ=who)) a).length full)/\es=[(.af 43, .aR 331 (((l.filter λa=>!(λw=>decide (w.fJ=who)) a).map dz).flatten)),(.af 16, .au 235 (nf y who u y.aq.ab.length)),(.af 31, .aR 78 ((y.aq.ab.map cr).flatten)),(.af 32, .au 231 [.ar 16 0])])):=by
 have hi:=aje y who u full l [] hl;rw [List.append_nil] at hi;exact GH Tryz.func193 Tryz.func192 hl hi
end Go.Proofs.YtffboamedcmpaaaGreatDoor
namespace Go.Am
section
variable {P:Program} {σ:az} {n:Nat}
theorem db.ajf {r:Option Nat} {nt lo:Nat} {c:Code} {K:Exit->az->Nat->Prop} (id:Nat) {mt:TypeId} {cells cells':List ae} (hs:σ (.af id)= .aR mt cells) (hc:mO cells cells') (h:db P r nt lo c (aU σ (.af id) (.aR mt cells')) n K):db P r nt lo c σ n K:=by
 refine ⟨λb t a w hl hsim=>h.jG b t a w hl ?_⟩;obtain ⟨g,hh,hf,hE,hn⟩:=hsim;obtain ⟨c',hc',_⟩:=hh.dq id (by rw [hs];rfl);obtain ⟨arr,z,ha1,ha2,ha3,ha4⟩:=hh.oN id mt _ c' hs hc';refine ⟨g,(hh.j8 (X:= .aR mt cells') (by rw [hs];rfl) hc' (kj.xS c' w) (λ_=>⟨arr,z,ha1,by grind [hc.v7],ha3,λi x v hx hv=>?_⟩)).1,hf.qo (λi=>by trivial),hE,hn⟩;have hi:i<cells.length:=by grind [hc.v7]
 exact (hc.CM i _ x (List.getElem?_eq_getElem hi) hx).pH _ _ _ (ha4 i _ v (List.getElem?_eq_getElem hi) hv)
theorem mO.O7:∀ {a b c d:List ae},mO a b->mO c d->mO (a++c) (b++d)
 |_,_,_,_, .fa,h=>h
 |_,_,_,_, .aX x t,h=> .aX x (mO.O7 t h)
end
end Go.Am
namespace Go.Proofs.YtffboamedcmpaaaGreatDoor
open Gw
open Go.Am
theorem ajg {P:Program} {m0 n:Nat} {f:FuncId} {args:List ae} {σ:az} {rx:List Go.Am.aS} {l0 l1 l2 l3:Go.Am.aS} {c0 c1 c2 c3:bs} {res:ae} (h:mi P m0 f args σ n rx [(l0,c0),(l1,c1),(l2,c2),(l3,c3)] res) (n1:l1≠l0) (n2:l2≠l0) (n3:l3≠l0) (m1:l1∈rx) (m2:l2∈rx) (m3:l3∈rx) (e1:σ l1=c1) (e2:σ l2=c2) (e3:σ l3=c3):mi P m0 f args σ n rx [(l0,c0)] res:=
 ⟨h.AI,λσ' ha b D g w vals h1 h2 h3 h4 h5 h6=>by
  have:=h.AJ σ' ha b D g w vals h1 h2 h3 h4 h5 h6;have e:eG σ' [(l0,c0),(l1,c1),(l2,c2),(l3,c3)]=eG σ' [(l0,c0)]:=by
   show aU (aU (aU (aU σ' l0 c0) l1 c1) l2 c2) l3 c3=aU σ' l0 c0;rw [B7 ((cL n1).trans ((ha l1 m1).trans e1)),B7 ((cL n2).trans ((ha l2 m2).trans e2)),B7 ((cL n3).trans ((ha l3 m3).trans e3))]
  simp_all⟩
theorem ajj (l:List fI):fL (l.map dz).flatten=true:=xa (λ_=>rfl) l
abbrev XH (x:aV) (k:Int) (u:dt):List (Am.aS×bs):=[(.af 16, .au 235 (nf x k u x.aq.ab.length)),(.af 31, .aR 78 ((x.aq.ab.map cr).flatten)),(.af 32, .au 231 [.ar 16 0])]
theorem aji (x:aV) (k:Nat) (u:dt) (a:fI) (r:List fI) (hw:x.dy.gi.ab=a::r) (hl:(a::r).length<=1000000) (hk:k<x.aq.ab.length):bz Tryz.prog 121 [.ar 16 0, .aE true] (aD (ga x k u)) 32
  (cG 32 (λr es=>r= .cE (.aw [])/\es=ga (qH x k true) k u)):=by
 have hcl:((a::r).map dz).length=(a::r).length:=List.length_map _;obtain ⟨model,table,⟨kept,⟨wq,W⟩⟩,threads,time,ops⟩:=x;dsimp only at hw hk;subst hw;have hcs:nz Tryz.prog 194 [.ag (cj.bZ ⟨wq,a::r⟩) 2 ((a::r).map dz) .av] 331 2 (a::r).length ((a::r).map dz).flatten:=by
  grind [cj.bZ,NO]
 have hd:=ajd ⟨model,table,⟨kept,⟨wq,a::r⟩⟩,threads,time,ops⟩ k u true (a::r) om;refine bz.xG dW (fn:=Tryz.f121) aG rfl aG rfl rfl ?_;refine eK ?_;refine db.CF (db.CF (se dW jd _ _ _ _ ?_))
 conv=>whnf
 refine db.CE rfl ⟨λ_=>?_,λh=>absurd h dd⟩;refine eK ?_;refine db.wh ?_;refine eK ?_;refine ⟨0,_,_,_,rfl,mi.tF hcs rfl,rfl,?_⟩
 conv=>whnf
 refine ⟨0,_,_,_,rfl,ajg (mi.G0 (m:=44) (res:= .aL 43 0 2 ((a::r).filter λw:fI=>!decide (w.fJ=(k:Int))).length true) (es:=(.af 43, .aR 331 (((a::r).map dz).flatten))::XH ⟨model,table,⟨kept,⟨wq,a::r⟩⟩,threads,time,ops⟩ k u) (es':=(.af 43, .aR 331 ((((a::r).filter λw:fI=>!decide (w.fJ=(k:Int))).map dz).flatten))::XH ⟨model,table,⟨kept,⟨wq,a::r⟩⟩,threads,time,ops⟩ k u) ⟨rfl,rfl,rfl,rfl,rfl,rfl,rfl,rfl,trivial⟩ rfl rfl rfl rfl rfl rfl hd) (by intro e;cases e) (by intro e;cases e) (by intro e;cases e) (by simp) (by simp) (by simp) rfl rfl rfl,rfl,?_⟩;refine ak ?_;refine db.LF ?_;refine db.OO 16 10 43 (((a::r).filter λw:fI=>!decide (w.fJ=(k:Int))).map dz) rfl rfl rfl rfl (List.length_map _) (λel hel=>by obtain ⟨z,_,rfl⟩:=List.mem_map.1 hel;rfl) (ajj _) rfl ?_;have hfl:=xj threads.ab;have o0:0+(k:Int).toNat*18+13=k*18+13:=om;obtain ⟨k',hk',hk2,hset⟩:=B8 (l:=threads.ab) (n:=k) (f:=λt=>{t with dT:=fg 120}) om om;obtain rfl:k=k':=om;have hY:gy ⟨model,table,⟨kept,cj.gL ⟨wq,a::r⟩ λw=>decide (w.fJ=(k:Int))⟩,threads,time,ops⟩ k (λt=>{t with dT:=fg 120})=⟨model,table,⟨kept,cj.gL ⟨wq,a::r⟩ λw=>decide (w.fJ=(k:Int))⟩,⟨threads.dI,threads.ab.set k {threads.ab[k] with dT:=fg 120}⟩,time,ops⟩:=by
  grind [gy]
 have hK:qH ⟨model,table,⟨kept,⟨wq,a::r⟩⟩,threads,time,ops⟩ k true=kD (gy ⟨model,table,⟨kept,cj.gL ⟨wq,a::r⟩ λw=>decide (w.fJ=(k:Int))⟩,threads,time,ops⟩ k (λt=>{t with dT:=fg 120})) k:=rfl;rw [hK,hY];have hE:=O3 ⟨model,table,⟨kept,cj.gL ⟨wq,a::r⟩ λw=>decide (w.fJ=(k:Int))⟩,⟨threads.dI,threads.ab.set k {threads.ab[k] with dT:=fg 120}⟩,time,ops⟩ k u k;have hflag:cj.bZ (cj.gL ⟨wq,a::r⟩ λw:fI=>decide (w.fJ=(k:Int)))=false:=by cases wq<;>rfl
 generalize kD ⟨model,table,⟨kept,cj.gL ⟨wq,a::r⟩ λw=>decide (w.fJ=(k:Int))⟩,⟨threads.dI,threads.ab.set k {threads.ab[k] with dT:=fg 120}⟩,time,ops⟩ k=Z at*;have hlt18:k*18+13+5<=((threads.ab.map cr).flatten).length:=om;refine eK ?_;refine ⟨⟨Int.natCast_nonneg k,by trivial⟩,?_⟩
 conv=>whnf
 rw [o0];refine ⟨hlt18,?_⟩;refine ak ?_;refine db.ajf 31 (cells':=((threads.ab.set k {threads.ab[k] with dT:=fg 120}).map cr).flatten) rfl ?_ ?_
 ·rw [<-Kn hk (b:={threads.ab[k] with dT:=fg 120}) (p:=(cr threads.ab[k]).take 13) (y:=yD threads.ab[k].dT) (s:=[]) (x:=yD (fg 120)) rfl rfl (i:=k*18+13) (j:=k*18+13+5) rfl rfl];exact mO.O7 (mO.O7 (mO.E5 _) (.aX (.bw _) (.aX (.bw _) (.aX (.bw _) (.aX (.bw _) (.aX (.eR _ _ _) .fa)))))) (mO.E5 _)
 refine cn ?_;refine .inr ⟨aG,aG,?_⟩;refine bz.tE (es:=ga ⟨model,table,⟨kept,cj.gL ⟨wq,a::r⟩ λw=>decide (w.fJ=(k:Int))⟩,⟨threads.dI,threads.ab.set k {threads.ab[k] with dT:=fg 120}⟩,time,ops⟩ k u) (es':=ga Z k u) ⟨?_,rfl,rfl,rfl,trivial⟩ rfl rfl (uQ rfl rfl rfl) dd rfl rfl hE ?_
 ·have e1:cv 2 dz (cj.gL ⟨wq,a::r⟩ λw:fI=>decide (w.fJ=(k:Int)))= .ag false 2 (((a::r).filter λw:fI=>!decide (w.fJ=(k:Int))).map dz) .av:=by
   unfold cv;rw [hflag];rfl
  refine congrArg (bs.au 235) ?_;unfold nf;simp_all
 exact bm
theorem ajh (x:aV) (k:Nat) (u:dt) (hl:x.dy.gi.ab.length<=1000000):bz Tryz.prog 121 [.ar 16 0, .aE false] (aD (ga x k u)) 32
  (cG 32 (λr es=>r= .cE (.aw [])/\es=ga (qH x k false) k u)):=by
 have hD:=aiQ x.dy x.bG.ab.length hl;have hol:(x.bG.ab.map cI).length=x.bG.ab.length:=List.length_map _;have hgl:(w6 x.dy x.bG.ab.length).2.ab.length<=x.dy.gi.ab.length:=by
  show ((x.dy.gi.ab.filter _).map _).length<=_;grind
 have hK:qH x k false=(w6 x.dy x.bG.ab.length).2.ab.foldl kD {x with dy:=(w6 x.dy x.bG.ab.length).1}:=rfl;rw [hK];generalize w6 x.dy x.bG.ab.length=y at*;obtain ⟨g,gone⟩:=y;dsimp only at*;rw [<-hol] at hD;refine bn Tryz.func121 ?_;refine ak ?_;have hel:(gone.ab.map ie).length=gone.ab.length:=List.length_map _;refine db.cK (X:=Nat) (λj=>[(.aj 2, .ah (.ar 32 0)),(.aj 63, .ah (cv 1 ie gone)),(.aj 64, .ah (.aa .i64 gone.ab.length)),(.aj 65, .ah (.aa .i64 j)),
  (.af 16, .au 235 (nf ((gone.ab.take j).foldl kD {x with dy:=g}) k u ((gone.ab.take j).foldl kD {x with dy:=g}).aq.ab.length)),(.af 31, .aR 78 ((((gone.ab.take j).foldl kD {x with dy:=g}).aq.ab.map cr).flatten)),(.af 32, .au 231 [.ar 16 0])]) 33
  (λj=>j<=gone.ab.length) (λj=>gone.ab.length - j) dd 0 (Nat.zero_le _) ⟨rfl,rfl,rfl,rfl,?_,rfl,rfl,rfl,rfl,rfl,rfl,rfl,rfl,rfl,trivial⟩ ?_
 ·show bs.ah (ae.aa .i64 ((gone.ab.map ie).length:Nat))=_;rw [hel]
 rintro j hj;refine cn ?_;refine ⟨λh=>?_,λh=>?_⟩
 ·have h:=of_decide_eq_true h;have hlt:j<gone.ab.length:=om;have hg:=lN ie hlt;have w1:IntKind.i64.wrap ((j:Int)+1)=((j+1:Nat):Int):=by grind [bj]
  have hF:(gone.ab.take (j+1)).foldl kD {x with dy:=g}=kD ((gone.ab.take j).foldl kD {x with dy:=g}) gone.ab[j]:=by grind [List.take_succ_eq_append_getElem]
  have hE:=O3 ((gone.ab.take j).foldl kD {x with dy:=g}) k u gone.ab[j];generalize (gone.ab.take j).foldl kD {x with dy:=g}=Z at*;generalize gone.ab[j]=z at*
  conv=>whnf
  refine ⟨_,⟨om,hg⟩,?_⟩
  conv=>whnf
  refine bz.tE (es:=ga Z k u) (es':=ga (kD Z z) k u) ⟨rfl,rfl,rfl,rfl,trivial⟩ rfl rfl (uQ rfl rfl rfl) dd rfl rfl hE ?_
  conv=>whnf
  refine ⟨j+1,om,by grind,⟨rfl,rfl,rfl,rfl,rfl,rfl,?_,rfl,?_,rfl,?_,rfl,rfl,rfl,trivial⟩⟩
  ·exact dh
  ·rw [hF];rfl
  ·rw [hF];rfl
 ·have h:=of_decide_eq_false h;obtain rfl:j=gone.ab.length:=om;rw [List.take_length];exact bm
end Go.Proofs.YtffboamedcmpaaaGreatDoor
namespace Gw
def G4 (x:aV) (n:Nat):aV:=gy {x with cM:=(j7 x.cM n).1} n i6
theorem ajn {T:Nat} {x:aV} (h:fS T x) (n i:Nat):fS T (((j7 x.cM n).2.ab.take i).foldl jE (G4 x n)):=by
 have h1:=h.vF;have h2:=h.vE;have h3:=h.nO;unfold G4;obtain ⟨a1,a2⟩:=On x.cM n;generalize j7 x.cM n=y at*;obtain ⟨t,p⟩:=y;dsimp only at*;have hb:fS T (gy {x with cM:=t} n i6):=by
  refine BW (x:={x with cM:=t}) ⟨h.ma,h.oG,?_,?_,?_⟩ n _ V7 (λ_=>Nat.zero_le _) λ_=>Nat.zero_le _
  ·grind
  ·grind
  grind
 have q1:gB kS (gA x.aq.ab n i6)<=gB kS x.aq.ab+0:=by
  unfold gA;split
  ·exact Nat.le_refl _
  ·exact BV _ _ λ_ _=>Nat.zero_le _
 have q2:gB kR (gA x.aq.ab n i6)<=gB kR x.aq.ab+0:=by
  unfold gA;split
  ·exact Nat.le_refl _
  ·exact BV _ _ λ_ _=>Nat.zero_le _
 have q3:(p.ab.take i).length<=p.ab.length:=by grind
 refine Oj (p.ab.take i) hb.ma hb.oG ?_ ?_ hb.nO
 ·show gB kS (gA x.aq.ab n i6)+_+t.di.ab.length<=T;omega
 ·show gB kR (gA x.aq.ab n i6)+_+t.di.ab.length<=T;omega
theorem ajo (x:aV) (h:bX):(jE x h).aq.ab.length=x.aq.ab.length:=Ei _ _ _
theorem XJ:∀ (l:List bX) (x:aV),(l.foldl jE x).aq.ab.length=x.aq.ab.length
 |[],_=>rfl
 |h::l,x=>(XJ l (jE x h)).trans (ajo x h)
theorem ajm (who:Int) (x:aV) (n:Nat):(ln who x n).aq.ab.length=x.aq.ab.length:=by
 unfold ln;split
 ·rfl
 ·split
  ·split;rename_i tb p _;exact (XJ p.ab (gy {x with cM:=tb} n i6)).trans (show (gA x.aq.ab n i6).length=_ from Ei _ _ _)
  ·rfl
theorem XI (who:Int):∀ (l:List Nat) (x:aV),(l.foldl (ln who) x).aq.ab.length=x.aq.ab.length
 |[],_=>rfl
 |n::l,x=>(XI who l (ln who x n)).trans (ajm who x n)
end Gw
namespace Go.Proofs.YtffboamedcmpaaaGreatDoor
open Gw
open Go.Am
theorem ajl (c:bu) (hp:c.bY.length<=1048576):∃ (q:Bool) (els:List (List ae)),aC Tryz.prog 273 [tX c] (.aw [.ag q 1 els .av, .aE (vm c)]):=by
 have hw:=OG c hp;unfold vm;cases hs:sF c with
 |zP=>
  rw [hs] at hw;refine ⟨true,[],?_⟩;refine bK Tryz.func273 ?_;exact dC
 |yx d=>
  rw [hs] at hw;refine ⟨true,[],?_⟩;refine bK Tryz.func273 ?_;exact dC
 |sC s=>
  have hl:=WW hs;have hc:=JH s.bZ (s.ab.map jv) (λh=>by rw [cj.wZ h];rfl) (by simp_all);rw [hs] at hw;refine ⟨s.bZ,s.ab.map jv,?_⟩;refine bK Tryz.func273 ?_;exact dC
theorem ajk {T:Nat} (x:aV) (k:Nat) (u:dt) (hT:T<=100000) (hx:fS T x):bz Tryz.prog 237 [.ar 16 0] (aD (ga x k u)) 32
  (cG 32 (λr es=>r= .cE (.aw [])/\es=ga (yz x k) k u)):=by
 have hthr:=hx.ma;have hN:yz x k=(List.range x.aq.ab.length).foldl (ln k) x:=rfl;rw [hN];refine bn Tryz.func237 ?_
 conv=>whnf
 refine db.cK (X:=Nat) (λj=>[(.aj 1, .ah (.ar 32 0)),(.aj 2, .ah (.aP 272 [] [.ar 32 0])),(.aj 14, .ah (.aa .i64 x.aq.ab.length)),(.aj 15, .ah (.aa .i64 j)),
  (.af 16, .au 235 (nf ((List.range j).foldl (ln k) x) k u ((List.range j).foldl (ln k) x).aq.ab.length)),(.af 31, .aR 78 ((((List.range j).foldl (ln k) x).aq.ab.map cr).flatten)),(.af 32, .au 231 [.ar 16 0])]) 33
  (λj=>j<=x.aq.ab.length) (λj=>x.aq.ab.length - j) dd 0 (Nat.zero_le _) ⟨rfl,rfl,rfl,rfl,rfl,rfl,rfl,rfl,rfl,rfl,rfl,rfl,rfl,rfl,trivial⟩ ?_
 rintro j hj;refine cn ?_;refine ⟨λh=>?_,λh=>?_⟩
 ·have h:=of_decide_eq_true h;have hlt:j<x.aq.ab.length:=om;have w1:IntKind.i64.wrap ((j:Int)+1)=((j+1:Nat):Int):=by grind [bj]
  have hF:(List.range (j+1)).foldl (ln k) x=ln k ((List.range j).foldl (ln k) x) j:=by grind [List.range_succ]
  have hZl:=XI k (List.range j) x;have hZt:=Ou k (List.range j) hx;generalize (List.range j).foldl (ln k) x=Z at*;have hjz:j<Z.aq.ab.length:=om;have hth:=hZt.oG _ (List.getElem_mem hjz);obtain ⟨vq,ve,hnm⟩:=ajl Z.aq.ab[j].dN (Nat.le_trans hth.rK dd);have hfl:=xj Z.aq.ab;have o0:0+(j:Int).toNat*18=j*18:=om;have o7:0+(j:Int).toNat*18+7=j*18+7:=om;have hL:=vA (enc:=cr) (sz:=18) (λ_=>rfl) hjz;have hQ:=Eu hL 0 5 dd;have hD:=Ki (enc:=cr) (sz:=18) (λ_=>rfl) hjz (j:=7) (x:= .aE Z.aq.ab[j].tZ) rfl;have hS:¬((j:Int)≠k/\vm Z.aq.ab[j].dN=true/\Z.aq.ab[j].tZ=false)->ln k Z j=Z:=λhn=>by
   grind [ln]
  have hS2:((j:Int)≠k/\vm Z.aq.ab[j].dN=true/\Z.aq.ab[j].tZ=false)->ln k Z j=(j7 Z.cM j).2.ab.foldl jE (G4 Z j):=λhn=>by
   unfold ln;rw [List.getElem?_eq_getElem hjz];dsimp only;rw [if_pos hn];rfl
  generalize hwk:vm Z.aq.ab[j].dN=wk at*;generalize hdn:Z.aq.ab[j].tZ=dn at*
  by_cases hjk:(j:Int)=k
  ·have hS:=hS λq=>q.1 hjk
   conv=>whnf
   refine bn Tryz.func272 ?_;refine ak ?_;rw [o0];refine ak ?_;refine ⟨λq=>?_,λ_=>?_⟩
   ·rw [hjk] at q;simp at q
   refine iV ?_;refine ⟨j+1,om,by grind,⟨rfl,rfl,rfl,rfl,rfl,rfl,?_,rfl,?_,rfl,?_,rfl,rfl,rfl,trivial⟩⟩
   ·exact dh
   ·rw [hF,hS];rfl
   ·rw [hF,hS];rfl
  cases wk with
  |false=>
   have hS:=hS λq=>by cases q.2.1
   conv=>whnf
   refine bn Tryz.func272 ?_;refine ak ?_;rw [o0];refine ak ?_;refine ⟨λ_=>?_,λq=>?_⟩
   ·refine iV ?_;refine ⟨j+1,om,by grind,⟨rfl,rfl,rfl,rfl,rfl,rfl,?_,rfl,?_,rfl,?_,rfl,rfl,rfl,trivial⟩⟩
    ·exact dh
    ·rw [hF,hS];rfl
    ·rw [hF,hS];rfl
   ·exact absurd (by simpa using q) hjk
  |true=>
   cases dn with
   |true=>
    have hS:=hS λq=>by cases q.2.2
    conv=>whnf
    refine bn Tryz.func272 ?_;refine ak ?_;rw [o0];refine ak ?_;refine ⟨λ_=>?_,λq=>absurd (by simpa using q) hjk⟩;refine ak ?_;rw [o7];refine ⟨_,hD,?_⟩;refine iV ?_;refine ⟨j+1,om,by grind,⟨rfl,rfl,rfl,rfl,rfl,rfl,?_,rfl,?_,rfl,?_,rfl,rfl,rfl,trivial⟩⟩
    ·exact dh
    ·rw [hF,hS];rfl
    ·rw [hF,hS];rfl
   |false=>
    have hS2:=hS2 ⟨hjk,rfl,rfl⟩;have hhl:=hZt.nO;have hDr:=afw Z.cM j om om;have htk:=Ao hZt om Z.aq.ab[j] (List.getElem_mem hjz);have hAg:=ahp Z.aq.ab[j] htk.G3 htk.O1 htk.O0;have hGt:=λi=>ajn hZt j i
    have hpl:(j7 Z.cM j).2.ab.length<=100000:=by
     have:=(On Z.cM j).2;omega
    obtain ⟨j',hj',hj2,hset⟩:=B8 (l:=Z.aq.ab) (n:=j) (f:=i6) om om;obtain rfl:j=j':=om;have hGv:G4 Z j={Z with cM:=(j7 Z.cM j).1,aq:=⟨Z.aq.dI,Z.aq.ab.set j (i6 Z.aq.ab[j])⟩}:=by
     grind [G4,gy]
    rw [hGv] at hS2 hGt;generalize j7 Z.cM j=D at*;obtain ⟨tb,passed⟩:=D;dsimp only at*
    conv=>whnf
    refine bn Tryz.func272 ?_;refine ak ?_;rw [o0];refine ak ?_;refine ⟨λ_=>?_,λq=>absurd (by simpa using q) hjk⟩;refine ak ?_;rw [o7];refine ⟨_,hD,?_⟩;refine ak ?_;rw [o0];refine cC ?_;rw [o0];refine cC ?_;refine ak ?_;have hWl:({Z with cM:=tb,aq:=⟨Z.aq.dI,Z.aq.ab.set j (i6 Z.aq.ab[j])⟩}:aV).aq.ab=Z.aq.ab.set j (i6 Z.aq.ab[j]):=rfl;have hWb:nf ({Z with cM:=tb,aq:=⟨Z.aq.dI,Z.aq.ab.set j (i6 Z.aq.ab[j])⟩}:aV) k u Z.aq.ab.length=nf ({Z with cM:=tb,aq:=⟨Z.aq.dI,Z.aq.ab.set j (i6 Z.aq.ab[j])⟩}:aV) k u ({Z with cM:=tb,aq:=⟨Z.aq.dI,Z.aq.ab.set j (i6 Z.aq.ab[j])⟩}:aV).aq.ab.length:=congrArg (nf _ k u) (List.length_set).symm;have hpel:(passed.ab.map bA).length=passed.ab.length:=List.length_map _;have hm:=O4 hjz (i6 Z.aq.ab[j]);rw [<-hWl] at hm;refine db.cK (X:=Nat) (λi=>[(.aj 1, .ah (.ar 32 0)),(.aj 2, .ah (.aP 272 [] [.ar 32 0])),(.aj 14, .ah (.aa .i64 x.aq.ab.length)),(.aj 15, .ah (.aa .i64 j)),(.aj 53, .ah (cv 2 bA passed)),(.aj 54, .ah (.aa .i64 passed.ab.length)),(.aj 55, .ah (.aa .i64 i)),
     (.af 16, .au 235 (nf ((passed.ab.take i).foldl jE {Z with cM:=tb,aq:=⟨Z.aq.dI,Z.aq.ab.set j (i6 Z.aq.ab[j])⟩}) k u ((passed.ab.take i).foldl jE {Z with cM:=tb,aq:=⟨Z.aq.dI,Z.aq.ab.set j (i6 Z.aq.ab[j])⟩}).aq.ab.length)),(.af 31, .aR 78 ((((passed.ab.take i).foldl jE {Z with cM:=tb,aq:=⟨Z.aq.dI,Z.aq.ab.set j (i6 Z.aq.ab[j])⟩}).aq.ab.map cr).flatten)),(.af 32, .au 231 [.ar 16 0])]) 33
     (λi=>i<=passed.ab.length) (λi=>passed.ab.length - i) dd 0 (Nat.zero_le _) ⟨rfl,rfl,rfl,rfl,rfl,rfl,rfl,rfl,rfl,rfl,?_,rfl,rfl,rfl,?_,rfl,?_,rfl,rfl,rfl,trivial⟩ ?_
    ·show bs.ah (ae.aa .i64 ((passed.ab.map bA).length:Nat))=_;rw [hpel]
    ·exact congrArg (bs.au _) hWb
    ·exact congrArg (bs.aR _) hm
    rintro i hi;refine cn ?_;refine ⟨λh=>?_,λh=>?_⟩
    ·have h:=of_decide_eq_true h;have hlt':i<passed.ab.length:=om;have hg:=lN bA hlt';have wi:IntKind.i64.wrap ((i:Int)+1)=((i+1:Nat):Int):=by grind [bj]
     have hF':(passed.ab.take (i+1)).foldl jE {Z with cM:=tb,aq:=⟨Z.aq.dI,Z.aq.ab.set j (i6 Z.aq.ab[j])⟩}=jE ((passed.ab.take i).foldl jE {Z with cM:=tb,aq:=⟨Z.aq.dI,Z.aq.ab.set j (i6 Z.aq.ab[j])⟩}) passed.ab[i]:=by grind [List.take_succ_eq_append_getElem]
     have hE:=XF ((passed.ab.take i).foldl jE {Z with cM:=tb,aq:=⟨Z.aq.dI,Z.aq.ab.set j (i6 Z.aq.ab[j])⟩}) k u passed.ab[i] (Ao (hGt i) om);generalize (passed.ab.take i).foldl jE {Z with cM:=tb,aq:=⟨Z.aq.dI,Z.aq.ab.set j (i6 Z.aq.ab[j])⟩}=Y at*;generalize passed.ab[i]=z at*
     conv=>whnf
     refine ⟨_,⟨om,hg⟩,?_⟩
     conv=>whnf
     refine bz.tE (es:=ga Y k u) (es':=ga (jE Y z) k u) ⟨rfl,rfl,rfl,rfl,trivial⟩ rfl rfl (uQ rfl rfl rfl) dd rfl rfl hE ?_
     conv=>whnf
     refine ⟨i+1,om,by grind,⟨rfl,rfl,rfl,rfl,rfl,rfl,rfl,rfl,rfl,rfl,rfl,rfl,?_,rfl,?_,rfl,?_,rfl,rfl,rfl,trivial⟩⟩
     ·exact dh
     ·rw [hF'];rfl
     ·rw [hF'];rfl
    ·have h:=of_decide_eq_false h;obtain rfl:i=passed.ab.length:=om;rw [List.take_length,<-hS2]
     conv=>whnf
     refine ⟨j+1,om,by grind,⟨rfl,rfl,rfl,rfl,rfl,rfl,?_,rfl,?_,rfl,?_,rfl,rfl,rfl,trivial⟩⟩
     ·exact dh
     ·rw [hF];rfl
     ·rw [hF];rfl
 ·have h:=of_decide_eq_false h;obtain rfl:j=x.aq.ab.length:=om;exact bm
end Go.Proofs.YtffboamedcmpaaaGreatDoor
namespace Gw
theorem XM (x:aV):∀ (l:List cd) (n:Nat) {z:Int},z∈js x n l->∃ (k:Nat) (t:cd),z=((n+k:Nat):Int)/\l[k]? =some t/\oC x (n+k) t=true
 |[],_,_,h=>by cases h
 |t::l,n,z,h=>by
  have next:z∈js x (n+1) l->∃ (k:Nat) (s:cd),z=((n+k:Nat):Int)/\(t::l)[k]? =some s/\oC x (n+k) s=true:=λq=>by
   obtain ⟨k,s,h1,h2,h3⟩:=XM x l (n+1) q;exact ⟨k+1,s,by rw [h1];omega,by simpa using h2,by grind⟩
  unfold js at h;split at h
  ·rename_i hc;rcases List.mem_cons.1 h with h|h
   ·exact ⟨0,t,h,rfl,hc⟩
   ·exact next h
  ·exact next h
theorem ajt {x:aV} {p:Int} {who:Int} {w:Bool} (h:qI x p=some (who,w)):who∈BF x/\w=rv x.dy who:=by
 unfold qI at h;cases ha:BF x with
 |nil=>simp_all
 |cons a l=>
  rw [ha] at h;dsimp only at h;have hlt:sM p (l.length+1)<(a::l).length:=by
   unfold sM;have h0:(0:Int)<((l.length+1:Nat):Int):=om;have b1:=Int.tmod_lt_of_pos (p.tmod ((l.length+1:Nat):Int)+((l.length+1:Nat):Int)) h0;simp_all
  grind
theorem aju {x:aV} {p:Int} {who:Int} {w:Bool} (h:qI x p=some (who,w)):∃ k:Nat,who=k/\∃ hk:k<x.aq.ab.length,oC x k x.aq.ab[k]=true/\w=rv x.dy k:=by
 obtain ⟨h1,h2⟩:=ajt h;obtain ⟨k,t,e,h3,h4⟩:=XM x x.aq.ab 0 h1;grind
theorem ajq (l:List aI) (t:cd) (c:bu):(DP l t c).gu=1\/(DP l t c).gu=3:=by
 grind [DP]
theorem ajr (l:List aI) (t:cd) (s:cj (List UInt8)):(w7 l t s).gu=1\/(w7 l t s).gu=2\/(w7 l t s).gu=3:=by
 grind [w7]
theorem ajs (l:List aI) (t:cd) (h:t.kf=false):(ub l t).gu=1\/(ub l t).gu=2\/(ub l t).gu=3\/(ub l t).gu=4\/(ub l t).gu=5:=by
 grind [ub,ajq,ajr]
end Gw
namespace Go.Proofs.YtffboamedcmpaaaGreatDoor
open Gw
open Go.Am
def XL:iC:=[(0, .aa .i64 1, .aP 198 [] []),(1, .aa .i64 2, .aP 199 [] []),(2, .aa .i64 3, .aP 200 [] []),(3, .aa .i64 4, .aP 201 [] []),(4, .aa .i64 5, .aP 202 [] [])]
theorem ajp:bz Tryz.prog 123 [] (aD []) 0 (cG 0 (λx e=>x= .sh 5 XL/\e=[])):=by
 refine bn Tryz.func123 ?_
 conv=>whnf
 refine mf.Fq rfl ?_
 conv=>whnf
 refine mf.k8 (kt:=3) (et:=237) (d:= .int .i64) aG aG (.inr rfl) rfl rfl rfl rfl (mG rfl) none rfl ?_
 conv=>whnf
 refine mf.k8 (kt:=3) (et:=237) (d:= .int .i64) aG aG (.inr rfl) rfl rfl rfl rfl (mG rfl) none rfl ?_
 conv=>whnf
 refine mf.k8 (kt:=3) (et:=237) (d:= .int .i64) aG aG (.inr rfl) rfl rfl rfl rfl (mG rfl) none rfl ?_
 conv=>whnf
 refine mf.k8 (kt:=3) (et:=237) (d:= .int .i64) aG aG (.inr rfl) rfl rfl rfl rfl (mG rfl) none rfl ?_
 conv=>whnf
 refine mf.k8 (kt:=3) (et:=237) (d:= .int .i64) aG aG (.inr rfl) rfl rfl rfl rfl (mG rfl) none rfl ?_
 conv=>whnf
 exact ⟨_,_,⟨rfl,rfl⟩,rfl,⟨1,Nat.zero_le _,rfl,rfl⟩,trivial⟩
theorem XK {σ:az} (Y:aV) (hne:Y.aq.ab≠[]) (h:σ (.af 31)= .aR 78 ((Y.aq.ab.map cr).flatten)):
  Am.km σ (.aK [cv 17 dY Y.br.aA.b8,cv 8 iF Y.br.aA.aQ, .aa .i64 Y.br.eC, .aa .i64 Y.br.iH,cv 2 iJ Y.br.dO,cv 4 ej Y.br.de, .aa .i64 Y.br.fz,
   cv 2 bA Y.cM.eW,cv 2 bA Y.cM.di, .aa .i64 Y.dy.nH,cv 2 dz Y.dy.gi, .aL 31 0 18 Y.aq.ab.length true, .aa .i64 Y.ca,cv 7 cI Y.bG]) (lM Y):=by
 have ho:=D3 (enc:=cr) (sz:=18) (full:=true) (λ_=>rfl) (λ_=>rfl) h;have he:cv 18 cr Y.aq= .ag false 18 (Y.aq.ab.map cr) .av:=by
  unfold cv;rw [show Y.aq.bZ=false by unfold cj.bZ;simp_all]
 rw [<-he] at ho;refine yE.zV ?_
 repeat (first|exact yE.mZ|refine yE.gM (.mh rfl) ?_|fail "end")
 refine yE.gM ho ?_
 repeat (first|exact yE.mZ|refine yE.gM (.mh rfl) ?_|fail "end")
theorem G5 {T:Nat} (x:aV) (p:Int) (full:Bool) (hT:T<=100000) (hx:eN T x) (k:Nat) (hk:k<x.aq.ab.length) (hp:qI x p=some ((k:Int),false)) (κ lk:Int) (hu:ub x.br.aA.aQ.ab x.aq.ab[k]=⟨κ,lk⟩) (fid:FuncId)
  (hfind:qv (.aa .i64 κ) XL=some (.aP fid [] [])) (Y:aV) (hne:Y.aq.ab≠[])
  (hac:bz Tryz.prog fid [.ar 16 0] (aD (ga {x with ca:=x.ca+1} k ⟨κ,lk⟩)) 32 (cG 32 (λr es=>r= .cE (.aw [])/\es=ga Y k ⟨κ,lk⟩))):aC Tryz.prog 71 [lM x, .aa .i64 p, .aE full] (lM Y):=by
 have hthr:=hx.gC.ma;have hheld:=hx.gC.nO;have hgrp:=hx.p8;have htm:=hx.p9;have hpk:=Kj x p om om om;rw [hp] at hpk;have hpk:aC Tryz.prog 69 [lM x, .aa .i64 p] (.aw [.aa .i64 (k:Int), .aE false, .aE true]):=hpk;have hth:=hx.gC.oG _ (List.getElem_mem hk);have htk:=Ao hx.gC om x.aq.ab[k] (List.getElem_mem hk);have hNx:=ahC x.br.aA.aQ.bZ x.br.aA.aQ.ab (B4 hx.jb.ja) (by have:=hx.jb.ja.BP;omega) x.aq.ab[k] (Nat.le_trans hth.rK dd) (Nat.le_trans hth.uu dd) htk.G3;rw [hu] at hNx;have w1:IntKind.i64.wrap (x.ca+1)=x.ca+1:=bj om om;have hfl:=xj x.aq.ab;have hL:=vA (enc:=cr) (sz:=18) (λ_=>rfl) hk;have o0:0+(k:Int).toNat*18=k*18:=om;have hcl:(x.aq.ab.map cr).length=x.aq.ab.length:=List.length_map _;have hcs:nz Tryz.prog 74 [.ag x.aq.bZ 18 (x.aq.ab.map cr) .av] 78 18 x.aq.ab.length (x.aq.ab.map cr).flatten:=by
  have hfg:x.aq.bZ=false:=by
   unfold cj.bZ;grind
  grind [NN]
 refine aC.Ex dW (fn:=Tryz.f71) aG rfl aG rfl rfl ?_;refine eK ?_;refine eK ?_;refine ak ?_;refine eK ?_;refine ak ?_;refine eK ?_;refine eK ?_;refine eK ?_;refine bz.xP hcs rfl ?_
 conv=>whnf
 refine eK ?_;refine ak ?_;refine eK ?_;refine ak ?_;rw [o0];refine ak ?_;refine db.wh ?_;refine eK ?_;refine ⟨0,_,_,_,rfl,mi.WT ajp,rfl,?_⟩
 conv=>whnf
 refine ⟨aG,aG,?_⟩;refine mf.xQ dW (kt:=3) (et:=237) (d:= .int .i64) aG aG rfl rfl aG rfl rfl (.inl rfl) rfl (mG rfl) (some (.aP fid [] [])) hfind ?_
 conv=>whnf
 refine ⟨aG,?_⟩
 conv=>whnf
 refine bz.tE (es:=ga {x with ca:=x.ca+1} k ⟨κ,lk⟩) (es':=ga Y k ⟨κ,lk⟩) ⟨?_,rfl,rfl,rfl,trivial⟩ rfl rfl (uQ rfl rfl rfl) dd rfl rfl hac ?_
 ·exact congrArg (λz=>bs.au 235 (nf {x with ca:=z} k ⟨κ,lk⟩ x.aq.ab.length)) w1
 conv=>whnf
 refine db.LF ?_;refine cn ?_;exact XK Y hne rfl
theorem ajw {T:Nat} (x:aV) (p:Int) (full:Bool) (hT:T<=100000) (hx:eN T x) (k:Nat) (hk:k<x.aq.ab.length) (hp:qI x p=some ((k:Int),true)) (Y:aV) (hne:Y.aq.ab≠[])
  (hac:bz Tryz.prog 121 [.ar 16 0, .aE full] (aD (ga {x with ca:=x.ca+1} k ⟨0,0⟩)) 32 (cG 32 (λr es=>r= .cE (.aw [])/\es=ga Y k ⟨0,0⟩))):aC Tryz.prog 71 [lM x, .aa .i64 p, .aE full] (lM Y):=by
 have hthr:=hx.gC.ma;have hheld:=hx.gC.nO;have hgrp:=hx.p8;have htm:=hx.p9;have hpk:=Kj x p om om om;rw [hp] at hpk;have hpk:aC Tryz.prog 69 [lM x, .aa .i64 p] (.aw [.aa .i64 (k:Int), .aE true, .aE true]):=hpk;have w1:IntKind.i64.wrap (x.ca+1)=x.ca+1:=bj om om;have hcl:(x.aq.ab.map cr).length=x.aq.ab.length:=List.length_map _;have hcs:nz Tryz.prog 74 [.ag x.aq.bZ 18 (x.aq.ab.map cr) .av] 78 18 x.aq.ab.length (x.aq.ab.map cr).flatten:=by
  have hfg:x.aq.bZ=false:=by
   unfold cj.bZ;grind
  grind [NN]
 refine aC.Ex dW (fn:=Tryz.f71) aG rfl aG rfl rfl ?_;refine cn ?_;refine ak ?_;refine bz.xP hcs rfl ?_;refine iV ?_;refine bz.tE (es:=ga {x with ca:=x.ca+1} k ⟨0,0⟩) (es':=ga Y k ⟨0,0⟩) ⟨?_,rfl,rfl,rfl,trivial⟩ rfl rfl (uQ rfl rfl rfl) dd rfl rfl hac ?_
 ·exact congrArg (λz=>bs.au 235 (nf {x with ca:=z} k ⟨0,0⟩ x.aq.ab.length)) w1
 conv=>whnf
 exact XK Y hne rfl
theorem ajx {T:Nat} (x:aV) (p:Int) (full:Bool) (hT:T<=100000) (hx:eN T x) (hp:qI x p=none):aC Tryz.prog 71 [lM x, .aa .i64 p, .aE full] (lM x):=by
 have hthr:=hx.gC.ma;have hheld:=hx.gC.nO;have hgrp:=hx.p8;have hpk:=Kj x p om om om;rw [hp] at hpk;have hpk:aC Tryz.prog 69 [lM x, .aa .i64 p] (.aw [.aa .i64 0, .aE false, .aE false]):=hpk;refine cU Tryz.func71 ?_;exact bm
theorem XO {x y:aV} (h:ig y=ig x) {k:Nat} (hk:k<x.aq.ab.length):y.aq.ab≠[]:=λe=>by
 grind [ig,List.length_nil]
theorem ajv {T:Nat} {x:aV} (h:eN T x) (k:Nat) (u:dt) (hu:u.gu≠1):fS (T+1) (An x k u):=by
 have hd:=Eg h.jb (lK x k);unfold An;refine Eh k u ?_ hu;refine BW ?_ k _ (λt q=>⟨q.rK,q.uu,q.vH,q.vG,hd.Of⟩) (λ_=>Nat.le_refl _) λ_=>Nat.le_refl _
 exact (h.gC.V1 (Nat.le_succ _)).yL rfl rfl
theorem XN {T:Nat} (x:aV) (p:Int) (full:Bool) (hT:T<=99000) (hx:eN T x):aC Tryz.prog 71 [lM x, .aa .i64 p, .aE full] (lM (pX x p full)):=by
 have hst:pX x p full=match qI x p with
  |none=>x
  |some (who,waits)=>if waits=true then qH {x with ca:=x.ca+1} who full else BH {x with ca:=x.ca+1} who (Gv x who):=rfl
 have hca:=ahg x p full;cases hp:qI x p with
 |none=>
  rw [hst,hp];exact ajx x p full om hx hp
 |some y=>
  obtain ⟨who,waits⟩:=y;rw [hp] at hst;obtain ⟨k,rfl,hk,hcan,hw⟩:=aju hp;have ht:=hx.p9;have hl:=hx.rL;have h0:eN (T+1) {x with ca:=x.ca+1}:=⟨hl.jb,hl.gC.yL rfl rfl,hl.p8,⟨by grind,by simp_all⟩,hl.sS,hl.sR,hl.uv⟩;have hgr:=h0.p8;cases waits with
  |true=>
   have hst:pX x p full=qH {x with ca:=x.ca+1} k full:=hst;rw [hst] at hca ⊢;refine ajw x p full om hx k hk hp _ (XO hca hk) ?_;cases full with
   |false=>exact ajh {x with ca:=x.ca+1} k ⟨0,0⟩ om
   |true=>
    cases hwl:x.dy.gi.ab with
    |nil=>
     unfold rv at hw;rw [hwl] at hw;cases hw
    |cons a r=>
     refine aji {x with ca:=x.ca+1} k ⟨0,0⟩ a r hwl ?_ hk;grind
  |false=>
   have hst:pX x p full=BH {x with ca:=x.ca+1} k (Gv x k):=hst;have hto:Gv x k=ub x.br.aA.aQ.ab x.aq.ab[k]:=by
    grind [Gv]
   rw [hto] at hst;rw [hst] at hca ⊢;have hen:x.aq.ab[k].kf=false:=by
    unfold oC at hcan;simp_all
   have hkd:=ajs x.br.aA.aQ.ab x.aq.ab[k] hen;have hne:=XO hca hk;generalize hu:ub x.br.aA.aQ.ab x.aq.ab[k]=u at*;obtain ⟨κ,lk⟩:=u;dsimp only at hkd;rcases hkd with rfl|rfl|rfl|rfl|rfl
   ·exact G5 x p full om hx k hk hp 1 lk hu 198 rfl _ hne (ai7 {x with ca:=x.ca+1} k ⟨1,lk⟩ om h0.gC hk rfl)
   ·exact G5 x p full om hx k hk hp 2 lk hu 199 rfl _ hne (ai4 {x with ca:=x.ca+1} k ⟨2,lk⟩ om h0.gC hk rfl)
   ·refine G5 x p full om hx k hk hp 3 lk hu 200 rfl _ hne (ai9 {x with ca:=x.ca+1} k ⟨3,lk⟩ om h0 hk rfl (ajk (T:=T+2) (An {x with ca:=x.ca+1} k ⟨3,lk⟩) k ⟨3,lk⟩ om ?_));grind [ajv]
   ·exact G5 x p full om hx k hk hp 4 lk hu 201 rfl _ hne (ai8 {x with ca:=x.ca+1} k ⟨4,lk⟩ om hk)
   ·exact G5 x p full om hx k hk hp 5 lk hu 202 rfl _ hne (ai6 {x with ca:=x.ca+1} k ⟨5,lk⟩ om h0.gC hk rfl)
def vP (d:dF):List ae:=DW d.bL++(yr d.kT.sT d.kT.rN d.kT.cX++[.aa .i64 d.yM])
def jM (d:dF):ae:= .aK (vP d)
theorem XP (r:Int):(oD r).2=0\/(oD r).2=20:=by
 grind [oD,rF]
theorem ajz (s:Int):(oY s).2=0\/(oY s).2=120:=by
 grind [oY]
theorem Ko (r size:Int):aC Tryz.prog 7 [.aa .i64 r, .aa .i64 size] (.aw [jM (qc r size).1, .aa .i64 (qc r size).2]):=by
 have hc:=XA r;have he:=XP r;have hw:=adB size;have hf:=ajz size;unfold M9 at hw;unfold qc;generalize oD r=y at*;obtain ⟨c,e⟩:=y;generalize oY size=z at*;obtain ⟨w,f⟩:=z;dsimp only at*;rcases he with rfl|rfl
 ·rw [if_neg dd];rcases hf with rfl|rfl
  ·rw [if_neg dd];refine cU Tryz.func7 ?_;exact bm
  ·rw [if_pos dd];refine cU Tryz.func7 ?_;refine ak ?_;exact iL.ml (.aX (.np oT) (.aX (.bw _) .fa))
 ·rw [if_pos dd];refine cU Tryz.func7 ?_;refine ak ?_;exact iL.ml (.aX (.np oT) (.aX (.bw _) .fa))
theorem ajy (x:aV) (c:bu):(qJ x c).2.2=0\/(qJ x c).2.2=193:=by
 grind [qJ]
theorem Kp (d:dF) (c:bu) (h1:d.bL.aq.ab.length<=1000) (ht:0<=d.bL.ca/\d.bL.ca<1000000):aC Tryz.prog 15 [jM d,tX c] (.aw [jM (qd d c).1, .aa .i64 (qd d c).2.1, .aa .i64 (qd d c).2.2]):=by
 have hc:=ai1 d.bL c h1 ht;have he:=ajy d.bL c;unfold qd;generalize qJ d.bL c=y at*;obtain ⟨x,n,e⟩:=y;dsimp only at*;rcases he with rfl|rfl
 ·rw [if_neg dd];refine cU Tryz.func15 ?_;exact bm
 ·rw [if_pos dd];refine cU Tryz.func15 ?_;exact bm
theorem ajA (b:Nat) (st:List UInt8) (hb:b<=1000001) (hs:st.length<=1000000):aC Tryz.prog 59 [.aa .i64 b, .ai st] (.aw [.ai (if 40000<(gr b st).length then [] else gr b st), .aa .i64 (if 40000<(gr b st).length then 130 else 0)]):=by
 have h1:=F8 [] false [(b:Int)] (by simp;omega) (by simp);rw [T5 b] at h1;have h3:=oW (n:=b) om;have h2:=Dv (bW b) st om;have h4:jA (bW b) st=gr b st:=rfl;rw [h4] at h2
 by_cases h:40000<(gr b st).length
 ·rw [if_pos h,if_pos h];refine bK Tryz.func59 ?_;refine ak ?_;refine C8 om ?_
  conv=>whnf
 ·rw [if_neg h,if_neg h];refine bK Tryz.func59 ?_;refine ak ?_;refine fu om ?_
  conv=>whnf
def oJ (w:eD) (s:List UInt8):eD×Nat:=if w.gp=0/\w.cV<200/\40000<(gr w.cQ s).length then (w,130) else jz w s
def uz (nl nw:Bool) (w:eD) (s:List UInt8):ae:= .aw [iY (if (oJ w s).2=0 then false else nl) nw (oJ w s).1, .aa .i64 ((oJ w s).2:Nat)]
theorem ajB {w:eD} (h:je w) (hsz:w.aW.bE<=255) (nl nw:Bool) (s:List UInt8) (hs:s.length<=1000000) (hn:nl=true->w.aW.cH=[]) (hl:w.aW.cH.length<=1000000):aC Tryz.prog 127 [iY nl nw w, .ai s] (uz nl nw w s):=by
 by_cases h1000:s.length<=1000
 ·have hm:=IW (b:=w.cQ) (st:=s) h.x8 h1000;have e:oJ w s=jz w s:=by grind [oJ]
  have:=adA h nl nw s h1000 hn hl;have e2:tU nl nw w s=uz nl nw w s:=by
   unfold tU uz;rw [e];have e3:(Bx w s=true)=((jz w s).2=0):=by
    unfold Bx jz;grind
   simp only [e3]
  rw [<-e2];exact this
 ·obtain ⟨N,e1,e2,e3,e4,e5⟩:=Js h;have hsq:=h.IP;have hsq1:=h.Md;have hbig:=h.x8;have hmt:=ajA w.cQ s om hs;have hpk:=Gf ((w.cV+1:Nat):Int) (gr w.cQ s);have hss:=By N om;rw [<-e1] at hss;have hw1:IntKind.i64.wrap ((w.cV:Int)+1)=((w.cV+1:Nat):Int):=by grind [bj]
  have hlong:¬(jl (w.cV+1) w.cQ s).length / 16<=fb w.aW:=λq=>by
   have e:=FQ (w.cV+1) w.cQ s;have hm:64<=wD (w.cV+1) w.cQ s:=by
    unfold wD fG;have:s.length<=(jk (w.cV+1) (gr w.cQ s)).length:=by
     grind [jk,gr,jA,mU]
    omega
   omega
  have hlong:fb w.aW<(jl (w.cV+1) w.cQ s).length / 16:=om;have hB:∀ e:Nat,e≠0->oJ w s=(w,e)->uz nl nw w s= .aw [iY nl nw w, .aa .i64 e]:=λe he q=>by
   grind [uz]
  have hR1:w.gp≠0->uz nl nw w s= .aw [iY nl nw w, .aa .i64 140]:=λq=>hB 140 dd (by
   grind [oJ,jz])
  have hR2:w.gp=0->200<=w.cV->uz nl nw w s= .aw [iY nl nw w, .aa .i64 193]:=λq1 q2=>hB 193 dd (by
   unfold oJ;rw [if_neg (λp=>by omega)];unfold jz;simp_all)
  have hR3:w.gp=0->¬200<=w.cV->40000<(gr w.cQ s).length->uz nl nw w s= .aw [iY nl nw w, .aa .i64 130]:=λq1 q2 q3=>hB 130 dd (by
   grind [oJ])
  have hR4:w.gp=0->¬200<=w.cV->¬40000<(gr w.cQ s).length->uz nl nw w s= .aw [iY nl nw w, .aa .i64 120]:=λq1 q2 q3=>hB 120 dd (by
   unfold oJ;rw [if_neg (λp=>q3 p.2.2)];unfold jz;simp_all)
  generalize uz nl nw w s=RV at*;refine cU Tryz.func127 ?_
  conv=>whnf
  refine ⟨λh1=>?_,λh1=>?_⟩
  ·have h1:w.gp≠0:=by
    simp_all
   rw [hR1 h1];exact bm
  have h1:w.gp=0:=by simpa using h1
  conv=>whnf
  refine ⟨λh2=>?_,λh2=>?_⟩
  ·have h2:=of_decide_eq_true h2;rw [hR2 h1 om];exact bm
  have h2:=of_decide_eq_false h2
  by_cases h3:40000<(gr w.cQ s).length
  ·rw [hR3 h1 om h3];rw [if_pos h3,if_pos h3] at hmt;exact bm
  ·rw [hR4 h1 om h3];rw [if_neg h3,if_neg h3] at hmt;have hmay:ka ((w.cV+1:Nat):Int) (gr w.cQ s)=true:=zq.2 ⟨om,om,om⟩;have q1:wy ((w.cV+1:Nat):Int) (gr w.cQ s)=jl (w.cV+1) w.cQ s:=by unfold wy;rw [if_pos hmay,Int.toNat_natCast];rfl
   have q2:wA ((w.cV+1:Nat):Int) (gr w.cQ s)=0:=by grind [wA]
   rw [q1,q2] at hpk;have hml:=FQ (w.cV+1) w.cQ s;have hmb:(jl (w.cV+1) w.cQ s).length<=1000000:=by
    rw [hml];unfold wD fG;have h5:=oW (n:=w.cV+1) om;have h6:=oW (n:=(gr w.cQ s).length) om;have h7:=FK (lW (w.cV+1) (gr w.cQ s));have h8:(lW (w.cV+1) (gr w.cQ s)).length=(bW (w.cV+1)).length+((bW (gr w.cQ s).length).length+(gr w.cQ s).length):=by grind [lW]
    have h9:=oW (n:=(mU (lW (w.cV+1) (gr w.cQ s))).length) om;have h10:(jk (w.cV+1) (gr w.cQ s)).length=(bW (mU (lW (w.cV+1) (gr w.cQ s))).length).length+(mU (lW (w.cV+1) (gr w.cQ s))).length:=by grind [IN]
    omega
   generalize jl (w.cV+1) w.cQ s=ms at*;refine ak ?_;rw [hw1];refine ak ?_;have hdv:IntKind.i64.wrap ((ms.length:Int).tdiv 16)=((ms.length / 16:Nat):Int):=by
    have e:(ms.length:Int).tdiv 16=((ms.length / 16:Nat):Int):=by trivial
    grind [bj]
   refine ⟨λ_=>?_,λq=>absurd (of_decide_eq_false q) (by rw [hdv];omega)⟩;exact bm
end Go.Proofs.YtffboamedcmpaaaGreatDoor
