import Derived.Test.YtffboamedcmpaaaGreatDoorCt
set_option linter.all false
set_option maxHeartbeats 4000000
set_option maxRecDepth 100000
namespace Go.Proofs.YtffboamedcmpaaaGreatDoor
open Gw
open Go.Am
theorem XR {l:List aH} (h:∀ o∈l,cJ o=true) (hl:l.length<=1500):(iZ l).length<=225000:=by
 grind [afL,iZ]
theorem O8 (nil:Bool) {l:List aH} (h:∀ o∈l,cJ o=true) (hl:l.length<=1500):aC Tryz.prog 21 [.ag nil 7 (iw l) .av] (.aw [.ai (iZ l), .aa .i64 0]):=by
 have:=adP nil l (λo ho=>GU (h o ho)) om (λk hk hc=>by
  grind [XR])
 rw [if_pos (List.all_eq_true.2 h),if_pos (List.all_eq_true.2 h)] at this;exact this
def Ez (b:jL):List (Am.aS×bs):=[(.af 20, .au 148 (yr b.sT b.rN b.cX))]
def B9 (b:jL):List (Am.aS×bs):=[(.af 6, .au 148 (yr b.sT b.rN b.cX))]
theorem XQ (b:jL) (h:lq b) (nil:Bool) {l:List aH} (hc:∀ o∈l,cJ o=true) (hl:l.length<=1500):bz Tryz.prog 75 [.ar 20 0, .ag nil 7 (iw l) .av] (aD (Ez b)) 21
  (cG 21 (λr es=>r= .cE (.aa .i64 (sU b l).2)/\es=Ez (sU b l).1))/\bz Tryz.prog 75 [.ar 6 0, .ag nil 7 (iw l) .av] (aD (B9 b)) 7
  (cG 7 (λr es=>r= .cE (.aa .i64 (sU b l).2)/\es=B9 (sU b l).1)):=by
 have hw:=O8 nil hc hl;have hos:=XR hc hl;have hi:=h.yR;have hM:=ajB hi h.GQ b.sT b.rN (iZ l) om h.Em (by have:=h.El;omega);have hA:sU b l=match oJ b.cX (iZ l) with
   |(w,e)=>if e≠0 then (b,(e:Int)) else match mv (kb w) with
    |(w',e')=>if e'≠0 then (b,(e':Int)) else (⟨w',false,b.rN⟩,0):=by
  unfold sU oJ;rw [if_neg (by simp_all)];show (if b.cX.gp=0/\b.cX.cV<200/\40000<(gr b.cX.cQ (iZ l)).length then (b,130) else _)=_;split
  ·rfl
  ·rfl
 rw [hA];clear hA
 by_cases he:(oJ b.cX (iZ l)).2=0
 ·have hme:oJ b.cX (iZ l)=jz b.cX (iZ l):=by
   grind [oJ]
  rw [hme] at he;have hmi:=hi.Sb (iZ l);have hmw:(jz b.cX (iZ l)).1.cD=b.cX.cD:=by grind [jz,gP]
  unfold uz at hM;rw [hme,he] at hM;rw [hme];have hloose:(jz b.cX (iZ l)).1.aW.cH.length<=100000:=by grind [h.El,hi.aaY (iZ l)]
  generalize jz b.cX (iZ l)=y at*;obtain ⟨w,e⟩:=y;dsimp only at*;subst he;rw [if_neg dd];have hS:=Nb hmi false b.rN (λq=>by cases q) om;have hsl:=Oz hmi;have hwt:(kb w).cD=w.cD:=by grind [kb]
  have hW:=adz hmi.IQ true b.rN (λ_=>hsl) (λq=>by rw [hwt,hmw];exact h.agP q) (by simp_all);unfold Gg at hS;unfold Nf at hW;have hwk:(mv (kb w)).2=0->(kb w).gp=2:=λq=>by
   grind [mv]
  have hwe:(mv (kb w)).2=0\/(mv (kb w)).2=140:=by
   grind [mv]
  generalize mv (kb w)=z at*;obtain ⟨w',e'⟩:=z;dsimp only at*;rcases hwe with rfl|rfl
  ·rw [if_neg dd];rw [if_neg om] at hW;constructor
   all_goals
    refine bn Tryz.func75 ?_;refine ak ?_;exact ⟨_,_,⟨rfl,rfl⟩,rfl,⟨rfl,rfl⟩,⟨rfl,rfl,trivial⟩⟩
  ·rw [if_pos dd];constructor
   all_goals
    refine bn Tryz.func75 ?_;refine ak ?_;exact ⟨_,_,⟨rfl,rfl⟩,rfl,⟨rfl,rfl⟩,⟨rfl,rfl,trivial⟩⟩
 ·have hb:(oJ b.cX (iZ l)).1=b.cX:=by
   grind [oJ,jz]
  unfold uz at hM;rw [if_neg he,hb] at hM;generalize oJ b.cX (iZ l)=y at*;obtain ⟨w,e⟩:=y;dsimp only at*;rw [if_pos he];constructor
  all_goals
   refine bn Tryz.func75 ?_;refine ak ?_;refine ⟨λ_=>?_,λq=>absurd (by simpa using q) he⟩
   conv=>whnf
   exact ⟨_,_,⟨rfl,rfl⟩,rfl,⟨rfl,rfl⟩,⟨rfl,rfl,trivial⟩⟩
theorem ajE (b:jL) (h:lq b) {o:aH} (hc:cJ o=true):bz Tryz.prog 73 [.ar 20 0,mV o] (aD (Ez b)) 21
  (cG 21 (λr es=>r= .cE (.aa .i64 (yP b o).2)/\es=Ez (yP b o).1)):=by
 have hp:=Ub [] o (GU hc) dd;rw [show zx [] o=dM o by grind [zx],show zy o=0 by grind [zy]] at hp;have hi:=h.yR;have hbig:=hi.x8;have hnx:=hi.sw;have hA:=adn b.sT b.rN b.cX (dM o) om om;unfold M6 at hA;unfold yP;rw [if_neg (by rw [hc];decide)]
 by_cases hx:40000<(dM o).length\/1000000<b.cX.cQ
 ·rw [if_pos hx];have e:ot b.cX (dM o)=(b.cX,0,130):=by grind [ot]
  rw [if_pos hx,e] at hA;refine bn Tryz.func73 ?_;refine cC ?_;exact ⟨_,_,⟨rfl,rfl⟩,rfl,⟨rfl,rfl⟩,⟨rfl,rfl,trivial⟩⟩
 ·rw [if_neg hx];have e:ot b.cX (dM o)=((ot b.cX (dM o)).1,b.cX.cQ,0):=by grind [ot]
  rw [if_neg hx,e] at hA;generalize (ot b.cX (dM o)).1=w at*;refine bn Tryz.func73 ?_;refine cC ?_;exact ⟨_,_,⟨rfl,rfl⟩,rfl,⟨rfl,rfl⟩,⟨rfl,rfl,trivial⟩⟩
theorem ajD (b:jL) (h:lq b) (nil:Bool) {l:List aH} (hc:∀ o∈l,cJ o=true) (hl:l.length<=1500):bz Tryz.prog 72 [.ar 20 0, .ag nil 7 (iw l) .av] (aD (Ez b)) 21
  (cG 21 (λr es=>r= .cE (.aa .i64 (Ad b l).2)/\es=Ez (Ad b l).1)):=by
 have hAn:=(XQ b h nil hc hl).1;have hi:=h.yR;have hlo:=h.El;have hS:=adC hi b.sT b.rN h.Em om;unfold vd at hS;have hl2:=hi.aaZ;have hi':=hi.Sc;have hsame:b.cX.cD=[]->(j1 b.cX).1=b.cX:=by grind [j1]
 unfold Ad
 by_cases he:(j1 b.cX).2=0
 ·by_cases hw:b.cX.cD=[]
  ·have e:=hsame hw;rw [if_neg (λq=>q.2 hw),if_neg (λq=>q.2 hw),he] at hS;have hSy:=Nb hi' b.sT b.rN (by rw [e];exact h.Em) om;unfold Gg at hSy;generalize j1 b.cX=y at*;obtain ⟨w,e'⟩:=y;dsimp only at*;subst he;rw [if_neg dd,if_pos hw];refine bn Tryz.func72 ?_;refine ak ?_;exact ⟨_,_,⟨rfl,rfl⟩,rfl,⟨rfl,rfl⟩,⟨rfl,rfl,trivial⟩⟩
  ·rw [if_pos ⟨he,hw⟩,if_pos ⟨he,hw⟩,he] at hS;have hSy:=Nb hi' false true (λq=>by cases q) om;unfold Gg at hSy;generalize j1 b.cX=y at*;obtain ⟨w,e'⟩:=y;dsimp only at*;subst he;rw [if_neg dd,if_neg hw];refine bn Tryz.func72 ?_;refine ak ?_;exact ⟨_,_,⟨rfl,rfl⟩,rfl,⟨rfl,rfl⟩,⟨rfl,rfl,trivial⟩⟩
 ·rw [if_neg (λq=>he q.1),if_neg (λq=>he q.1)] at hS;generalize j1 b.cX=y at*;obtain ⟨w,e⟩:=y;dsimp only at*;rw [if_pos he];generalize sU b l=z at*;refine bn Tryz.func72 ?_;refine ak ?_;refine ⟨λ_=>?_,λq=>absurd (by simpa using q) he⟩;refine eJ ?_;exact ⟨_,_,⟨rfl,rfl⟩,rfl,⟨rfl,rfl⟩,⟨rfl,rfl,trivial⟩⟩
theorem ajC (b:jL) (h:lq b) (picks:List UInt8) (hp:picks.length<=1000):bz Tryz.prog 50 [.ar 6 0, .ai picks] (aD (B9 b)) 7
  (cG 7 (λr es=>r= .cE (j6 true (jO b.cX.aW (ew picks)))/\es=B9 b)):=by
 have hi:=h.yR;have hlo:=h.El;have hC:=(T6 hi b.sT picks hp h.Em om).1;generalize jO b.cX.aW (ew picks)=D at*;refine bn Tryz.func50 ?_;refine ak ?_;exact ⟨_,_,⟨rfl,rfl⟩,rfl,⟨rfl,rfl⟩,⟨rfl,rfl,trivial⟩⟩
theorem XS {T:Nat} {d:dF} (h:dZ T d):d.bL.bG.ab.length<=1500:=by
 have h1:=h.jU.sS;have h2:=h.jU.jb.ja.qL;omega
theorem ajF {T:Nat} (d:dF) (h:dZ T d):aC Tryz.prog 36 [jM d] (.aw [jM (Ae d).1, .aa .i64 (Ae d).2]):=by
 have hA:=(XQ d.kT h.ux d.bL.bG.bZ h.jU.sR (XS h)).2;unfold Ae;generalize sU d.kT d.bL.bG.ab=y at*;obtain ⟨b,e⟩:=y;dsimp only at*;refine cU Tryz.func36 ?_;refine eJ ?_
 by_cases he:e=0
 ·subst he;rw [if_neg dd];exact bm
 ·rw [if_pos he]
  conv=>whnf
  refine ⟨λ_=>?_,λq=>absurd (by simpa using q) he⟩;exact bm
end Go.Proofs.YtffboamedcmpaaaGreatDoor
namespace Gw
theorem ajI (r:List UInt8) (l:List (List UInt8)) (acc:List aH):xh (r::l) acc=match kO r with
  |some (o,[])=>xh l (acc++[o])
  |_=>none:=rfl
end Gw
namespace Go.Proofs.YtffboamedcmpaaaGreatDoor
open Gw
open Go.Am
def G6:List ae:=[.ag true 1 [] .bR, .ag true 1 [] .bR, .aa .i64 0, .aa .i64 0, .ag true 1 [] .bR, .ag true 1 [] .bR, .aa .i64 0, .ag true 1 [] .bR, .ag true 1 [] .bR, .aa .i64 0, .ag true 1 [] .bR, .ag true 1 [] .bR, .aa .i64 0, .ag true 1 [] .bR,
 .aa .i64 0, .ai [], .ag true 1 [] .bR, .aa .i64 0, .aa .i64 0, .aa .i64 0, .aa .i64 0, .aa .i64 0, .aa .i64 0, .ag true 1 [] .bR, .bo, .aa .i64 0, .aa .i64 0, .aa .i64 0, .aa .i64 0]
theorem ajH (b:jL) (h:lq b) (r:Int) (picks:List UInt8) (hp:picks.length<=1000):aC Tryz.prog 49 [.aa .i64 r,j6 true (jO b.cX.aW (ew picks))] (.aw [jM (yO r (jO b.cX.aW (ew picks))).1, .aa .i64 (yO r (jO b.cX.aW (ew picks))).2]):=by
 have hc:=XA r;have he:=XP r;have hno:= @Ow r;have hO:=(T6 h.yR b.sT picks hp h.Em (by have:=h.El;omega)).2;have hL:=Wn h picks;have hE:=aa4 (jO b.cX.aW (ew picks));unfold wT at hO;unfold yO;generalize jO b.cX.aW (ew picks)=D at*;generalize iX D=O at*;generalize oD r=y at*;obtain ⟨c,e⟩:=y;dsimp only at*;rcases he with rfl|rfl
 ·have hno:=hno rfl;rw [if_neg dd];rcases hE with hE|hE
  rotate_left
  ·rw [hE] at hO ⊢;rw [if_pos dd];refine cU Tryz.func49 ?_;refine ak ?_;exact iL.ml (.aX (.np oT) (.aX (.bw _) .fa))
  obtain ⟨_,hO2,hO3,hO4⟩:=hL hE;have hO:aC Tryz.prog 102 [j6 true D] (.aw [iY false true O.tJ, .ai O.ya, .ag (decide (O.kJ=[])) 1 (gJ O.kJ) .av, .aa .i64 0]):=by rw [hE] at hO;exact hO
  rw [if_neg (by rw [hE];decide)];refine cU Tryz.func49 ?_;refine ak ?_;refine bn Tryz.func103 ?_
  conv=>whnf
  refine db.zd 4 130 7 rfl rfl (.inr rfl) ?_;refine db.cK (X:=List UInt8×List aH) (λx=>[(.aj 0, .ah (.ai x.1)),(.aj 4, .ah (.ag (decide (x.2=[])) 7 (iw x.2) (.dB 29))),(.aJ 29, .aN 130 7 x.2.length),(.af 1, .au 49 G6),(.af 7, .au 41 (DW c)),(.af 18, .au 47 (yr false true O.tJ))]) 30
   (λx=>x.1.length+x.2.length<=1048576/\∃ f,x.1.length<f/\pV O.ya=mB f x.1 x.2) (λx=>x.1.length) dd (O.ya,[]) ⟨by grind,O.ya.length+1,Nat.lt_succ_self _,rfl⟩ ⟨rfl,rfl,rfl,rfl,rfl,rfl,rfl,rfl,rfl,rfl,rfl,rfl,trivial⟩ ?_
  rintro ⟨rest,acc⟩ ⟨h1,f,hf,hr⟩;simp only at h1 hf hr;have htk:=Nh rest om;have hal:=Jh acc;refine cn ?_;refine ⟨λh=>?_,λh=>?_⟩
  ·have h:rest≠[]:=by
    simp_all
   obtain ⟨f,rfl⟩:∃ g,f=g+1:=⟨f - 1,om⟩;rw [mB,if_neg h] at hr
   conv=>whnf
   cases ht:kO rest with
   |none=>
    rw [ht] at htk hr;simp only at hr;rw [hr];refine ak ?_;exact iL.ml (.aX (.np oT) (.aX (.bw _) .fa))
   |some oq=>
    obtain ⟨o,q⟩:=oq;have hlen:=Np ht;rw [ht] at htk hr;simp only at hr;refine ak ?_;refine ⟨⟨hal.symm,dG (by grind) dd⟩,?_⟩
    conv=>whnf
    refine ⟨(q,acc++[o]),⟨by grind,f,by grind,hr⟩,hlen,⟨rfl,rfl,?_,rfl,?_,rfl,rfl,rfl,rfl,rfl,rfl,rfl,trivial⟩⟩
    ·show bs.ah (ae.ag (decide (acc=[]) && false) 7 (iw acc++[cI o]) _)=bs.ah (ae.ag (decide (acc++[o]=[])) 7 (iw (acc++[o])) _);rw [Bool.and_false,decide_eq_false (by simp),iw,iw,List.map_append];rfl
    ·show bs.aN _ 7 ((iw acc).length+1)=bs.aN _ 7 (acc++[o]).length;simp_all
  ·have h:rest=[]:=by
    simp_all
   have e:mB f rest acc=some acc:=by
    cases f with
    |zero=>rfl
    |succ f=>rw [mB,if_pos h]
   rw [e] at hr;rw [hr];dsimp only;have hrd:=Wp hr;refine ak ?_;have hrl:=zJ O.kJ;refine db.cK (X:=Nat×List aH) (λx=>[(.aj 4, .ah (.ar 1 0)),(.aj 6, .ah (.ar 7 0)),(.aj 8, .ah (.ar 18 0)),(.aj 11, .ah (.ag (decide (x.2=[])) 7 (iw x.2) (.dB 29))),(.aJ 29, .aN 130 7 x.2.length),(.aj 45, .ah (.ag (decide (O.kJ=[])) 1 (gJ O.kJ) .av)),(.aj 46, .ah (.aa .i64 O.kJ.length)),(.aj 47, .ah (.aa .i64 x.1)),
    (.af 1, .au 49 G6),(.af 7, .au 41 (DW c)),(.af 18, .au 47 (yr false true O.tJ))]) 30
    (λx=>x.1<=O.kJ.length/\x.2.length=acc.length+x.1/\(∀ o∈x.2,cJ o=true)/\xh (O.kJ.drop x.1) x.2=xh O.kJ acc) (λx=>O.kJ.length - x.1) dd (0,acc) ⟨Nat.zero_le _,rfl,hrd.2,rfl⟩ ⟨rfl,rfl,rfl,rfl,rfl,rfl,rfl,rfl,rfl,rfl,rfl,rfl,?_,rfl,rfl,rfl,rfl,rfl,rfl,rfl,rfl,rfl,trivial⟩ ?_
   ·show bs.ah (ae.aa .i64 ((gJ O.kJ).length:Nat))=_;rw [hrl]
   rintro ⟨k,L⟩ ⟨hk,hL,hLc,hT⟩;dsimp only at hk hL hLc hT ⊢;have hal2:=Jh L;refine cn ?_;refine ⟨λh=>?_,λh=>?_⟩
   ·have h:=of_decide_eq_true h;have hlt:k<O.kJ.length:=om;have hg:=T7 hlt;have hdr:=List.drop_eq_getElem_cons hlt;have hsh:=hO4 O.kJ[k] (List.getElem_mem hlt);have w1:IntKind.i64.wrap ((k:Int)+1)=((k+1:Nat):Int):=by grind [bj]
    rw [hdr] at hT;generalize O.kJ[k]=s at*;have htk:=Nh s om;rw [ajI] at hT;cases ht:kO s with
    |none=>
     rw [ht] at htk hT;dsimp only at hT;rw [<-hT];refine ak ?_;exact iL.ml (.aX (.np oT) (.aX (.bw _) .fa))
    |some oq=>
     obtain ⟨o,q⟩:=oq;rw [ht] at htk hT;cases q with
     |nil=>
      dsimp only at hT;refine ak ?_;refine ⟨⟨hal2.symm,dG (by grind) dd⟩,?_⟩
      conv=>whnf
      refine ⟨(k+1,L++[o]),⟨om,by grind,λx hx=>?_,hT⟩,by grind,⟨rfl,rfl,rfl,rfl,rfl,rfl,?_,rfl,?_,rfl,rfl,rfl,rfl,rfl,?_,rfl,rfl,rfl,rfl,rfl,rfl,rfl,trivial⟩⟩
      ·rcases List.mem_append.1 hx with hx|hx
       ·exact hLc x hx
       ·rw [List.mem_singleton.1 hx];exact (JT ht).1
      ·show bs.ah (ae.ag (decide (L=[]) && false) 7 (iw L++[cI o]) _)=bs.ah (ae.ag (decide (L++[o]=[])) 7 (iw (L++[o])) _);rw [Bool.and_false,decide_eq_false (by simp),iw,iw,List.map_append];rfl
      ·show bs.aN _ 7 ((iw L).length+1)=bs.aN _ 7 (L++[o]).length;simp_all
      ·exact dh
     |cons q0 q=>
      dsimp only at hT;rw [<-hT];refine cC ?_;exact iL.ml (.aX (.np oT) (.aX (.bw _) .fa))
   ·have h:=of_decide_eq_false h;obtain rfl:k=O.kJ.length:=om;rw [List.drop_length] at hT;have hT:some L=xh O.kJ acc:=hT;rw [<-hT];have hMr:=aiV c.br hno.jb.ja (decide (L=[])) L (λo ho=>GU (hLc o ho)) om;refine ak ?_;have hfl:decide (L=[])=(true && L.isEmpty):=by cases L<;>rfl
    rw [hal2,hfl];exact iL.bw _
 ·rw [if_pos dd];refine cU Tryz.func49 ?_;refine ak ?_;exact iL.ml (.aX (.np oT) (.aX (.bw _) .fa))
theorem ajG {P:Program} {m0 n:Nat} {f:FuncId} {args:List ae} {σ:az} {rx:List Go.Am.aS} {l1:Go.Am.aS} {c1:bs} {res:ae} (h:mi P m0 f args σ n rx [(l1,c1)] res) (m1:l1∈rx) (e1:σ l1=c1):mi P m0 f args σ n rx [] res:=
 ⟨h.AI,λσ' ha b D g w vals h1 h2 h3 h4 h5 h6=>by
  have:=h.AJ σ' ha b D g w vals h1 h2 h3 h4 h5 h6;grind [eG,B7]⟩
theorem XT {T:Nat} (d:dF) (h:dZ T d) (picks:List UInt8) (hp:picks.length<=1000):aC Tryz.prog 25 [jM d, .ai picks] (.aw [jM (yN d picks).1, .aa .i64 (yN d picks).2]):=by
 have hC:=ajC d.kT h.ux picks hp;have hO:=ajH d.kT h.ux d.bL.br.iH picks hp;have ho:=Wo h.ux d.bL.br.iH picks;unfold yN;generalize hD:jO d.kT.cX.aW (ew picks)=D at*;generalize yO d.bL.br.iH D=y at*;obtain ⟨n,e⟩:=y;dsimp only at*;refine aC.Ex dW (fn:=Tryz.f25) aG rfl aG rfl rfl ?_;refine db.wh (se dW jd _ _ _ _ ?_)
 conv=>whnf
 refine ⟨0,_,_,_,rfl,ajG (mi.Xn (m:=7) (res:=j6 true D) (es:=B9 d.kT) (es':=B9 d.kT) ⟨rfl,rfl,trivial⟩ rfl rfl rfl rfl rfl rfl hC) (by simp [B9]) rfl,rfl,?_⟩
 conv=>whnf
 refine ⟨0,_,_,_,rfl,(CN.AP hO rfl).zi,rfl,?_⟩;refine ak ?_;refine ⟨λh=>?_,λh=>?_⟩
 ·rw [if_pos (by simpa using h)];exact bm
 ·rw [if_neg (by simpa using h)]
  conv=>whnf
  have he:e=0:=by simpa using h
  subst he;exact iL.bw _
theorem XU {T:Nat} (d:dF) (h:dZ T d) (p:Int) (hT:T<=99000):aC Tryz.prog 34 [jM d, .aa .i64 p] (jM (Ah d p)):=by
 have hthr:=h.jU.gC.ma;have hheld:=h.jU.gC.nO;have hgrp:=h.jU.p8;have hpk:=Kj d.bL p om om om;unfold Ah;cases hp:qI d.bL p with
 |none=>
  rw [hp] at hpk;have hpk:aC Tryz.prog 69 [lM d.bL, .aa .i64 p] (.aw [.aa .i64 0, .aE false, .aE false]):=hpk;refine cU Tryz.func34 ?_;exact bm
 |some y=>
  obtain ⟨k,kp⟩:=y;rw [hp] at hpk;have hpk:aC Tryz.prog 69 [lM d.bL, .aa .i64 p] (.aw [.aa .i64 k, .aE kp, .aE true]):=hpk;cases kp with
  |true=>
   have hK:=ajD d.kT h.ux d.bL.bG.bZ h.jU.sR (XS h);dsimp only;generalize Ad d.kT d.bL.bG.ab=y at*;obtain ⟨b,e⟩:=y;dsimp only at*;have hS:=XN d.bL p (decide (e≠0)) hT h.jU;rw [show decide (e≠0)=(e !=0) by grind] at hS ⊢;generalize pX d.bL p (e !=0)=x at*;refine cU Tryz.func34 ?_;refine eJ ?_;refine bn Tryz.func70 ?_;exact bm
  |false=>
   have hS:=XN d.bL p false hT h.jU;have hso:=Ox h.jU p false;generalize pX d.bL p false=x at*;dsimp only;refine cU Tryz.func34 ?_;refine ak ?_;refine bn Tryz.func70 ?_;refine ak ?_;refine ⟨?_,?_⟩
   ·grind
   conv=>whnf
   have hne:=hso.uv;have hmay:=hso.sR;have hfew:=hso.sS;have hfew2:=hso.jb.ja.qL;obtain ⟨K,hK⟩:∃ K,(min (max d.yM 0) (x.bG.ab.length:Int)).toNat=K:=⟨_,rfl⟩;have hun:Oy d.yM x.bG.ab=x.bG.ab.drop K:=by grind [Oy]
   rw [hun];obtain ⟨L,hL⟩:∃ L,x.bG.ab.drop K=L:=⟨_,rfl⟩;rw [hL];have hLl:L.length<=1500:=by grind
   have hLc:∀ o∈L,cJ o=true:=λo ho=>hmay o (List.mem_of_mem_drop (hL▸ho))
   have hLm:(x.bG.ab.map cI).drop (min (max d.yM 0) ((x.bG.ab.map cI).length:Int)).toNat=L.map cI:=by
    grind [List.map_drop]
   have hLn:(L.map cI).length=L.length:=List.length_map _;refine db.cK (X:=Nat×jL) (λy=>[(.aj 2, .ah (.ar 0 0)),(.aj 4, .ah (.ar 2 0)),(.aj 9, .ah (.ar 20 0)),(.aj 10, .ah (.ag x.bG.bZ 7 (x.bG.ab.map cI) .av)),(.aj 57, .ah (.ag x.bG.bZ 7 (L.map cI) .av)),(.aj 58, .ah (.aa .i64 L.length)),(.aj 59, .ah (.aa .i64 y.1)),
    (.af 0, .au 49 (vP ⟨x,d.kT,d.yM⟩)),(.af 2, .au 49 G6),(.af 20, .au 148 (yr y.2.sT y.2.rN y.2.cX))]) 21
    (λy=>y.1<=L.length/\lq y.2/\Ag y.2 (L.drop y.1)=Ag d.kT L) (λy=>L.length - y.1) dd (0,d.kT) ⟨Nat.zero_le _,h.ux,rfl⟩ ⟨rfl,rfl,rfl,rfl,rfl,rfl,rfl,rfl,?_,rfl,?_,rfl,rfl,rfl,rfl,rfl,rfl,rfl,rfl,rfl,trivial⟩ ?_
   ·show bs.ah (ae.ag x.bG.bZ 7 ((x.bG.ab.map cI).drop (min (max d.yM 0) ((x.bG.ab.map cI).length:Int)).toNat) .av)=_;rw [hLm]
   ·show bs.ah (ae.aa .i64 (((x.bG.ab.map cI).drop (min (max d.yM 0) ((x.bG.ab.map cI).length:Int)).toNat).length:Nat))=_;rw [hLm,hLn]
   rintro ⟨k,b⟩ ⟨hk,hb,hpa⟩;dsimp only at hk hb hpa ⊢;refine cn ?_;refine ⟨λh=>?_,λh=>?_⟩
   ·have h:=of_decide_eq_true h;have hlt:k<L.length:=om;have hg:(L.map cI)[k]? =some (cI L[k]):=by simp_all
    have hdr:=List.drop_eq_getElem_cons hlt;have hco:=hLc L[k] (List.getElem_mem hlt);have w1:IntKind.i64.wrap ((k:Int)+1)=((k+1:Nat):Int):=by grind [bj]
    rw [hdr] at hpa;generalize L[k]=o at*;have hP:=ajE b hb hco;have hok:=Wg hb o;rw [Ag] at hpa;generalize yP b o=z at*;obtain ⟨b',e⟩:=z;dsimp only at*;refine eJ ?_;refine ⟨λhe=>?_,λhe=>?_⟩
    ·rw [if_pos (by simpa using he)] at hpa;rw [<-hpa]
     conv=>whnf
     rw [show (x.bG.ab.map cI).length=x.bG.ab.length from List.length_map _];exact iL.bw _
    ·rw [if_neg (by simpa using he)] at hpa
     conv=>whnf
     refine ⟨(k+1,b'),⟨om,hok,hpa⟩,by grind,⟨rfl,rfl,rfl,rfl,rfl,rfl,rfl,rfl,rfl,rfl,rfl,rfl,?_,rfl,rfl,rfl,rfl,rfl,rfl,rfl,trivial⟩⟩;exact dh
   ·have h:=of_decide_eq_false h;obtain rfl:k=L.length:=om;rw [List.drop_length] at hpa;have hpa:b=Ag d.kT L:=hpa;rw [<-hpa]
    conv=>whnf
    rw [show (x.bG.ab.map cI).length=x.bG.ab.length from List.length_map _];exact iL.bw _
def qf (c:bu):Bool:=decide (c.bY.length<=1000) && (decide (c.fO.length<=1000) && decide (c.ia.length<=5000))
def G7 (o:jF):List ae:=[.aa .i64 o.qN, .aa .i64 o.kU.dD, .ai o.kU.bY, .ai o.kU.fO, .ai o.kU.ia, .aa .i64 o.kU.cR, .aa .i64 o.GP, .ai o.BX]
def ajK (o:jF):ae:= .aK (G7 o)
def qe (l:List jF):List (List ae):=l.map G7
theorem Kr (l:List jF):(qe l).length=l.length:=List.length_map _
theorem Kq {l:List jF} {k:Nat} (h:k<l.length):(qe l)[k]? =some (G7 l[k]):=by
 grind [qe]
theorem ajJ {l:List bu} {k:Nat} (h:k<l.length):(l.map BC)[k]? =some (BC l[k]):=by
 simp_all
theorem ajL (nil:Bool) (l:List bu) (most:Nat) (hl:l.length<=1048576):aC Tryz.prog 42 [.ag nil 5 (l.map BC) .av, .aa .i64 most] (.aE (l.all qf && decide (l.length<=most))):=by
 have hel:(l.map BC).length=l.length:=List.length_map _;refine bK Tryz.func42 ?_
 conv=>whnf
 refine db.cK (λk:Nat=>[(.aj 0, .ah (.ag nil 5 (l.map BC) .av)),(.aj 1, .ah (.aa .i64 most)),(.aj 5, .ah (.aa .i64 k))]) 0
  (λk=>k<=l.length/\(l.take k).all qf=true) (λk=>l.length - k) dd 0 ⟨Nat.zero_le _,rfl⟩ ⟨rfl,rfl,rfl,rfl,rfl,rfl,trivial⟩ ?_
 rintro k ⟨hk,hall⟩;refine cn ?_;rw [hel];refine ⟨λh=>?_,λh=>?_⟩
 ·have h:=of_decide_eq_true h;have hlt:k<l.length:=om;have hg:=ajJ hlt;have hbad:qf l[k]=false->l.all qf=false:=λhs=>by
   grind
  have hstep:qf l[k]=true->(l.take (k+1)).all qf=true:=λhs=>by
   grind [List.take_succ_eq_append_getElem]
  generalize l[k]=c at*;refine ak ?_;refine ⟨λh=>?_,λh=>?_⟩
  ·have h:=of_decide_eq_true h;rw [hbad (by grind [qf])]
   conv=>whnf
   rw [Bool.false_and]
  ·have h:=of_decide_eq_false h;refine ak ?_;refine ⟨λh2=>?_,λh2=>?_⟩
   ·have h2:=of_decide_eq_true h2;rw [hbad (by unfold qf;grind)]
    conv=>whnf
    rw [Bool.false_and]
   ·have h2:=of_decide_eq_false h2;refine ak ?_;refine ⟨λh3=>?_,λh3=>?_⟩
    ·have h3:=of_decide_eq_true h3;rw [hbad (by unfold qf;grind)]
     conv=>whnf
     rw [Bool.false_and]
    ·have h3:=of_decide_eq_false h3
     conv=>whnf
     refine ⟨k+1,⟨om,hstep (by grind [qf])⟩,by grind,⟨rfl,rfl,rfl,rfl,?_,rfl,trivial⟩⟩;exact dh
 ·have h:=of_decide_eq_false h;obtain rfl:k=l.length:=om;rw [List.take_length] at hall;rw [hall,Bool.true_and]
  conv=>whnf
  simp_all
def qP (o:jF):Bool:=qf o.kU && decide (o.BX.length<=1000)
theorem O9 (nil:Bool) (l:List jF) (most:Nat) (hl:l.length<=9223372036854775807):aC Tryz.prog 20 [.ag nil 8 (qe l) .av, .aa .i64 most] (.aE (l.all qP && decide (l.length<=most))):=by
 have hel:=Kr l;refine bK Tryz.func20 ?_
 conv=>whnf
 refine db.cK (λk:Nat=>[(.aj 0, .ah (.ag nil 8 (qe l) .av)),(.aj 1, .ah (.aa .i64 most)),(.aj 5, .ah (.aa .i64 k))]) 0
  (λk=>k<=l.length/\(l.take k).all qP=true) (λk=>l.length - k) dd 0 ⟨Nat.zero_le _,rfl⟩ ⟨rfl,rfl,rfl,rfl,rfl,rfl,trivial⟩ ?_
 rintro k ⟨hk,hall⟩;refine cn ?_;rw [hel];refine ⟨λh=>?_,λh=>?_⟩
 ·have h:=of_decide_eq_true h;have hlt:k<l.length:=om;have hg:=Kq hlt;have hbad:qP l[k]=false->l.all qP=false:=λhs=>by
   grind
  have hstep:qP l[k]=true->(l.take (k+1)).all qP=true:=λhs=>by
   grind [List.take_succ_eq_append_getElem]
  generalize l[k]=o at*;have hF:=ajL false [o.kU] 1 (by simp);rw [show ([o.kU].all qf && decide ([o.kU].length<=1))=qf o.kU by simp] at hF;refine ak ?_;cases hs:qf o.kU with
  |false=>
   rw [hbad (by grind [qP])];refine ak ?_;rw [Bool.false_and]
  |true=>
   refine ak ?_;refine ⟨λh2=>?_,λh2=>?_⟩
   ·have h2:=of_decide_eq_true h2;rw [hbad (by grind [qP])]
    conv=>whnf
    rw [Bool.false_and]
   ·have h2:=of_decide_eq_false h2
    conv=>whnf
    refine ⟨k+1,⟨om,hstep (by grind [qP])⟩,by grind,⟨rfl,rfl,rfl,rfl,?_,rfl,trivial⟩⟩;exact dh
 ·have h:=of_decide_eq_false h;obtain rfl:k=l.length:=om;rw [List.take_length] at hall;rw [hall,Bool.true_and]
  conv=>whnf
  simp_all
theorem Pa {T:Nat} (d:dF) (h:dZ T d) (o:jF) (hT:T<=99000) (hp:o.BX.length<=1000):aC Tryz.prog 16 [jM d,ajK o] (.aw [jM (sV d o).1, .aa .i64 (sV d o).2]):=by
 have hthr:=h.jU.gC.ma;have htm:=h.jU.p9;unfold sV
 by_cases h1:o.qN=1
 ·have hc:=Kp d o.kU om om;rw [if_pos h1];obtain ⟨kind,call,pick,picks⟩:=o;dsimp only at*;subst h1;generalize qd d call=y at*;obtain ⟨d',n,e⟩:=y;refine cU Tryz.func16 ?_;exact dC
 rw [if_neg h1]
 by_cases h2:o.qN=2
 ·have hc:=XU d h o.GP hT;rw [if_pos h2];obtain ⟨kind,call,pick,picks⟩:=o;dsimp only at*;subst h2;generalize Ah d pick=y at*;refine cU Tryz.func16 ?_;exact dC
 rw [if_neg h2]
 by_cases h3:o.qN=3
 ·have hc:=ajF d h;rw [if_pos h3];obtain ⟨kind,call,pick,picks⟩:=o;dsimp only at*;subst h3;generalize Ae d=y at*;obtain ⟨d',e⟩:=y;refine cU Tryz.func16 ?_;exact dC
 rw [if_neg h3]
 by_cases h4:o.qN=4
 ·have hc:=XT d h o.BX hp;rw [if_pos h4];obtain ⟨kind,call,pick,picks⟩:=o;dsimp only at*;subst h4;generalize yN d picks=y at*;obtain ⟨d',e⟩:=y;refine cU Tryz.func16 ?_;exact dC
 rw [if_neg h4];obtain ⟨kind,call,pick,picks⟩:=o;dsimp only at*;refine cU Tryz.func16 ?_
 conv=>whnf
 refine fu h1 ?_
 conv=>whnf
 refine fu h2 ?_
 conv=>whnf
 refine fu h3 ?_
 conv=>whnf
 refine fu h4 ?_;exact bm
end Go.Proofs.YtffboamedcmpaaaGreatDoor
namespace Gw
theorem XV {l:List aI} (hc:fH l=true) (hg:∀ n∈l,qE n):(eL l 0).length<=l.length:=by
 have h2:((eL l 0).map (·.eM)).Nodup:=by
  rw [List.nodup_iff_pairwise_ne,List.pairwise_map,List.pairwise_iff_getElem];exact λi j hi hj hij=>(WA hc hg hj hij).2
 have:=uW (m:=l.map (·.bc)) h2 λq hq=>by
  obtain ⟨it,h1,rfl⟩:=List.mem_map.1 hq;obtain ⟨i,hi,rfl⟩:=List.getElem_of_mem h1;obtain ⟨n,A,hr⟩:=Wz hc hg hi;have hf:=hr.Wx;unfold iD at hf;split at hf
  ·cases hf
  ·rename_i m hm;split at hf
   ·rename_i hid;exact List.mem_map.2 ⟨m,List.mem_of_getElem? hm,hid⟩
   ·cases hf
 rwa [List.length_map,List.length_map] at this
end Gw
namespace Go.Proofs.YtffboamedcmpaaaGreatDoor
open Gw
open Go.Am
theorem XW {T:Nat} (d:dF) (h:dZ T d) (p:Int) (hp:0<=p/\p<=1000000) (hT:T+2*(45*d.bL.aq.ab.length*d.bL.aq.ab.length)<=99000):
  aC Tryz.prog 14 [jM d, .aa .i64 p] (jM (BY d p)):=by
 have hthr:=h.jU.gC.ma;have hcl:(d.bL.aq.ab.map cr).length=d.bL.aq.ab.length:=List.length_map _;unfold BY;generalize hn:d.bL.aq.ab.length=n at*;have hnn:45*n*n<=72000:=by
  omega
 have w1:IntKind.i64.wrap (45*(n:Int))=45*(n:Int):=bj om om;have w2:IntKind.i64.wrap (45*(n:Int)*(n:Int))=((45*n*n:Nat):Int):=by
  grind [bj]
 generalize hK:45*n*n=K at*;refine cU Tryz.func14 ?_
 conv=>whnf
 refine db.cK (X:=Nat×dF) (λy=>[(.aj 1, .ah (.aa .i64 p)),(.aj 2, .ah (.ar 0 0)),(.aj 4, .ah (.ar 1 0)),(.aj 5, .ah (.aa .i64 n)),(.aj 6, .ah (.aa .i64 y.1)),(.af 0, .au 49 (vP y.2)),(.af 1, .au 49 G6)]) 2
  (λy=>y.1<=K/\dZ (T+2*y.1) y.2/\yQ p (K - y.1) y.1 y.2=yQ p K 0 d) (λy=>K - y.1) dd (0,d) ⟨Nat.zero_le _,h,rfl⟩ ⟨rfl,rfl,rfl,rfl,rfl,rfl,?_,rfl,rfl,rfl,rfl,rfl,rfl,rfl,trivial⟩ ?_
 ·show bs.ah (ae.aa .i64 ((d.bL.aq.ab.map cr).length:Nat))=_;rw [hcl]
 rintro ⟨k,D⟩ ⟨hk,hd,hq⟩;dsimp only at hk hd hq ⊢;have hD:=Xz D.bL (by have:=hd.jU.gC.ma;omega);refine cn ?_;rw [w1,w2];refine ⟨λq=>?_,λq=>?_⟩
 ·have q:=of_decide_eq_true q;have hlt:k<K:=om;obtain ⟨f,hf⟩:∃ f,K - k=f+1:=⟨K - k - 1,om⟩;rw [hf,yQ] at hq;have hf2:K - (k+1)=f:=om;have hS:=XU D hd (p+((k % 7:Nat):Int)) om;have hok:=OB hd (p+((k % 7:Nat):Int));have w3:IntKind.i64.wrap (p+((k % 7:Nat):Int))=p+((k % 7:Nat):Int):=bj om om;refine ak ?_;cases hdn:BG D.bL with
  |true=>
   rw [if_pos hdn] at hq;rw [<-hq];exact bm
  |false=>
   rw [if_neg (by rw [hdn];decide)] at hq;refine ak ?_;rw [show (k:Int).tmod 7=((k % 7:Nat):Int) from rfl,w3];refine bz.eV hS rfl ?_
   conv=>whnf
   refine ⟨(k+1,_),⟨om,hok.nP om,by show yQ p (K - (k+1)) (k+1) _=_;rw [hf2];exact hq⟩,by simp_all,⟨rfl,rfl,rfl,rfl,rfl,rfl,rfl,rfl,?_,rfl,rfl,rfl,rfl,rfl,trivial⟩⟩;exact dh
 ·have q:=of_decide_eq_false q;obtain rfl:k=K:=om;rw [Nat.sub_self] at hq;have hq:D=yQ p k 0 d:=hq;rw [<-hq];exact bm
structure yW where
 XX:Int
 ajS:Int
 sY:Int
 ajT:Int
 G8:bu
 Ca:l7
def mH (p:yW):List ae:=[.aa .i64 p.XX, .aa .i64 p.ajS, .aa .i64 p.sY, .aa .i64 p.ajT, .aa .i64 p.G8.dD, .ai p.G8.bY, .ai p.G8.fO, .ai p.G8.ia, .aa .i64 p.G8.cR,
 .aa .i64 p.Ca.vk, .ai p.Ca.DN,cv 1 jv p.Ca.kB, .aa .i64 p.Ca.qF,cv 2 fD p.Ca.mD]
def Kt (p:yW):ae:= .aK (mH p)
theorem ajV (a b:Int):aC Tryz.prog 54 [.aa .i64 a, .aa .i64 b] (.aa .i64 (if a<b then -1 else if b<a then 1 else 0)):=by
 have hn:∀ z:Int,aC Tryz.prog 110 [.aa .i64 z] (.aE false):=λz=>by
  refine bK Tryz.func110 ?_
  conv=>whnf
  simp
 have h1:=hn a;have h2:=hn b;refine bK Tryz.func54 ?_;refine ak ?_;refine ⟨λh=>?_,λh=>?_⟩
 ·conv=>whnf
  simp_all
 ·have h:=of_decide_eq_false h
  conv=>whnf
  refine ⟨λg=>?_,λg=>?_⟩
  ·conv=>whnf
   simp_all
  ·conv=>whnf
   grind
theorem ajW (p q:yW):aC Tryz.prog 53 [Kt p,Kt q] (.aa .i64 (if p.sY<q.sY then -1 else if q.sY<p.sY then 1 else 0)):=by
 have hc:=ajV p.sY q.sY;generalize (if p.sY<q.sY then (-1:Int) else if q.sY<p.sY then 1 else 0)=z at*;refine cU Tryz.func53 ?_;exact bm
theorem ajU (a:l7) (h1:a.kB.ab.length<=1048576) (h2:a.mD.ab.length<=1048576):aC Tryz.prog 51 [JD a] (JD a):=by
 have hS:=JH a.kB.bZ (a.kB.ab.map jv) OU (by simp_all);have hE:=NM a.mD.bZ (a.mD.ab.map fD) OU (by simp_all);refine cU Tryz.func51 ?_;exact bm
def Pb (E:List yW):Prop:=∀ (k:Nat) (h:k+1<E.length),¬(E[k+1].sY<E[k].sY)
theorem XY {E:List yW} {k:Nat} (h:k<E.length):(E.map mH)[k]? =some (mH E[k]):=by
 simp_all
theorem ajY (nil:Bool) (E:List yW) (hE:Pb E) (h0:0<E.length) (hl:E.length<=1000):
  aC Tryz.prog 180 [.ag nil 14 (E.map mH) .av, .aa .i64 0, .aa .i64 E.length, .aP 53 [] []] (.aw []):=by
 refine bK Tryz.func180 ?_
 conv=>whnf
 refine db.cK (λk:Nat=>[(.aj 0, .ah (.ag nil 14 (E.map mH) .av)),(.aj 1, .ah (.aa .i64 0)),(.aj 2, .ah (.aa .i64 E.length)),(.aj 3, .ah (.aP 53 [] [])),(.aj 8, .ah (.aa .i64 (k+1:Nat)))]) 0
  (λk=>k<E.length) (λk=>E.length - k) dd 0 h0 ⟨rfl,rfl,rfl,rfl,rfl,rfl,rfl,rfl,rfl,rfl,trivial⟩ ?_
 intro k hk;refine cn ?_;refine ⟨λh=>?_,λh=>?_⟩
 ·have h:=of_decide_eq_true h;have hlt:k+1<E.length:=om;have hg1:=XY hlt;have hg0:=XY hk;have hc:=ajW E[k+1] E[k];have hle:=hE k hlt;rw [if_neg hle] at hc;obtain ⟨zz,hz,hc⟩:∃ zz:Int,0<=zz/\aC Tryz.prog 53 [Kt E[k+1],Kt E[k]] (.aa .i64 zz):=⟨_,by split<;>decide,hc⟩;have w2:IntKind.i64.wrap (((k+1:Nat):Int)+1)=((k+1+1:Nat):Int):=by grind [bj]
  have w1:IntKind.i64.wrap (((k+1:Nat):Int) - 1)=(k:Int):=by grind [bj]
  conv=>whnf
  refine db.cK (X:=Unit) (λ_=>[(.aj 0, .ah (.ag nil 14 (E.map mH) .av)),(.aj 1, .ah (.aa .i64 0)),(.aj 2, .ah (.aa .i64 E.length)),(.aj 3, .ah (.aP 53 [] [])),(.aj 8, .ah (.aa .i64 (k+1:Nat))),(.aj 9, .ah (.aa .i64 (k+1:Nat)))]) 0
   (λ_=>True) (λ_=>0) dd () trivial ⟨rfl,rfl,rfl,rfl,rfl,rfl,rfl,rfl,rfl,rfl,rfl,rfl,trivial⟩ ?_
  intro _ _;refine cn ?_;refine C8 om ?_;refine ak ?_;refine ⟨_,⟨by rw [w1];omega,(by rw [w1,Int.toNat_natCast];exact hg0)⟩,?_⟩;generalize E[k+1]=a at*;generalize E[k]=b at*;refine ak ?_;refine fu om ?_
  conv=>whnf
  refine ⟨k+1,hlt,by grind,⟨rfl,rfl,rfl,rfl,rfl,rfl,rfl,rfl,?_,rfl,trivial⟩⟩;exact congrArg (λv=>bs.ah (.aa .i64 v)) w2
 ·conv=>whnf
theorem ajZ (nil:Bool) (E:List yW) (hE:Pb E) (h0:0<E.length) (hl:E.length<=19):
  aC Tryz.prog 52 [.ag nil 14 (E.map mH) .av, .aP 53 [] []] (.aw []):=by
 have hi:=ajY nil E hE h0 om;have hel:(E.map mH).length=E.length:=List.length_map _;have hs:aC Tryz.prog 109 [.ag nil 14 (E.map mH) .av, .aa .i64 E.length, .aP 53 [] []] (.aw []):=by
  refine bK Tryz.func109 ?_
  conv=>whnf
  refine db.cK (X:=Unit) (λ_=>[(.aj 0, .ah (.ag nil 14 (E.map mH) .av)),(.aj 1, .ah (.aa .i64 E.length)),(.aj 2, .ah (.aP 53 [] [])),(.aj 6, .ah (.aa .i64 20)),(.aj 7, .ah (.aa .i64 0)),(.aj 8, .ah (.aa .i64 20))]) 0
   (λ_=>True) (λ_=>0) dd () trivial ⟨rfl,rfl,rfl,rfl,rfl,rfl,rfl,rfl,rfl,rfl,rfl,rfl,trivial⟩ ?_
  intro _ _;refine cn ?_;refine fu om ?_;refine ak ?_;refine db.cK (X:=Unit) (λ_=>[(.aj 1, .ah (.aa .i64 E.length)),(.aj 6, .ah (.aa .i64 20))]) 0
   (λ_=>True) (λ_=>0) dd () trivial ⟨rfl,rfl,rfl,rfl,trivial⟩ ?_
  intro _ _;refine cn ?_;refine fu om ?_
  conv=>whnf
 refine cU Tryz.func52 ?_
 conv=>whnf
 rw [hel];exact bm
def pB (i:Nat) (t:cd):yW:=⟨i,t.Jy,t.lh,if t.kf=true then t.pW else 0,t.dN,t.dT⟩
theorem ajX (x:aV) (hd:∀ t∈x.aq.ab,t.tZ=true) (hE:Pb (x.aq.ab.mapIdx pB)) (h0:0<x.aq.ab.length) (hl:x.aq.ab.length<=19)
  (ha:∀ t∈x.aq.ab,t.dT.kB.ab.length<=1048576/\t.dT.mD.ab.length<=1048576):
  aC Tryz.prog 26 [lM x] (.ag false 14 ((x.aq.ab.mapIdx pB).map mH) .av):=by
 have hcl:(x.aq.ab.map cr).length=x.aq.ab.length:=List.length_map _;refine cU Tryz.func26 ?_
 conv=>whnf
 refine db.zd 3 98 14 rfl rfl (.inr rfl) ?_;have hpl:∀ k,k<=x.aq.ab.length->(((x.aq.ab.take k).mapIdx pB).map mH).length=k:=λk hk=>by
  simp_all
 refine db.cK (X:=Nat) (λk=>[(.aj 1, .ah (.ar 0 0)),(.aj 3, .ah (.ag (decide (k=0)) 14 (((x.aq.ab.take k).mapIdx pB).map mH) (.dB 7))),(.aJ 7, .aN 98 14 k),(.aj 9, .ah (.aa .i64 x.aq.ab.length)),(.aj 10, .ah (.aa .i64 k)),(.af 0, .au 41 (DW x))]) 8
  (λk=>k<=x.aq.ab.length) (λk=>x.aq.ab.length - k) dd 0 (Nat.zero_le _) ⟨rfl,rfl,rfl,rfl,rfl,rfl,?_,rfl,rfl,rfl,rfl,rfl,trivial⟩ ?_
 ·show bs.ah (ae.aa .i64 ((x.aq.ab.map cr).length:Nat))=_;rw [hcl]
 intro k hk;have hal:=hpl k hk;refine cn ?_;refine ⟨λh=>?_,λh=>?_⟩
 ·have h:=of_decide_eq_true h;have hlt:k<x.aq.ab.length:=om;have hg:(x.aq.ab.map cr)[k]? =some (cr x.aq.ab[k]):=by simp_all
  have hdn:=hd _ (List.getElem_mem hlt);have hans:=ha _ (List.getElem_mem hlt);have hA:=ajU x.aq.ab[k].dT hans.1 hans.2;have hnx:((x.aq.ab.take (k+1)).mapIdx pB).map mH=((x.aq.ab.take k).mapIdx pB).map mH++[mH (pB k x.aq.ab[k])]:=by
   grind [List.take_succ_eq_append_getElem]
  have w1:IntKind.i64.wrap ((k:Int)+1)=((k+1:Nat):Int):=by grind [bj]
  generalize x.aq.ab[k]=t at*;refine ak ?_;refine ⟨λq=>absurd q (by rw [hdn];decide),λ_=>?_⟩
  conv=>whnf
  refine ⟨λhe=>?_,λhe=>?_⟩
  ·refine ak ?_;refine ⟨⟨hal.symm,dG (by grind) dd⟩,?_⟩
   conv=>whnf
   refine ⟨aG,?_⟩
   conv=>whnf
   refine ⟨k+1,hlt,by grind,⟨rfl,rfl,?_,rfl,?_,rfl,rfl,rfl,?_,rfl,rfl,rfl,trivial⟩⟩
   ·show bs.ah (ae.ag (decide (k=0) && false) 14 _ _)=bs.ah (ae.ag (decide (k+1=0)) 14 _ _);have hpa:pB k t=⟨k,t.Jy,t.lh,0,t.dN,t.dT⟩:=by grind [pB]
    rw [Bool.and_false,decide_eq_false (p:=k+1=0) om,hnx,hpa];rfl
   ·show bs.aN _ 14 ((((x.aq.ab.take k).mapIdx pB).map mH).length+1)=bs.aN _ 14 (k+1);rw [hal]
   ·exact congrArg (λv=>bs.ah (.aa .i64 v)) w1
  ·refine ak ?_;refine ⟨⟨hal.symm,dG (by grind) dd⟩,?_⟩
   conv=>whnf
   refine ⟨aG,?_⟩
   conv=>whnf
   refine ⟨k+1,hlt,by grind,⟨rfl,rfl,?_,rfl,?_,rfl,rfl,rfl,?_,rfl,rfl,rfl,trivial⟩⟩
   ·show bs.ah (ae.ag (decide (k=0) && false) 14 _ _)=bs.ah (ae.ag (decide (k+1=0)) 14 _ _);have hpa:pB k t=⟨k,t.Jy,t.lh,t.pW,t.dN,t.dT⟩:=by grind [pB]
    rw [Bool.and_false,decide_eq_false (p:=k+1=0) om,hnx,hpa];rfl
   ·show bs.aN _ 14 ((((x.aq.ab.take k).mapIdx pB).map mH).length+1)=bs.aN _ 14 (k+1);rw [hal]
   ·exact congrArg (λv=>bs.ah (.aa .i64 v)) w1
 ·have h:=of_decide_eq_false h;obtain rfl:k=x.aq.ab.length:=om;rw [List.take_length];have hS:=ajZ false (x.aq.ab.mapIdx pB) hE (by simp_all) (by simp_all);rw [decide_eq_false om];exact bm
end Go.Proofs.YtffboamedcmpaaaGreatDoor
namespace Gw
theorem X0 (p:Int):∀ (f:Nat) (i:Nat) {T:Nat} {d:dF},dZ T d->dZ (T+2*f) (yQ p f i d)
 |0,_,_,_,h=>h
 |f+1,i,T,d,h=>by
  rw [yQ];split
  ·exact h.nP om
  ·exact (X0 p f (i+1) (OB h _)).nP om
theorem X1 {T:Nat} {d:dF} (h:dZ T d) (p:Int):dZ (T+2*(45*d.bL.aq.ab.length*d.bL.aq.ab.length)) (BY d p):=X0 p _ 0 h
def G9:=qc 1 60
def Ha:=qd G9.1 ⟨2,[47,97],[],[],0⟩
def Hb:=qd Ha.1 ⟨7,[47],[],[],0⟩
def Ku:=BY Hb.1 0
def Hc:=qd Ku ⟨12,[],[],[],0⟩
def uA:=BY Hc.1 0
def He:=yN uA []
theorem Hf:G9.2=0/\Ha.2.2=0/\Hb.1.bL.aq.ab.length=2/\Hc.1.bL.aq.ab.length=3/\uA.bL.aq.ab.length=3/\
  (uA.bL.aq.ab.all λt=>t.tZ && (decide (t.dT.kB.ab.length<=1000) && decide (t.dT.mD.ab.length<=1000)))=true/\
  ((uA.bL.aq.ab.map (·.lh))[0]?.getD 0<=(uA.bL.aq.ab.map (·.lh))[1]?.getD 0)/\((uA.bL.aq.ab.map (·.lh))[1]?.getD 0<=(uA.bL.aq.ab.map (·.lh))[2]?.getD 0)/\
  (uA.bL.aq.ab.map λt=>t.dT.kB.ab.length)[1]? =some 1/\BG uA.bL=true/\He.2=0/\(eL He.1.bL.br.aA.aQ.ab 0).map (·.dx)=[[47,97]]:=by decide+kernel
theorem Pc:dZ 0 G9.1:=J5 dd Hf.1
theorem Pd:dZ 1 Ha.1:=J6 Pc ⟨2,[47,97],[],[],0⟩ dd dd dd
theorem Pe:dZ 2 Hb.1:=J6 Pd ⟨7,[47],[],[],0⟩ dd dd dd
theorem Pf:dZ 362 Ku:=by
 have:=X1 Pe 0;rw [Hf.2.2.1] at this;exact this
theorem Pg:dZ 363 Hc.1:=J6 Pf ⟨12,[],[],[],0⟩ dd dd dd
theorem Ph:dZ 1173 uA:=by
 have:=X1 Pg 0;rw [Hf.2.2.2.1] at this;exact this
theorem XZ:dZ 1173 He.1:=Wm Ph []
end Gw
namespace Go.Proofs.YtffboamedcmpaaaGreatDoor
open Gw
open Go.Am
theorem aj1 (x0 x1 x2 x3 x4 x5 x6:dF) (n1 n2 e2 n4 e4:Int) (p0 p1 p2:yW) (it:dH) (hw:p1.XX=1) (hn:p1.Ca.kB.ab.length=1) (hp:it.dx=[47,97])
  (hN:aC Tryz.prog 7 [.aa .i64 1, .aa .i64 60] (.aw [jM x0, .aa .i64 0]))
  (hS1:aC Tryz.prog 15 [jM x0,tX ⟨2,[47,97],[],[],0⟩] (.aw [jM x1, .aa .i64 n1, .aa .i64 0]))
  (hS2:aC Tryz.prog 15 [jM x1,tX ⟨7,[47],[],[],0⟩] (.aw [jM x2, .aa .i64 n2, .aa .i64 e2]))
  (hQ3:aC Tryz.prog 14 [jM x2, .aa .i64 0] (jM x3))
  (hS4:aC Tryz.prog 15 [jM x3,tX ⟨12,[],[],[],0⟩] (.aw [jM x4, .aa .i64 n4, .aa .i64 e4]))
  (hQ5:aC Tryz.prog 14 [jM x4, .aa .i64 0] (jM x5))
  (hC:aC Tryz.prog 25 [jM x5, .ai []] (.aw [jM x6, .aa .i64 0]))
  (hH:aC Tryz.prog 26 [lM x5.bL] (.ag false 14 [mH p0,mH p1,mH p2] .av))
  (hI:aC Tryz.prog 23 [.ag x6.bL.br.aA.aQ.bZ 8 (cT x6.bL.br.aA.aQ.ab) .av, .aa .i64 0] (.ag false 3 [Gj it] .av))
  (hD:aC Tryz.prog 27 [lM x5.bL] (.aE true)):aC Tryz.prog 6 [] (.aE true):=by
 have hnl:(p1.Ca.kB.ab.map jv).length=1:=by simp_all
 refine cU Tryz.func6 ?_;refine cC ?_;refine ⟨_,⟨dd,rfl⟩,?_⟩
 conv=>whnf
 refine ⟨λ_=>?_,λq=>absurd (of_decide_eq_false q) (by rw [hnl];decide)⟩
 conv=>whnf
 refine ⟨_,⟨dd,rfl⟩,?_⟩
 conv=>whnf
 refine ⟨λ_=>?_,λq=>absurd (of_decide_eq_false q) (by rw [hw];decide)⟩
 conv=>whnf
 refine ⟨_,⟨dd,rfl⟩,?_⟩
 conv=>whnf
 refine ⟨λ_=>?_,λq=>absurd (of_decide_eq_false q) (by rw [hp];decide)⟩;exact bm
theorem aj2 {α β:Type} {f:α->β} {l:List α} {b:β} (h:l.map f=[b]):∃ a,l=[a]/\f a=b:=by
 simp_all
theorem aj3 {α:Type} {l:List α} (h:l.length=3):∃ a b c,l=[a,b,c]:=by
 match l,h with
 |[a,b,c],_=>simp_all
theorem aj0 (x0:dF×Int) (x1 x2 x4:dF×Int×Int) (x3 x5:dF) (x6:dF×Int)
  (e0:qc 1 60=x0) (e1:qd x0.1 ⟨2,[47,97],[],[],0⟩=x1) (e2:qd x1.1 ⟨7,[47],[],[],0⟩=x2) (e3:BY x2.1 0=x3)
  (e4:qd x3 ⟨12,[],[],[],0⟩=x4) (e5:BY x4.1 0=x5) (e6:yN x5 []=x6)
  (k0:dZ 0 x0.1) (k1:dZ 1 x1.1) (k2:dZ 2 x2.1) (k3:dZ 362 x3) (k4:dZ 363 x4.1) (k5:dZ 1173 x5) (k6:dZ 1173 x6.1)
  (hf:x0.2=0/\x1.2.2=0/\x2.1.bL.aq.ab.length=2/\x4.1.bL.aq.ab.length=3/\x5.bL.aq.ab.length=3/\
  (x5.bL.aq.ab.all λt=>t.tZ && (decide (t.dT.kB.ab.length<=1000) && decide (t.dT.mD.ab.length<=1000)))=true/\
  ((x5.bL.aq.ab.map (·.lh))[0]?.getD 0<=(x5.bL.aq.ab.map (·.lh))[1]?.getD 0)/\((x5.bL.aq.ab.map (·.lh))[1]?.getD 0<=(x5.bL.aq.ab.map (·.lh))[2]?.getD 0)/\
  (x5.bL.aq.ab.map λt=>t.dT.kB.ab.length)[1]? =some 1/\BG x5.bL=true/\x6.2=0/\(eL x6.1.bL.br.aA.aQ.ab 0).map (·.dx)=[[47,97]]):
  aC Tryz.prog 6 [] (.aE true):=by
 obtain ⟨f0,f1,f2,f4,f5,fall,fm1,fm2,fn,fd,fe,fp⟩:=hf;have st:∀ {T:Nat} {d:dF},dZ T d->T<=900000->d.bL.aq.ab.length<=1000/\0<=d.bL.ca/\d.bL.ca<1000000:=λh _=>by
  grind [h.jU.gC.ma,h.jU.p9]
 have hN:=Ko 1 60;rw [e0,f0] at hN;have hS1:=Kp x0.1 ⟨2,[47,97],[],[],0⟩ (st k0 dd).1 (st k0 dd).2;rw [e1,f1] at hS1;have hS2:=Kp x1.1 ⟨7,[47],[],[],0⟩ (st k1 dd).1 (st k1 dd).2;rw [e2] at hS2;have hQ3:=XW x2.1 k2 0 dd (by rw [f2];decide);rw [e3] at hQ3;have hS4:=Kp x3 ⟨12,[],[],[],0⟩ (st k3 dd).1 (st k3 dd).2;rw [e4] at hS4;have hQ5:=XW x4.1 k4 0 dd (by rw [f4];decide);rw [e5] at hQ5;have hC:=XT x5 k5 [] dd;rw [e6,fe] at hC;have hD:=Xz x5.bL (by rw [f5];decide);rw [fd] at hD;have hns:=vL k6.jU.jb.ja;have hI:=DJ x6.1.bL.br.aA.aQ.bZ x6.1.bL.br.aA.aQ.ab 0 hns.rO (by have:=hns.vK;omega) hns.B5;have hfa:=λt ht=>List.all_eq_true.1 fall t ht
 obtain ⟨t0,t1,t2,ht⟩:=aj3 f5;rw [ht] at fn fm1 fm2;have hH:=ajX x5.bL (λt ht=>(Bool.and_eq_true_iff.1 (hfa t ht)).1) (by
   rw [ht];intro k hk;have hk:k+1<3:=hk
   match k,hk with
   |0,_=>exact Int.not_lt.2 fm1
   |1,_=>exact Int.not_lt.2 fm2) (by rw [f5];decide) (by rw [f5];decide) (λt ht=>by
   grind)
 obtain ⟨it,hI1,hit⟩:=aj2 fp;rw [hI1] at hI;rw [ht] at hH;exact aj1 x0.1 x1.1 x2.1 x3 x4.1 x5 x6.1 x1.2.1 x2.2.1 x2.2.2 x4.2.1 x4.2.2 (pB 0 t0) (pB 1 t1) (pB 2 t2) it rfl (show t1.dT.kB.ab.length=1 by simpa using fn) hit hN hS1 hS2 hQ3 hS4 hQ5 hC hH hI hD
theorem X2:aC Tryz.prog 6 [] (.aE true):=
 aj0 G9 Ha Hb Hc Ku uA He rfl rfl rfl rfl rfl rfl rfl Pc Pd Pe Pf Pg Ph XZ Hf
open Go.Am Go.ChangeShapes Go.WideShapes Go.ChangeAt Go.RowKit
theorem aj5 {H:Type} {enc:TypeId×Value->H} {W:World} {fuel:Nat} {cs:List Value} {y:DataW H×List MemPlace} (ht:DataW.trod enc Tryz.prog W 0 (λ_=>true) true fuel 73 cs=some y):
  ∃ (k:Int) (p s d:ByteArray) (n:Int),cs=[.int .i64 k, .string p, .string s, .string d, .int .i64 n]:=by
 obtain ⟨xs,m,_,rfl,hl,hlen,hf⟩:=DataW.trod_struct Tryz.underlying73 ht;have hl:cs.length=5:=hl.trans aG
 match xs,hlen,cs,hl with
 |[y0,y1,y2,y3,y4],_,[c0,c1,c2,c3,c4],_=>
  have h0:DataW.trod enc Tryz.prog W 0 (λ_=>true) true m 3 (([c0,c1,c2,c3,c4].drop 0).take (Tryz.prog.cellsOf 3))=some y0:=hf 0 _ rfl;rw [show Tryz.prog.cellsOf 3=1 by kernel_rfl] at h0;have h0:DataW.trod enc Tryz.prog W 0 (λ_=>true) true m 3 [c0]=some y0:=h0;have h1:DataW.trod enc Tryz.prog W 0 (λ_=>true) true m 9 (([c0,c1,c2,c3,c4].drop 1).take (Tryz.prog.cellsOf 9))=some y1:=hf 1 _ rfl;rw [show Tryz.prog.cellsOf 9=1 by kernel_rfl] at h1;have h1:DataW.trod enc Tryz.prog W 0 (λ_=>true) true m 9 [c1]=some y1:=h1;have h2:DataW.trod enc Tryz.prog W 0 (λ_=>true) true m 9 (([c0,c1,c2,c3,c4].drop 2).take (Tryz.prog.cellsOf 9))=some y2:=hf 2 _ rfl;rw [show Tryz.prog.cellsOf 9=1 by kernel_rfl] at h2;have h2:DataW.trod enc Tryz.prog W 0 (λ_=>true) true m 9 [c2]=some y2:=h2;have h3:DataW.trod enc Tryz.prog W 0 (λ_=>true) true m 9 (([c0,c1,c2,c3,c4].drop 3).take (Tryz.prog.cellsOf 9))=some y3:=hf 3 _ rfl;rw [show Tryz.prog.cellsOf 9=1 by kernel_rfl] at h3;have h3:DataW.trod enc Tryz.prog W 0 (λ_=>true) true m 9 [c3]=some y3:=h3;have h4:DataW.trod enc Tryz.prog W 0 (λ_=>true) true m 3 (([c0,c1,c2,c3,c4].drop 4).take (Tryz.prog.cellsOf 3))=some y4:=hf 4 _ rfl;rw [show Tryz.prog.cellsOf 3=1 by kernel_rfl] at h4;have h4:DataW.trod enc Tryz.prog W 0 (λ_=>true) true m 3 [c4]=some y4:=h4;obtain ⟨a,ha,_,_⟩:=DataW.trod_int Tryz.underlying3 h0;obtain ⟨p,hp,_,_⟩:=DataW.trod_string Tryz.underlying9 h1;obtain ⟨s,hs,_,_⟩:=DataW.trod_string Tryz.underlying9 h2;obtain ⟨t,hu,_,_⟩:=DataW.trod_string Tryz.underlying9 h3;grind [DataW.trod_int,Tryz.underlying3]
theorem aj6 {H:Type} {enc:TypeId×Value->H} {W:World} {fuel:Nat} {cs:List Value} {y:DataW H×List MemPlace} (ht:DataW.trod enc Tryz.prog W 0 (λ_=>true) true fuel 80 cs=some y):
  ∃ (k ck n pick:Int) (p s d picks:ByteArray),cs=[.int .i64 k, .int .i64 ck, .string p, .string s, .string d, .int .i64 n, .int .i64 pick, .string picks]:=by
 obtain ⟨xs,m,_,rfl,hl,hlen,hf⟩:=DataW.trod_struct Tryz.underlying80 ht;have hl:cs.length=8:=hl.trans aG
 match xs,hlen,cs,hl with
 |[y0,y1,y2,y3],_,[c0,c1,c2,c3,c4,c5,c6,c7],_=>
  have h0:DataW.trod enc Tryz.prog W 0 (λ_=>true) true m 3 (([c0,c1,c2,c3,c4,c5,c6,c7].drop 0).take (Tryz.prog.cellsOf 3))=some y0:=hf 0 _ rfl;rw [show Tryz.prog.cellsOf 3=1 by kernel_rfl] at h0;have h0:DataW.trod enc Tryz.prog W 0 (λ_=>true) true m 3 [c0]=some y0:=h0;have h1:DataW.trod enc Tryz.prog W 0 (λ_=>true) true m 73 (([c0,c1,c2,c3,c4,c5,c6,c7].drop 1).take (Tryz.prog.cellsOf 73))=some y1:=hf 1 _ rfl;rw [show Tryz.prog.cellsOf 73=5 by kernel_rfl] at h1;have h1:DataW.trod enc Tryz.prog W 0 (λ_=>true) true m 73 [c1,c2,c3,c4,c5]=some y1:=h1;have h2:DataW.trod enc Tryz.prog W 0 (λ_=>true) true m 3 (([c0,c1,c2,c3,c4,c5,c6,c7].drop 6).take (Tryz.prog.cellsOf 3))=some y2:=hf 2 _ rfl;rw [show Tryz.prog.cellsOf 3=1 by kernel_rfl] at h2;have h2:DataW.trod enc Tryz.prog W 0 (λ_=>true) true m 3 [c6]=some y2:=h2;have h3:DataW.trod enc Tryz.prog W 0 (λ_=>true) true m 9 (([c0,c1,c2,c3,c4,c5,c6,c7].drop 7).take (Tryz.prog.cellsOf 9))=some y3:=hf 3 _ rfl;rw [show Tryz.prog.cellsOf 9=1 by kernel_rfl] at h3;have h3:DataW.trod enc Tryz.prog W 0 (λ_=>true) true m 9 [c7]=some y3:=h3;obtain ⟨k,hk,_,_⟩:=DataW.trod_int Tryz.underlying3 h0;obtain ⟨a,p,s,t,n,hc⟩:=aj5 h1;obtain ⟨b,hb,_,_⟩:=DataW.trod_int Tryz.underlying3 h2;obtain ⟨q,hq,_,_⟩:=DataW.trod_string Tryz.underlying9 h3;simp_all
theorem aj4 {W:World} {k ck n pick:Int} {p s d picks:ByteArray}:∀ (j:Nat) (x:ae) (v:Value),(G7 ⟨k,⟨ck,p.data.toList,s.data.toList,d.data.toList,n⟩,pick,picks.data.toList⟩)[j]? =some x->
  [Value.int .i64 k, .int .i64 ck, .string p, .string s, .string d, .int .i64 n, .int .i64 pick, .string picks][j]? =some v->cb W (xY W) x v/\v.oneCell'=true
 |0,_,_,h1,h2=>by cases h1;cases h2;exact ⟨.fK _ _,rfl⟩
 |1,_,_,h1,h2=>by cases h1;cases h2;exact ⟨.fK _ _,rfl⟩
 |2,_,_,h1,h2=>by cases h1;cases h2;exact ⟨.gX rfl,rfl⟩
 |3,_,_,h1,h2=>by cases h1;cases h2;exact ⟨.gX rfl,rfl⟩
 |4,_,_,h1,h2=>by cases h1;cases h2;exact ⟨.gX rfl,rfl⟩
 |5,_,_,h1,h2=>by cases h1;cases h2;exact ⟨.fK _ _,rfl⟩
 |6,_,_,h1,h2=>by cases h1;cases h2;exact ⟨.fK _ _,rfl⟩
 |7,_,_,h1,h2=>by cases h1;cases h2;exact ⟨.gX rfl,rfl⟩
 |j+8,_,_,h1,_=>by cases h1
theorem Pj {H:Type} {enc:TypeId×Value->H} {W:World} {base:Nat} {v:Value} {d:DataW H} {q:List MemPlace} (hval:Value.okWide Tryz.prog W .any base 22 v) (hd:DataW.Trod enc Tryz.prog W 0 (λ_=>true) true 22 v d q):
  ∃ (isNil:Bool) (l:List jF),cb W (xY W) (.ag isNil 8 (qe l) .av) v/\(isNil=true->l=[])/\l.length<=maxLen:=by
 obtain ⟨a0,len,cap,rfl⟩:=okWide_slice Tryz.underlying22 hval;obtain ⟨fuel,hf⟩:=hd;obtain ⟨nil,l,h1,h2,h3,_⟩:=aar (α:=jF) Tryz.underlying22 (sz:=8) aG dd G7 (λ_=>True) (λn cs y hcs ht=>by
  obtain ⟨k,ck,n,pick,p,s,d,picks,rfl⟩:=aj6 ht;exact ⟨⟨k,⟨ck,p.data.toList,s.data.toList,d.data.toList,n⟩,pick,picks.data.toList⟩,trivial,rfl,aj4⟩) hf
 exact ⟨nil,l,h1,h2,h3⟩
theorem aj7 (n1 n2:Bool) (l:List dH) (hl:l.length<=1048576):aC Tryz.prog 24 [.ag n1 3 (iN l) .av, .ag n2 3 (iN l) .av] (.aE true):=by
 have hel:=DH l;refine bK Tryz.func24 ?_
 conv=>whnf
 rw [hel];refine ⟨λh=>absurd h (by simp),λ_=>?_⟩
 conv=>whnf
 refine db.cK (λk:Nat=>[(.aj 0, .ah (.ag n1 3 (iN l) .av)),(.aj 1, .ah (.ag n2 3 (iN l) .av)),(.aj 5, .ah (.aa .i64 k))]) 0
  (λk=>k<=l.length) (λk=>l.length - k) dd 0 (Nat.zero_le _) ⟨rfl,rfl,rfl,rfl,rfl,rfl,trivial⟩ ?_
 rintro k hk;refine cn ?_;rw [hel];refine ⟨λh=>?_,λh=>?_⟩
 ·have h:=of_decide_eq_true h;have hlt:k<l.length:=om;have hg:=zL hlt
  conv=>whnf
  refine ⟨_,⟨om,hg⟩,?_⟩
  conv=>whnf
  refine ⟨_,⟨om,hg⟩,?_⟩;generalize l[k]=it at*
  conv=>whnf
  refine ⟨aG,?_⟩
  conv=>whnf
  refine ⟨aG,?_⟩
  conv=>whnf
  refine ⟨λh=>absurd h (by simp),λ_=>?_⟩
  conv=>whnf
  refine ⟨k+1,hlt,by grind,rfl,rfl,rfl,rfl,?_,rfl,trivial⟩;exact dh
 ·conv=>whnf
theorem X4 {l:List jF} {most:Nat} (h:(l.all qP && decide (l.length<=most))=true):l.length<=most/\∀ o∈l,vI o:=by
 simp only [Bool.and_eq_true,decide_eq_true_eq] at h;refine ⟨h.2,λo ho=>?_⟩;have:=List.all_eq_true.1 h.1 o ho;unfold qP qf at this;simp only [Bool.and_eq_true,decide_eq_true_eq] at this;exact ⟨this.1.1,this.1.2.1,this.1.2.2,this.2⟩
theorem X3 {r size:Int} (h:(qc r size).2=0):kV r 0 (qc r size).1.bL:=by
 grind [aha,qc]
theorem EA:(qc 1 200).2=0/\(qc 2 200).2=0:=by decide+kernel
theorem aj8 (nil0 nil1:Bool) (a b:List jF) (ha:a.length<=9223372036854775807) (hb:b.length<=9223372036854775807):aC Tryz.prog 5 [.ag nil0 8 (qe a) .av, .ag nil1 8 (qe b) .av] (.aE true):=by
 have hFa:=O9 nil0 a 40 ha;have hFb:=O9 nil1 b 40 hb;have hN1:=Ko 1 200;have hN2:=Ko 2 200;have hno1:=J5 dd EA.1;have hno2:=J5 dd EA.2;have al1:=X3 EA.1;have al2:=X3 EA.2;rw [EA.1] at hN1;rw [EA.2] at hN2;generalize (qc 1 200).1=d1 at*;generalize (qc 2 200).1=d2 at*;refine cU Tryz.func5 ?_
 conv=>whnf
 refine bz.eV X2 rfl ?_
 conv=>whnf
 refine bz.eV hN1 rfl ?_
 conv=>whnf
 refine bz.eV hN2 rfl ?_
 conv=>whnf
 refine bz.eV hFa rfl ?_;cases hfa:(a.all qP && decide (a.length<=40)) with
 |false=>
  refine iV ?_;exact iL.bw _
 |true=>
  refine ak ?_;cases hfb:(b.all qP && decide (b.length<=40)) with
  |false=>
   exact bm
  |true=>
   refine ak ?_;obtain ⟨hal,hao⟩:=X4 hfa;obtain ⟨hbl,hbo⟩:=X4 hfb;obtain ⟨D1,hD1⟩:∃ D1,a.foldl px d1=D1:=⟨_,rfl⟩;obtain ⟨D2,hD2⟩:∃ D2,b.foldl px d2=D2:=⟨_,rfl⟩;refine db.cK (X:=Nat×dF) (λy=>[(.aj 0, .ah (.ag nil0 8 (qe a) .av)),(.aj 1, .ah (.ag nil1 8 (qe b) .av)),(.aj 5, .ah (.aE true)),(.aj 6, .ah (.ar 5 0)),(.aj 8, .ah (.ar 11 0)),(.aj 10, .ah (.aa .i64 y.1)),(.af 5, .au 49 (vP y.2)),(.af 11, .au 49 (vP d2))]) 12
    (λy=>y.1<=a.length/\dZ (2*y.1) y.2/\(a.drop y.1).foldl px y.2=a.foldl px d1) (λy=>a.length - y.1) dd (0,d1) ⟨Nat.zero_le _,hno1,rfl⟩ ⟨rfl,rfl,rfl,rfl,rfl,rfl,rfl,rfl,rfl,rfl,rfl,rfl,rfl,rfl,rfl,rfl,trivial⟩ ?_
   rintro ⟨k,D⟩ ⟨hk,hd,hq⟩;dsimp only at hk hd hq ⊢;refine cn ?_;rw [Kr];refine ⟨λh=>?_,λh=>?_⟩
   ·have h:=of_decide_eq_true h;have hlt:k<a.length:=om;have hg:=Kq hlt;have hdr:=List.drop_eq_getElem_cons hlt;have hoo:=hao a[k] (List.getElem_mem hlt);rw [hdr,List.foldl_cons] at hq;generalize a[k]=o at*;have hD:=Pa D hd o om hoo.OA;have hok:=GR hd hoo;have wk:IntKind.i64.wrap ((k:Int)+1)=((k+1:Nat):Int):=by grind [bj]
    unfold px at hq;refine ak ?_;refine ⟨λh13=>?_,λh13=>?_⟩
    ·have h13:o.kU.dD≠13:=by simpa using h13
     refine ak ?_;refine ⟨λh4=>?_,λh4=>?_⟩
     ·have h4:o.qN≠4:=by simpa using h4
      rw [if_pos ⟨h13,h4⟩] at hq;generalize sV D o=z at*;obtain ⟨e1,e2⟩:=z;dsimp only at*
      conv=>whnf
      refine ⟨_,⟨om,hg⟩,?_⟩
      conv=>whnf
      refine ⟨_,rfl,hD,?_⟩
      conv=>whnf
      refine ⟨aG,?_⟩
      conv=>whnf
      refine ⟨(k+1,e1),⟨om,hok.nP om,hq⟩,by grind,⟨rfl,rfl,rfl,rfl,rfl,rfl,rfl,rfl,rfl,rfl,?_,rfl,rfl,rfl,rfl,rfl,trivial⟩⟩;exact congrArg (λv=>bs.ah (.aa .i64 v)) wk
     ·have h4:o.qN=4:=by simpa using h4
      rw [if_neg (λq=>q.2 h4)] at hq
      conv=>whnf
      refine ⟨(k+1,D),⟨om,hd.nP om,hq⟩,by grind,⟨rfl,rfl,rfl,rfl,rfl,rfl,rfl,rfl,rfl,rfl,?_,rfl,rfl,rfl,rfl,rfl,trivial⟩⟩;exact congrArg (λv=>bs.ah (.aa .i64 v)) wk
    ·have h13:o.kU.dD=13:=by simpa using h13
     rw [if_neg (λq=>q.1 h13)] at hq;refine iV ?_;refine ⟨(k+1,D),⟨om,hd.nP om,hq⟩,by grind,⟨rfl,rfl,rfl,rfl,rfl,rfl,rfl,rfl,rfl,rfl,?_,rfl,rfl,rfl,rfl,rfl,trivial⟩⟩;exact congrArg (λv=>bs.ah (.aa .i64 v)) wk
   ·have h:=of_decide_eq_false h;obtain rfl:k=a.length:=om;rw [List.drop_length] at hq;have hq:D=a.foldl px d1:=hq
    conv=>whnf
    clear hd;obtain rfl:D1=D:=(hq.trans hD1).symm;refine db.cK (X:=Nat×dF) (λy=>[(.aj 0, .ah (.ag nil0 8 (qe a) .av)),(.aj 1, .ah (.ag nil1 8 (qe b) .av)),(.aj 5, .ah (.aE true)),(.aj 6, .ah (.ar 5 0)),(.aj 8, .ah (.ar 11 0)),(.aj 13, .ah (.aa .i64 y.1)),(.af 5, .au 49 (vP D1)),(.af 11, .au 49 (vP y.2))]) 12
     (λy=>y.1<=b.length/\dZ (2*y.1) y.2/\(b.drop y.1).foldl px y.2=b.foldl px d2) (λy=>b.length - y.1) dd (0,d2) ⟨Nat.zero_le _,hno2,rfl⟩ ⟨rfl,rfl,rfl,rfl,rfl,rfl,rfl,rfl,rfl,rfl,rfl,rfl,rfl,rfl,rfl,rfl,trivial⟩ ?_
    rintro ⟨k,D⟩ ⟨hk,hd,hq⟩;dsimp only at hk hd hq ⊢;refine cn ?_;rw [Kr];refine ⟨λh=>?_,λh=>?_⟩
    ·have h:=of_decide_eq_true h;have hlt:k<b.length:=om;have hg:=Kq hlt;have hdr:=List.drop_eq_getElem_cons hlt;have hoo:=hbo b[k] (List.getElem_mem hlt);rw [hdr,List.foldl_cons] at hq;generalize b[k]=o at*;have hD:=Pa D hd o om hoo.OA;have hok:=GR hd hoo;have wk:IntKind.i64.wrap ((k:Int)+1)=((k+1:Nat):Int):=by grind [bj]
     unfold px at hq;refine ak ?_;refine ⟨λh13=>?_,λh13=>?_⟩
     ·have h13:o.kU.dD≠13:=by simpa using h13
      refine ak ?_;refine ⟨λh4=>?_,λh4=>?_⟩
      ·have h4:o.qN≠4:=by simpa using h4
       rw [if_pos ⟨h13,h4⟩] at hq;generalize sV D o=z at*;obtain ⟨e1,e2⟩:=z;dsimp only at*
       conv=>whnf
       refine ⟨_,⟨om,hg⟩,?_⟩
       conv=>whnf
       refine ⟨_,rfl,hD,?_⟩
       conv=>whnf
       refine ⟨aG,?_⟩
       conv=>whnf
       refine ⟨(k+1,e1),⟨om,hok.nP om,hq⟩,by grind,⟨rfl,rfl,rfl,rfl,rfl,rfl,rfl,rfl,rfl,rfl,?_,rfl,rfl,rfl,rfl,rfl,trivial⟩⟩;exact congrArg (λv=>bs.ah (.aa .i64 v)) wk
      ·have h4:o.qN=4:=by simpa using h4
       rw [if_neg (λq=>q.2 h4)] at hq
       conv=>whnf
       refine ⟨(k+1,D),⟨om,hd.nP om,hq⟩,by grind,⟨rfl,rfl,rfl,rfl,rfl,rfl,rfl,rfl,rfl,rfl,?_,rfl,rfl,rfl,rfl,rfl,trivial⟩⟩;exact congrArg (λv=>bs.ah (.aa .i64 v)) wk
     ·have h13:o.kU.dD=13:=by simpa using h13
      rw [if_neg (λq=>q.1 h13)] at hq;refine iV ?_;refine ⟨(k+1,D),⟨om,hd.nP om,hq⟩,by grind,⟨rfl,rfl,rfl,rfl,rfl,rfl,rfl,rfl,rfl,rfl,?_,rfl,rfl,rfl,rfl,rfl,trivial⟩⟩;exact congrArg (λv=>bs.ah (.aa .i64 v)) wk
    ·have h:=of_decide_eq_false h;obtain rfl:k=b.length:=om;rw [List.drop_length] at hq;have hq:D=b.foldl px d2:=hq
     conv=>whnf
     clear hd;obtain rfl:D2=D:=(hq.trans hD2).symm;obtain ⟨k1,s1⟩:=OE a hno1 al1 hao;obtain ⟨k2,s2⟩:=OE b hno2 al2 hbo;rw [hD1] at k1 s1;rw [hD2] at k2 s2;have hx:=k1.jU;have hy:=k2.jU;have mx:=hx.jb;have my:=hy.jb;have cx:∀ o∈du D1.bL.br.aA,cJ o=true:=λo ho=>by
      obtain ⟨e,he,rfl⟩:=List.mem_map.1 ho;exact mx.ja.xd e he
     have cy:∀ o∈du D2.bL.br.aA,cJ o=true:=λo ho=>by
      obtain ⟨e,he,rfl⟩:=List.mem_map.1 ho;exact my.ja.xd e he
     have lx:(du D1.bL.br.aA).length<=1500:=by
      grind [mx.ja.qL,du]
     have ly:(du D2.bL.br.aA).length<=1500:=by
      grind [my.ja.qL,du]
     have hO1:=Vq D1.bL.br.aA (by have:=mx.ja.qL;omega);have hO2:=Vq D2.bL.br.aA (by have:=my.ja.qL;omega);have hW1:=O8 false cx lx;have hW2:=O8 false cy ly;have hmeet:=ahk (r:=1) (s:=2) hx hy s1 s2 dd om;have hM1:=λc h1 h2 h3=>OT D1.bL.br c (O5 mx om) h1 h2 h3
     have hM2:=λc h1 h2 h3=>OT D2.bL.br c (O5 my om) h1 h2 h3
     have hS1:=λc=>Eg mx c
     have hS2:=λc=>Eg my c
     have hO1:aC Tryz.prog 22 [rG D1.bL.br.aA] (.ag false 7 (iw (du D1.bL.br.aA)) .av):=hO1;have hO2:aC Tryz.prog 22 [rG D2.bL.br.aA] (.ag false 7 (iw (du D2.bL.br.aA)) .av):=hO2;generalize du D1.bL.br.aA=L1 at*;generalize du D2.bL.br.aA=L2 at*;have hW1:aC Tryz.prog 21 [.ag false 7 (iw L1) .av] (.aw [.ai (L1.flatMap dM), .aa .i64 0]):=hW1;have hW2:aC Tryz.prog 21 [.ag false 7 (iw L2) .av] (.aw [.ai (L2.flatMap dM), .aa .i64 0]):=hW2;generalize L1.flatMap dM=B1 at*;generalize L2.flatMap dM=B2 at*;refine ak ?_;refine ⟨λhq=>?_,λhq=>?_⟩
     ·exact bm
     have q1:=of_decide_eq_false hq
     conv=>whnf
     refine ⟨λhq=>?_,λhq=>?_⟩
     ·exact bm
     have q2:=of_decide_eq_false hq;obtain ⟨e1,e2,e3,e4,e5⟩:=hmeet om om;have hM1:=hM1 (lO B2) (Nat.zero_le _) (Nat.zero_le _) (by show B2.length<=100000;omega);have hM2:=hM2 (lO B1) (Nat.zero_le _) (Nat.zero_le _) (by show B1.length<=100000;omega);have hS1:=(hS1 (lO B2)).Og;have hS2:=(hS2 (lO B1)).Og;generalize dR D1.bL.br (lO B2)=y1 at*;generalize dR D2.bL.br (lO B1)=y2 at*;obtain ⟨m1,⟨r1,da1,na1,nn1,ev1⟩,o1⟩:=y1;obtain ⟨m2,⟨r2,da2,na2,nn2,ev2⟩,o2⟩:=y2;dsimp only at*;subst e1 e2 e3 e4;have n1:=vL hS1.ja;have n2:=vL hS2.ja;have hI1:=DJ m1.aA.aQ.bZ m1.aA.aQ.ab 0 n1.rO (by have:=n1.vK;omega) n1.B5;have hI2:=DJ m2.aA.aQ.bZ m2.aA.aQ.ab 0 n2.rO (by have:=n2.vK;omega) n2.B5;have hcnt:=XV hS1.ja.xc.Nx hS1.ja.Wu;have hfew:=n1.vK;have hSa:=aj7 (decide (eL m1.aA.aQ.ab 0=[])) (decide (eL m2.aA.aQ.ab 0=[])) (eL m1.aA.aQ.ab 0) om;have ei:eL m2.aA.aQ.ab 0=eL m1.aA.aQ.ab 0:=by rw [e5]
     rw [ei] at hI2 hSa;generalize eL m1.aA.aQ.ab 0=I at*;refine cC ?_;refine ⟨λ_=>?_,λq=>absurd (of_decide_eq_false q) (by simp_all)⟩
     conv=>whnf
     show iL (ae.aE (((D1.bL.bG.ab.length:Nat):Int)==(((D1.bL.bG.ab.map cI).length:Nat):Int))) _;rw [show (((D1.bL.bG.ab.length:Nat):Int)==(((D1.bL.bG.ab.map cI).length:Nat):Int))=true by simp_all];exact iL.bw _
end Go.Proofs.YtffboamedcmpaaaGreatDoor
