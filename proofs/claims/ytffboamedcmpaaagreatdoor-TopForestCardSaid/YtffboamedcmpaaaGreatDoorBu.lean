import Derived.Test.YtffboamedcmpaaaGreatDoorBt
set_option linter.all false
set_option maxHeartbeats 4000000
set_option maxRecDepth 100000
namespace Go.Proofs.YtffboamedcmpaaaGreatDoor
open Gw
open Go.Am
def qf (c:bu):Bool:=decide (c.bY.length<=1000) && (decide (c.fO.length<=1000) && decide (c.ia.length<=5000))
def G7 (o:jF):List ae:=[.aa .i64 o.qN, .aa .i64 o.kU.dD, .ai o.kU.bY, .ai o.kU.fO, .ai o.kU.ia, .aa .i64 o.kU.cR, .aa .i64 o.GP, .ai o.BX]
def ajK (o:jF):ae:= .aK (G7 o)
def qe (l:List jF):List (List ae):=l.map G7
theorem Kr (l:List jF):(qe l).length=l.length:=List.length_map _
theorem Kq {l:List jF} {k:Nat} (h:k<l.length):(qe l)[k]? =some (G7 l[k]):=by
 grind [qe]
theorem ajJ {l:List bu} {k:Nat} (h:k<l.length):(l.map BC)[k]? =some (BC l[k]):=by
 simp_all
theorem ajL (nil:Bool) (l:List bu) (most:Nat) (hl:l.length<=1048576):aC Tryz.prog 42 [.ag nil 5 (l.map BC) .av, .aa .i64 most] (.aE (l.all qf && decide (l.length<=most))):=by
 have hel:(l.map BC).length=l.length:=List.length_map _;refine bK Tryz.func42 ?_
 conv=>whnf
 refine db.cK (λk:Nat=>[(.aj 0, .ah (.ag nil 5 (l.map BC) .av)),(.aj 1, .ah (.aa .i64 most)),(.aj 5, .ah (.aa .i64 k))]) 0
  (λk=>k<=l.length/\(l.take k).all qf=true) (λk=>l.length - k) dd 0 ⟨Nat.zero_le _,rfl⟩ ⟨rfl,rfl,rfl,rfl,rfl,rfl,trivial⟩ ?_
 rintro k ⟨hk,hall⟩;refine cn ?_;rw [hel];refine ⟨λh=>?_,λh=>?_⟩
 ·have h:=of_decide_eq_true h;have hlt:k<l.length:=om;have hg:=ajJ hlt;have hbad:qf l[k]=false->l.all qf=false:=λhs=>by
   grind
  have hstep:qf l[k]=true->(l.take (k+1)).all qf=true:=λhs=>by
   grind [List.take_succ_eq_append_getElem]
  generalize l[k]=c at*;refine ak ?_;refine ⟨λh=>?_,λh=>?_⟩
  ·have h:=of_decide_eq_true h;rw [hbad (by grind [qf])]
   conv=>whnf
   rw [Bool.false_and]
  ·have h:=of_decide_eq_false h;refine ak ?_;refine ⟨λh2=>?_,λh2=>?_⟩
   ·have h2:=of_decide_eq_true h2;rw [hbad (by unfold qf;grind)]
    conv=>whnf
    rw [Bool.false_and]
   ·have h2:=of_decide_eq_false h2;refine ak ?_;refine ⟨λh3=>?_,λh3=>?_⟩
    ·have h3:=of_decide_eq_true h3;rw [hbad (by unfold qf;grind)]
     conv=>whnf
     rw [Bool.false_and]
    ·have h3:=of_decide_eq_false h3
     conv=>whnf
     refine ⟨k+1,⟨om,hstep (by grind [qf])⟩,by grind,⟨rfl,rfl,rfl,rfl,?_,rfl,trivial⟩⟩;exact dh
 ·have h:=of_decide_eq_false h;obtain rfl:k=l.length:=om;rw [List.take_length] at hall;rw [hall,Bool.true_and]
  conv=>whnf
  simp_all
def qP (o:jF):Bool:=qf o.kU && decide (o.BX.length<=1000)
theorem O9 (nil:Bool) (l:List jF) (most:Nat) (hl:l.length<=9223372036854775807):aC Tryz.prog 20 [.ag nil 8 (qe l) .av, .aa .i64 most] (.aE (l.all qP && decide (l.length<=most))):=by
 have hel:=Kr l;refine bK Tryz.func20 ?_
 conv=>whnf
 refine db.cK (λk:Nat=>[(.aj 0, .ah (.ag nil 8 (qe l) .av)),(.aj 1, .ah (.aa .i64 most)),(.aj 5, .ah (.aa .i64 k))]) 0
  (λk=>k<=l.length/\(l.take k).all qP=true) (λk=>l.length - k) dd 0 ⟨Nat.zero_le _,rfl⟩ ⟨rfl,rfl,rfl,rfl,rfl,rfl,trivial⟩ ?_
 rintro k ⟨hk,hall⟩;refine cn ?_;rw [hel];refine ⟨λh=>?_,λh=>?_⟩
 ·have h:=of_decide_eq_true h;have hlt:k<l.length:=om;have hg:=Kq hlt;have hbad:qP l[k]=false->l.all qP=false:=λhs=>by
   grind
  have hstep:qP l[k]=true->(l.take (k+1)).all qP=true:=λhs=>by
   grind [List.take_succ_eq_append_getElem]
  generalize l[k]=o at*;have hF:=ajL false [o.kU] 1 (by simp);rw [show ([o.kU].all qf && decide ([o.kU].length<=1))=qf o.kU by simp] at hF;refine ak ?_;cases hs:qf o.kU with
  |false=>
   rw [hbad (by grind [qP])];refine ak ?_;rw [Bool.false_and]
  |true=>
   refine ak ?_;refine ⟨λh2=>?_,λh2=>?_⟩
   ·have h2:=of_decide_eq_true h2;rw [hbad (by grind [qP])]
    conv=>whnf
    rw [Bool.false_and]
   ·have h2:=of_decide_eq_false h2
    conv=>whnf
    refine ⟨k+1,⟨om,hstep (by grind [qP])⟩,by grind,⟨rfl,rfl,rfl,rfl,?_,rfl,trivial⟩⟩;exact dh
 ·have h:=of_decide_eq_false h;obtain rfl:k=l.length:=om;rw [List.take_length] at hall;rw [hall,Bool.true_and]
  conv=>whnf
  simp_all
def Ks (l:List jF):Bool:=l.all qP && decide (l.length<=80)
theorem ajM (nil:Bool) (l:List jF) (hl:l.length<=9223372036854775807):aC Tryz.prog 8 [.ag nil 8 (qe l) .av] (.aE (Ks l)):=by
 have hF:=O9 nil l 80 hl;refine cU Tryz.func8 ?_;exact bm
theorem Pa {T:Nat} (d:dF) (h:dZ T d) (o:jF) (hT:T<=99000) (hp:o.BX.length<=1000):aC Tryz.prog 16 [jM d,ajK o] (.aw [jM (sV d o).1, .aa .i64 (sV d o).2]):=by
 have hthr:=h.jU.gC.ma;have htm:=h.jU.p9;unfold sV
 by_cases h1:o.qN=1
 ·have hc:=Kp d o.kU om om;rw [if_pos h1];obtain ⟨kind,call,pick,picks⟩:=o;dsimp only at*;subst h1;generalize qd d call=y at*;obtain ⟨d',n,e⟩:=y;refine cU Tryz.func16 ?_;exact dC
 rw [if_neg h1]
 by_cases h2:o.qN=2
 ·have hc:=XU d h o.GP hT;rw [if_pos h2];obtain ⟨kind,call,pick,picks⟩:=o;dsimp only at*;subst h2;generalize Ah d pick=y at*;refine cU Tryz.func16 ?_;exact dC
 rw [if_neg h2]
 by_cases h3:o.qN=3
 ·have hc:=ajF d h;rw [if_pos h3];obtain ⟨kind,call,pick,picks⟩:=o;dsimp only at*;subst h3;generalize Ae d=y at*;obtain ⟨d',e⟩:=y;refine cU Tryz.func16 ?_;exact dC
 rw [if_neg h3]
 by_cases h4:o.qN=4
 ·have hc:=XT d h o.BX hp;rw [if_pos h4];obtain ⟨kind,call,pick,picks⟩:=o;dsimp only at*;subst h4;generalize yN d picks=y at*;obtain ⟨d',e⟩:=y;refine cU Tryz.func16 ?_;exact dC
 rw [if_neg h4];obtain ⟨kind,call,pick,picks⟩:=o;dsimp only at*;refine cU Tryz.func16 ?_
 conv=>whnf
 refine fu h1 ?_
 conv=>whnf
 refine fu h2 ?_
 conv=>whnf
 refine fu h3 ?_
 conv=>whnf
 refine fu h4 ?_;exact bm
theorem ajN (nil:Bool) (l:List jF) {T:Nat} (d:dF) (h:dZ T d) (ho:∀ o∈l,vI o) (hT:T+2*l.length<=99000):
  aC Tryz.prog 9 [jM d, .ag nil 8 (qe l) .av] (jM (Ac d l)):=by
 have hel:=Kr l;refine cU Tryz.func9 ?_
 conv=>whnf
 refine db.cK (X:=Nat×dF) (λy=>[(.aj 1, .ah (.ag nil 8 (qe l) .av)),(.aj 2, .ah (.ar 0 0)),(.aj 4, .ah (.ar 1 0)),(.aj 5, .ah (.aa .i64 y.1)),(.af 0, .au 49 (vP y.2)),(.af 1, .au 49 G6)]) 2
  (λy=>y.1<=l.length/\dZ (T+2*y.1) y.2/\Ac y.2 (l.drop y.1)=Ac d l) (λy=>l.length - y.1) dd (0,d) ⟨Nat.zero_le _,h,rfl⟩ ⟨rfl,rfl,rfl,rfl,rfl,rfl,rfl,rfl,rfl,rfl,rfl,rfl,trivial⟩ ?_
 rintro ⟨k,d'⟩ ⟨hk,hd,hall⟩;dsimp only at hk hd hall ⊢;refine cn ?_;rw [hel];refine ⟨λh=>?_,λh=>?_⟩
 ·have h:=of_decide_eq_true h;have hlt:k<l.length:=om;have hg:=Kq hlt;have hdr:=List.drop_eq_getElem_cons hlt;have hoo:=ho l[k] (List.getElem_mem hlt);rw [hdr] at hall;generalize l[k]=o at*;have hD:=Pa d' hd o om hoo.OA;have hok:=GR hd hoo;have hall:Ac (sV d' o).1 (l.drop (k+1))=Ac d l:=hall;generalize sV d' o=z at*;obtain ⟨e1,e2⟩:=z
  conv=>whnf
  refine ⟨_,⟨om,hg⟩,?_⟩
  conv=>whnf
  refine ⟨_,rfl,hD,?_⟩
  conv=>whnf
  refine ⟨aG,?_⟩
  conv=>whnf
  refine ⟨(k+1,e1),⟨by show k+1<=l.length;omega,hok.nP om,hall⟩,by show l.length - (k+1)<l.length - k;omega,⟨rfl,rfl,rfl,rfl,rfl,rfl,?_,rfl,rfl,rfl,rfl,rfl,trivial⟩⟩;show bs.ah (ae.aa .i64 (IntKind.i64.wrap ((k:Int)+1)))=_;rw [bj om om];rfl
 ·have h:=of_decide_eq_false h;obtain rfl:k=l.length:=om;rw [List.drop_length] at hall;have hall:d'=Ac d l:=hall;rw [<-hall];exact bm
end Go.Proofs.YtffboamedcmpaaaGreatDoor
namespace Gw
theorem XV {l:List aI} (hc:fH l=true) (hg:∀ n∈l,qE n):(eL l 0).length<=l.length:=by
 have h2:((eL l 0).map (·.eM)).Nodup:=by
  rw [List.nodup_iff_pairwise_ne,List.pairwise_map,List.pairwise_iff_getElem];exact λi j hi hj hij=>(WA hc hg hj hij).2
 have:=uW (m:=l.map (·.bc)) h2 λq hq=>by
  obtain ⟨it,h1,rfl⟩:=List.mem_map.1 hq;obtain ⟨i,hi,rfl⟩:=List.getElem_of_mem h1;obtain ⟨n,A,hr⟩:=Wz hc hg hi;have hf:=hr.Wx;unfold iD at hf;split at hf
  ·cases hf
  ·rename_i m hm;split at hf
   ·rename_i hid;exact List.mem_map.2 ⟨m,List.mem_of_getElem? hm,hid⟩
   ·cases hf
 rwa [List.length_map,List.length_map] at this
end Gw
namespace Go.Proofs.YtffboamedcmpaaaGreatDoor
open Gw
open Go.Am
theorem ajP {l:List jF} (h:Ks l=true):l.length<=80/\∀ o∈l,vI o:=by
 unfold Ks at h;simp only [Bool.and_eq_true,decide_eq_true_eq] at h;refine ⟨h.2,λo ho=>?_⟩;have:=List.all_eq_true.1 h.1 o ho;unfold qP qf at this;simp only [Bool.and_eq_true,decide_eq_true_eq] at this;exact ⟨this.1.1,this.1.2.1,this.1.2.2,this.2⟩
theorem ajO {z:Int} (h:fk z=true):dX z:=by
 unfold fk jR at h;simp only [Bool.or_eq_true,Bool.and_eq_true,decide_eq_true_eq] at h;unfold dX;omega
theorem ajR {T:Nat} (d:dF) (h:dZ T d):aC Tryz.prog 10 [jM d] (.ag (decide (eL d.bL.br.aA.aQ.ab 0=[])) 3 (iN (eL d.bL.br.aA.aQ.ab 0)) .av):=by
 have hn:=vL h.jU.jb.ja;have hf:=hn.vK;have hit:=DJ d.bL.br.aA.aQ.bZ d.bL.br.aA.aQ.ab 0 hn.rO om hn.B5;refine cU Tryz.func10 ?_;exact bm
theorem ajQ (haw:aC Tryz.prog 6 [] (.aE true)) (z:Int) (hz:0<=z/\z<=255) (nil:Bool) (l:List jF) (hl:l.length<=9223372036854775807):aC Tryz.prog 3 [.aa .u8 z, .ag nil 8 (qe l) .av] (.aE true):=by
 have hF:=ajM nil l hl;have hN:=Ko 1 z;have hno:= @J5 1 z om;have wz:IntKind.i64.wrap z=z:=bj om om;generalize qc 1 z=y at*;obtain ⟨d,e⟩:=y;dsimp only at*;refine cU Tryz.func3 ?_;refine ak ?_;rw [wz];refine ak ?_;cases hfew:Ks l with
 |false=>
  exact bm
 |true=>
  refine ak ?_;obtain ⟨hll,hlo⟩:=ajP hfew;refine ⟨λhe=>?_,λhe=>?_⟩
  ·exact bm
  ·have he:e=0:=by simpa using he
   have hd:=hno he;have hA:=ajN nil l d hd hlo om;have ha:=Wk l hd hlo
   conv=>whnf
   generalize Ac d l=D at*;have hI:=ajR D ha;have hg:=ha.jU.jb.ja.Wu;have hck:=ha.jU.jb.ja.xc.Nx;have hn:=vL ha.jU.jb.ja;have hfn:=hn.vK;have hcnt:=XV hck hg;obtain ⟨I,hIs⟩:∃ I,eL D.bL.br.aA.aQ.ab 0=I:=⟨_,rfl⟩;have hrow:∀ (i:Nat) (h:i<I.length),∃ n A,Wv D.bL.br.aA.aQ.ab I[i] n A:=by
    subst hIs;exact λi h=>Wz hck hg h
   have hapart:∀ (i k:Nat) (h1:i<I.length) (h2:k<i),(I[k]'om).dx≠I[i].dx/\(I[k]'om).eM≠I[i].eM:=by
    subst hIs;exact λi k h1 h2=>WA hck hg h1 h2
   rw [hIs] at hI hcnt;have hAb:=λid=>Gc D.bL.br.aA.aQ.bZ D.bL.br.aA.aQ.ab id hn.rO om
   have hFi:=λid=>W7 D.bL.br.aA.aQ.bZ D.bL.br.aA.aQ.ab id hn.rO om
   refine ak ?_;have hel:=DH I;refine db.cK (X:=Nat) (λi=>[(.aj 5, .ah (.aE true)),(.aj 6, .ah (.ar 7 0)),(.aj 8, .ah (.ag (decide (I=[])) 3 (iN I) .av)),(.aj 9, .ah (.aa .i64 i)),(.af 7, .au 49 (vP D))]) 8
    (λi=>i<=I.length) (λi=>I.length - i) dd 0 (Nat.zero_le _) ⟨rfl,rfl,rfl,rfl,rfl,rfl,rfl,rfl,rfl,rfl,trivial⟩ ?_
   intro i hi;refine cn ?_;rw [hel];refine ⟨λh=>?_,λh=>?_⟩
   ·have h:=of_decide_eq_true h;have hlt:i<I.length:=om;have hgi:=zL hlt;obtain ⟨n,A,hr⟩:=hrow i hlt;have hap:∀ (k:Nat) (hk:k<i),(I[k]'om).dx≠I[i].dx/\(I[k]'om).eM≠I[i].eM:=λk hk=>hapart i k hlt hk
    have hAb:=hAb I[i].eM;have hFi:=hFi I[i].eM;rw [if_pos hck,hr.Wx] at hFi;have hFi:aC Tryz.prog 12 [.ag D.bL.br.aA.aQ.bZ 8 (cT D.bL.br.aA.aQ.ab) .av, .aa .i64 I[i].eM] (.aw [.aK (iF n), .aE true]):=hFi;have hL:jS D.bL.br.aA.aQ.ab I[i].eM=A++[0]:=hr.ag3;rw [hL] at hAb;have hpar:=hr.ag6;have hdir:=tS n.gh (ajO hr.Ww);rw [hr.Ww] at hdir;have hown:=hr.ag5;have hno:=hr.ag4;have hL0:=hL;clear hr hL;generalize I[i]=it at*;obtain ⟨L,hLe⟩:∃ L,A++[0]=L:=⟨_,rfl⟩;have hLl:L.length=A.length+1:=by rw [<-hLe,List.length_append];rfl
    have hLn:L≠[]:=by rw [<-hLe];simp
    rw [hLe] at hpar hAb;rw [decide_eq_false hLn] at hAb;refine ak ?_;have hzl:=Ji L;have hAf:A.length<1000000:=by
     have:=FX D.bL.br.aA.aQ.ab D.bL.br.aA.aQ.ab.length it.eM;have hq:kq D.bL.br.aA.aQ.ab D.bL.br.aA.aQ.ab.length it.eM=L:=by
      rw [<-hLe,<-hL0];unfold jS;rw [if_pos hck]
     rw [hq] at this;omega
    have wl:IntKind.i64.wrap (((ix L).length:Int) - 1)=(A.length:Int):=by rw [hzl,bj om om];omega
    have hlast:(ix L)[(IntKind.i64.wrap (((ix L).length:Int) - 1)).toNat]? =some [.aa .i64 0]:=by
     rw [wl,Int.toNat_natCast,Gb om];subst hLe;rw [List.getElem_append_right (Nat.le_refl _)];simp
    have hfst:(ix L)[(0:Int).toNat]? =some [.aa .i64 n.gh]:=by
     rw [show (0:Int).toNat=0 from rfl,Gb om];rw [List.head?_eq_getElem?,List.getElem?_eq_getElem om] at hpar;rw [Option.some.inj hpar]
    refine fu om ?_
    conv=>whnf
    refine ⟨_,⟨by rw [wl];omega,hlast⟩,?_⟩;refine iV ?_;refine ⟨_,⟨dd,hfst⟩,?_⟩
    conv=>whnf
    refine ⟨λq=>absurd q (by simp),λ_=>?_⟩;refine ak ?_;have nobad:∀ (j:Nat) (hj:j<L.length),L[j]≠it.eM/\(j+1<L.length->L[j]≠0):=λj hj=>by
     subst hLe
     by_cases hjA:j<A.length
     ·rw [List.getElem_append_left hjA];exact ⟨(hno _ (List.getElem_mem hjA)).1,λ_=>(hno _ (List.getElem_mem hjA)).2⟩
     ·rw [List.getElem_append_right om];exact ⟨λq=>hown (by rw [<-q];simp),λq=>absurd q om⟩
    refine db.cK (X:=Nat) (λj=>[(.aj 5, .ah (.aE true)),(.aj 6, .ah (.ar 7 0)),(.aj 8, .ah (.ag (decide (I=[])) 3 (iN I) .av)),(.aj 9, .ah (.aa .i64 i)),(.aj 10, .ah (.ag false 1 (ix L) .av)),(.aj 13, .ah (.aa .i64 j)),(.af 7, .au 49 (vP D))]) 8
     (λj=>j<=L.length) (λj=>L.length - j) dd 0 (Nat.zero_le _) ⟨rfl,rfl,rfl,rfl,rfl,rfl,rfl,rfl,rfl,rfl,rfl,rfl,rfl,rfl,trivial⟩ ?_
    intro j hj;refine cn ?_;rw [hzl];refine ⟨λh=>?_,λh=>?_⟩
    ·have h:=of_decide_eq_true h;have hjl:j<L.length:=om;have hgj:=Gb hjl;have hbad:=nobad j hjl;generalize L[j]=a at*;refine ak ?_;have wj:IntKind.i64.wrap ((j:Int)+1)=((j+1:Nat):Int):=by rw [bj om om];rfl
     refine fu hbad.1 ?_
     conv=>whnf
     refine ⟨λq=>?_,λq=>?_⟩
     ·have q:=of_decide_eq_true q;rw [wj] at q;refine ak ?_;refine fu (hbad.2 om) ?_
      conv=>whnf
      refine ⟨j+1,om,by show L.length - (j+1)<L.length - j;omega,⟨rfl,rfl,rfl,rfl,rfl,rfl,rfl,rfl,rfl,rfl,?_,rfl,rfl,rfl,trivial⟩⟩;exact congrArg (λv=>bs.ah (.aa .i64 v)) wj
     ·conv=>whnf
      refine ⟨aG,?_⟩;refine iV ?_;refine ⟨j+1,om,by show L.length - (j+1)<L.length - j;omega,⟨rfl,rfl,rfl,rfl,rfl,rfl,rfl,rfl,rfl,rfl,?_,rfl,rfl,rfl,trivial⟩⟩;exact congrArg (λv=>bs.ah (.aa .i64 v)) wj
    ·conv=>whnf
     refine db.cK (X:=Nat) (λj=>[(.aj 5, .ah (.aE true)),(.aj 6, .ah (.ar 7 0)),(.aj 8, .ah (.ag (decide (I=[])) 3 (iN I) .av)),(.aj 9, .ah (.aa .i64 i)),(.aj 14, .ah (.aa .i64 j)),(.af 7, .au 49 (vP D))]) 8
      (λj=>j<=i) (λj=>i - j) dd 0 (Nat.zero_le _) ⟨rfl,rfl,rfl,rfl,rfl,rfl,rfl,rfl,rfl,rfl,rfl,rfl,trivial⟩ ?_
     intro j hj;refine cn ?_;refine ⟨λh=>?_,λh=>?_⟩
     ·have h:=of_decide_eq_true h;have hji:j<i:=om;have hgj:=zL (show j<I.length by omega);have hbad:=hap j hji;have wj:IntKind.i64.wrap ((j:Int)+1)=((j+1:Nat):Int):=by rw [bj om om];rfl
      generalize I[j]=jt at*;refine ak ?_;refine fu hbad.1 ?_;refine ak ?_;refine fu hbad.2 ?_
      conv=>whnf
      refine ⟨j+1,om,by show i - (j+1)<i - j;omega,⟨rfl,rfl,rfl,rfl,rfl,rfl,rfl,rfl,?_,rfl,rfl,rfl,trivial⟩⟩;exact congrArg (λv=>bs.ah (.aa .i64 v)) wj
     ·conv=>whnf
      refine ⟨i+1,om,by show I.length - (i+1)<I.length - i;omega,⟨rfl,rfl,rfl,rfl,rfl,rfl,?_,rfl,rfl,rfl,trivial⟩⟩;exact congrArg (λv=>bs.ah (.aa .i64 v)) (show IntKind.i64.wrap ((i:Int)+1)=((i+1:Nat):Int) by rw [bj om om];rfl)
   ·exact bm
theorem XW {T:Nat} (d:dF) (h:dZ T d) (p:Int) (hp:0<=p/\p<=1000000) (hT:T+2*(45*d.bL.aq.ab.length*d.bL.aq.ab.length)<=99000):
  aC Tryz.prog 14 [jM d, .aa .i64 p] (jM (BY d p)):=by
 have hthr:=h.jU.gC.ma;have hcl:(d.bL.aq.ab.map cr).length=d.bL.aq.ab.length:=List.length_map _;unfold BY;generalize hn:d.bL.aq.ab.length=n at*;have hnn:45*n*n<=72000:=by
  omega
 have w1:IntKind.i64.wrap (45*(n:Int))=45*(n:Int):=bj om om;have w2:IntKind.i64.wrap (45*(n:Int)*(n:Int))=((45*n*n:Nat):Int):=by
  grind [bj]
 generalize hK:45*n*n=K at*;refine cU Tryz.func14 ?_
 conv=>whnf
 refine db.cK (X:=Nat×dF) (λy=>[(.aj 1, .ah (.aa .i64 p)),(.aj 2, .ah (.ar 0 0)),(.aj 4, .ah (.ar 1 0)),(.aj 5, .ah (.aa .i64 n)),(.aj 6, .ah (.aa .i64 y.1)),(.af 0, .au 49 (vP y.2)),(.af 1, .au 49 G6)]) 2
  (λy=>y.1<=K/\dZ (T+2*y.1) y.2/\yQ p (K - y.1) y.1 y.2=yQ p K 0 d) (λy=>K - y.1) dd (0,d) ⟨Nat.zero_le _,h,rfl⟩ ⟨rfl,rfl,rfl,rfl,rfl,rfl,?_,rfl,rfl,rfl,rfl,rfl,rfl,rfl,trivial⟩ ?_
 ·show bs.ah (ae.aa .i64 ((d.bL.aq.ab.map cr).length:Nat))=_;rw [hcl]
 rintro ⟨k,D⟩ ⟨hk,hd,hq⟩;dsimp only at hk hd hq ⊢;have hD:=Xz D.bL (by have:=hd.jU.gC.ma;omega);refine cn ?_;rw [w1,w2];refine ⟨λq=>?_,λq=>?_⟩
 ·have q:=of_decide_eq_true q;have hlt:k<K:=om;obtain ⟨f,hf⟩:∃ f,K - k=f+1:=⟨K - k - 1,om⟩;rw [hf,yQ] at hq;have hf2:K - (k+1)=f:=om;have hS:=XU D hd (p+((k % 7:Nat):Int)) om;have hok:=OB hd (p+((k % 7:Nat):Int));have w3:IntKind.i64.wrap (p+((k % 7:Nat):Int))=p+((k % 7:Nat):Int):=bj om om;refine ak ?_;cases hdn:BG D.bL with
  |true=>
   rw [if_pos hdn] at hq;rw [<-hq];exact bm
  |false=>
   rw [if_neg (by rw [hdn];decide)] at hq;refine ak ?_;rw [show (k:Int).tmod 7=((k % 7:Nat):Int) from rfl,w3];refine bz.eV hS rfl ?_
   conv=>whnf
   refine ⟨(k+1,_),⟨om,hok.nP om,by show yQ p (K - (k+1)) (k+1) _=_;rw [hf2];exact hq⟩,by simp_all,⟨rfl,rfl,rfl,rfl,rfl,rfl,rfl,rfl,?_,rfl,rfl,rfl,rfl,rfl,trivial⟩⟩;exact dh
 ·have q:=of_decide_eq_false q;obtain rfl:k=K:=om;rw [Nat.sub_self] at hq;have hq:D=yQ p k 0 d:=hq;rw [<-hq];exact bm
structure yW where
 XX:Int
 ajS:Int
 sY:Int
 ajT:Int
 G8:bu
 Ca:l7
def mH (p:yW):List ae:=[.aa .i64 p.XX, .aa .i64 p.ajS, .aa .i64 p.sY, .aa .i64 p.ajT, .aa .i64 p.G8.dD, .ai p.G8.bY, .ai p.G8.fO, .ai p.G8.ia, .aa .i64 p.G8.cR,
 .aa .i64 p.Ca.vk, .ai p.Ca.DN,cv 1 jv p.Ca.kB, .aa .i64 p.Ca.qF,cv 2 fD p.Ca.mD]
def Kt (p:yW):ae:= .aK (mH p)
theorem ajV (a b:Int):aC Tryz.prog 54 [.aa .i64 a, .aa .i64 b] (.aa .i64 (if a<b then -1 else if b<a then 1 else 0)):=by
 have hn:∀ z:Int,aC Tryz.prog 110 [.aa .i64 z] (.aE false):=λz=>by
  refine bK Tryz.func110 ?_
  conv=>whnf
  simp
 have h1:=hn a;have h2:=hn b;refine bK Tryz.func54 ?_;refine ak ?_;refine ⟨λh=>?_,λh=>?_⟩
 ·conv=>whnf
  simp_all
 ·have h:=of_decide_eq_false h
  conv=>whnf
  refine ⟨λg=>?_,λg=>?_⟩
  ·conv=>whnf
   simp_all
  ·conv=>whnf
   grind
theorem ajW (p q:yW):aC Tryz.prog 53 [Kt p,Kt q] (.aa .i64 (if p.sY<q.sY then -1 else if q.sY<p.sY then 1 else 0)):=by
 have hc:=ajV p.sY q.sY;generalize (if p.sY<q.sY then (-1:Int) else if q.sY<p.sY then 1 else 0)=z at*;refine cU Tryz.func53 ?_;exact bm
theorem ajU (a:l7) (h1:a.kB.ab.length<=1048576) (h2:a.mD.ab.length<=1048576):aC Tryz.prog 51 [JD a] (JD a):=by
 have hS:=JH a.kB.bZ (a.kB.ab.map jv) OU (by simp_all);have hE:=NM a.mD.bZ (a.mD.ab.map fD) OU (by simp_all);refine cU Tryz.func51 ?_;exact bm
def Pb (E:List yW):Prop:=∀ (k:Nat) (h:k+1<E.length),¬(E[k+1].sY<E[k].sY)
theorem XY {E:List yW} {k:Nat} (h:k<E.length):(E.map mH)[k]? =some (mH E[k]):=by
 simp_all
theorem ajY (nil:Bool) (E:List yW) (hE:Pb E) (h0:0<E.length) (hl:E.length<=1000):
  aC Tryz.prog 180 [.ag nil 14 (E.map mH) .av, .aa .i64 0, .aa .i64 E.length, .aP 53 [] []] (.aw []):=by
 refine bK Tryz.func180 ?_
 conv=>whnf
 refine db.cK (λk:Nat=>[(.aj 0, .ah (.ag nil 14 (E.map mH) .av)),(.aj 1, .ah (.aa .i64 0)),(.aj 2, .ah (.aa .i64 E.length)),(.aj 3, .ah (.aP 53 [] [])),(.aj 8, .ah (.aa .i64 (k+1:Nat)))]) 0
  (λk=>k<E.length) (λk=>E.length - k) dd 0 h0 ⟨rfl,rfl,rfl,rfl,rfl,rfl,rfl,rfl,rfl,rfl,trivial⟩ ?_
 intro k hk;refine cn ?_;refine ⟨λh=>?_,λh=>?_⟩
 ·have h:=of_decide_eq_true h;have hlt:k+1<E.length:=om;have hg1:=XY hlt;have hg0:=XY hk;have hc:=ajW E[k+1] E[k];have hle:=hE k hlt;rw [if_neg hle] at hc;obtain ⟨zz,hz,hc⟩:∃ zz:Int,0<=zz/\aC Tryz.prog 53 [Kt E[k+1],Kt E[k]] (.aa .i64 zz):=⟨_,by split<;>decide,hc⟩;have w2:IntKind.i64.wrap (((k+1:Nat):Int)+1)=((k+1+1:Nat):Int):=by grind [bj]
  have w1:IntKind.i64.wrap (((k+1:Nat):Int) - 1)=(k:Int):=by grind [bj]
  conv=>whnf
  refine db.cK (X:=Unit) (λ_=>[(.aj 0, .ah (.ag nil 14 (E.map mH) .av)),(.aj 1, .ah (.aa .i64 0)),(.aj 2, .ah (.aa .i64 E.length)),(.aj 3, .ah (.aP 53 [] [])),(.aj 8, .ah (.aa .i64 (k+1:Nat))),(.aj 9, .ah (.aa .i64 (k+1:Nat)))]) 0
   (λ_=>True) (λ_=>0) dd () trivial ⟨rfl,rfl,rfl,rfl,rfl,rfl,rfl,rfl,rfl,rfl,rfl,rfl,trivial⟩ ?_
  intro _ _;refine cn ?_;refine C8 om ?_;refine ak ?_;refine ⟨_,⟨by rw [w1];omega,(by rw [w1,Int.toNat_natCast];exact hg0)⟩,?_⟩;generalize E[k+1]=a at*;generalize E[k]=b at*;refine ak ?_;refine fu om ?_
  conv=>whnf
  refine ⟨k+1,hlt,by grind,⟨rfl,rfl,rfl,rfl,rfl,rfl,rfl,rfl,?_,rfl,trivial⟩⟩;exact congrArg (λv=>bs.ah (.aa .i64 v)) w2
 ·conv=>whnf
theorem ajZ (nil:Bool) (E:List yW) (hE:Pb E) (h0:0<E.length) (hl:E.length<=19):
  aC Tryz.prog 52 [.ag nil 14 (E.map mH) .av, .aP 53 [] []] (.aw []):=by
 have hi:=ajY nil E hE h0 om;have hel:(E.map mH).length=E.length:=List.length_map _;have hs:aC Tryz.prog 109 [.ag nil 14 (E.map mH) .av, .aa .i64 E.length, .aP 53 [] []] (.aw []):=by
  refine bK Tryz.func109 ?_
  conv=>whnf
  refine db.cK (X:=Unit) (λ_=>[(.aj 0, .ah (.ag nil 14 (E.map mH) .av)),(.aj 1, .ah (.aa .i64 E.length)),(.aj 2, .ah (.aP 53 [] [])),(.aj 6, .ah (.aa .i64 20)),(.aj 7, .ah (.aa .i64 0)),(.aj 8, .ah (.aa .i64 20))]) 0
   (λ_=>True) (λ_=>0) dd () trivial ⟨rfl,rfl,rfl,rfl,rfl,rfl,rfl,rfl,rfl,rfl,rfl,rfl,trivial⟩ ?_
  intro _ _;refine cn ?_;refine fu om ?_;refine ak ?_;refine db.cK (X:=Unit) (λ_=>[(.aj 1, .ah (.aa .i64 E.length)),(.aj 6, .ah (.aa .i64 20))]) 0
   (λ_=>True) (λ_=>0) dd () trivial ⟨rfl,rfl,rfl,rfl,trivial⟩ ?_
  intro _ _;refine cn ?_;refine fu om ?_
  conv=>whnf
 refine cU Tryz.func52 ?_
 conv=>whnf
 rw [hel];exact bm
def pB (i:Nat) (t:cd):yW:=⟨i,t.Jy,t.lh,if t.kf=true then t.pW else 0,t.dN,t.dT⟩
theorem ajX (x:aV) (hd:∀ t∈x.aq.ab,t.tZ=true) (hE:Pb (x.aq.ab.mapIdx pB)) (h0:0<x.aq.ab.length) (hl:x.aq.ab.length<=19)
  (ha:∀ t∈x.aq.ab,t.dT.kB.ab.length<=1048576/\t.dT.mD.ab.length<=1048576):
  aC Tryz.prog 26 [lM x] (.ag false 14 ((x.aq.ab.mapIdx pB).map mH) .av):=by
 have hcl:(x.aq.ab.map cr).length=x.aq.ab.length:=List.length_map _;refine cU Tryz.func26 ?_
 conv=>whnf
 refine db.zd 3 98 14 rfl rfl (.inr rfl) ?_;have hpl:∀ k,k<=x.aq.ab.length->(((x.aq.ab.take k).mapIdx pB).map mH).length=k:=λk hk=>by
  simp_all
 refine db.cK (X:=Nat) (λk=>[(.aj 1, .ah (.ar 0 0)),(.aj 3, .ah (.ag (decide (k=0)) 14 (((x.aq.ab.take k).mapIdx pB).map mH) (.dB 7))),(.aJ 7, .aN 98 14 k),(.aj 9, .ah (.aa .i64 x.aq.ab.length)),(.aj 10, .ah (.aa .i64 k)),(.af 0, .au 41 (DW x))]) 8
  (λk=>k<=x.aq.ab.length) (λk=>x.aq.ab.length - k) dd 0 (Nat.zero_le _) ⟨rfl,rfl,rfl,rfl,rfl,rfl,?_,rfl,rfl,rfl,rfl,rfl,trivial⟩ ?_
 ·show bs.ah (ae.aa .i64 ((x.aq.ab.map cr).length:Nat))=_;rw [hcl]
 intro k hk;have hal:=hpl k hk;refine cn ?_;refine ⟨λh=>?_,λh=>?_⟩
 ·have h:=of_decide_eq_true h;have hlt:k<x.aq.ab.length:=om;have hg:(x.aq.ab.map cr)[k]? =some (cr x.aq.ab[k]):=by simp_all
  have hdn:=hd _ (List.getElem_mem hlt);have hans:=ha _ (List.getElem_mem hlt);have hA:=ajU x.aq.ab[k].dT hans.1 hans.2;have hnx:((x.aq.ab.take (k+1)).mapIdx pB).map mH=((x.aq.ab.take k).mapIdx pB).map mH++[mH (pB k x.aq.ab[k])]:=by
   grind [List.take_succ_eq_append_getElem]
  have w1:IntKind.i64.wrap ((k:Int)+1)=((k+1:Nat):Int):=by grind [bj]
  generalize x.aq.ab[k]=t at*;refine ak ?_;refine ⟨λq=>absurd q (by rw [hdn];decide),λ_=>?_⟩
  conv=>whnf
  refine ⟨λhe=>?_,λhe=>?_⟩
  ·refine ak ?_;refine ⟨⟨hal.symm,dG (by grind) dd⟩,?_⟩
   conv=>whnf
   refine ⟨aG,?_⟩
   conv=>whnf
   refine ⟨k+1,hlt,by grind,⟨rfl,rfl,?_,rfl,?_,rfl,rfl,rfl,?_,rfl,rfl,rfl,trivial⟩⟩
   ·show bs.ah (ae.ag (decide (k=0) && false) 14 _ _)=bs.ah (ae.ag (decide (k+1=0)) 14 _ _);have hpa:pB k t=⟨k,t.Jy,t.lh,0,t.dN,t.dT⟩:=by grind [pB]
    rw [Bool.and_false,decide_eq_false (p:=k+1=0) om,hnx,hpa];rfl
   ·show bs.aN _ 14 ((((x.aq.ab.take k).mapIdx pB).map mH).length+1)=bs.aN _ 14 (k+1);rw [hal]
   ·exact congrArg (λv=>bs.ah (.aa .i64 v)) w1
  ·refine ak ?_;refine ⟨⟨hal.symm,dG (by grind) dd⟩,?_⟩
   conv=>whnf
   refine ⟨aG,?_⟩
   conv=>whnf
   refine ⟨k+1,hlt,by grind,⟨rfl,rfl,?_,rfl,?_,rfl,rfl,rfl,?_,rfl,rfl,rfl,trivial⟩⟩
   ·show bs.ah (ae.ag (decide (k=0) && false) 14 _ _)=bs.ah (ae.ag (decide (k+1=0)) 14 _ _);have hpa:pB k t=⟨k,t.Jy,t.lh,t.pW,t.dN,t.dT⟩:=by grind [pB]
    rw [Bool.and_false,decide_eq_false (p:=k+1=0) om,hnx,hpa];rfl
   ·show bs.aN _ 14 ((((x.aq.ab.take k).mapIdx pB).map mH).length+1)=bs.aN _ 14 (k+1);rw [hal]
   ·exact congrArg (λv=>bs.ah (.aa .i64 v)) w1
 ·have h:=of_decide_eq_false h;obtain rfl:k=x.aq.ab.length:=om;rw [List.take_length];have hS:=ajZ false (x.aq.ab.mapIdx pB) hE (by simp_all) (by simp_all);rw [decide_eq_false om];exact bm
end Go.Proofs.YtffboamedcmpaaaGreatDoor
namespace Gw
theorem X0 (p:Int):∀ (f:Nat) (i:Nat) {T:Nat} {d:dF},dZ T d->dZ (T+2*f) (yQ p f i d)
 |0,_,_,_,h=>h
 |f+1,i,T,d,h=>by
  rw [yQ];split
  ·exact h.nP om
  ·exact (X0 p f (i+1) (OB h _)).nP om
theorem X1 {T:Nat} {d:dF} (h:dZ T d) (p:Int):dZ (T+2*(45*d.bL.aq.ab.length*d.bL.aq.ab.length)) (BY d p):=X0 p _ 0 h
def G9:=qc 1 60
def Ha:=qd G9.1 ⟨2,[47,97],[],[],0⟩
def Hb:=qd Ha.1 ⟨7,[47],[],[],0⟩
def Ku:=BY Hb.1 0
def Hc:=qd Ku ⟨12,[],[],[],0⟩
def uA:=BY Hc.1 0
def He:=yN uA []
theorem Hf:G9.2=0/\Ha.2.2=0/\Hb.1.bL.aq.ab.length=2/\Hc.1.bL.aq.ab.length=3/\uA.bL.aq.ab.length=3/\
  (uA.bL.aq.ab.all λt=>t.tZ && (decide (t.dT.kB.ab.length<=1000) && decide (t.dT.mD.ab.length<=1000)))=true/\
  ((uA.bL.aq.ab.map (·.lh))[0]?.getD 0<=(uA.bL.aq.ab.map (·.lh))[1]?.getD 0)/\((uA.bL.aq.ab.map (·.lh))[1]?.getD 0<=(uA.bL.aq.ab.map (·.lh))[2]?.getD 0)/\
  (uA.bL.aq.ab.map λt=>t.dT.kB.ab.length)[1]? =some 1/\BG uA.bL=true/\He.2=0/\(eL He.1.bL.br.aA.aQ.ab 0).map (·.dx)=[[47,97]]:=by decide+kernel
theorem Pc:dZ 0 G9.1:=J5 dd Hf.1
theorem Pd:dZ 1 Ha.1:=J6 Pc ⟨2,[47,97],[],[],0⟩ dd dd dd
theorem Pe:dZ 2 Hb.1:=J6 Pd ⟨7,[47],[],[],0⟩ dd dd dd
theorem Pf:dZ 362 Ku:=by
 have:=X1 Pe 0;rw [Hf.2.2.1] at this;exact this
theorem Pg:dZ 363 Hc.1:=J6 Pf ⟨12,[],[],[],0⟩ dd dd dd
theorem Ph:dZ 1173 uA:=by
 have:=X1 Pg 0;rw [Hf.2.2.2.1] at this;exact this
theorem XZ:dZ 1173 He.1:=Wm Ph []
end Gw
namespace Go.Proofs.YtffboamedcmpaaaGreatDoor
open Gw
open Go.Am
theorem aj1 (x0 x1 x2 x3 x4 x5 x6:dF) (n1 n2 e2 n4 e4:Int) (p0 p1 p2:yW) (it:dH) (hw:p1.XX=1) (hn:p1.Ca.kB.ab.length=1) (hp:it.dx=[47,97])
  (hN:aC Tryz.prog 7 [.aa .i64 1, .aa .i64 60] (.aw [jM x0, .aa .i64 0]))
  (hS1:aC Tryz.prog 15 [jM x0,tX ⟨2,[47,97],[],[],0⟩] (.aw [jM x1, .aa .i64 n1, .aa .i64 0]))
  (hS2:aC Tryz.prog 15 [jM x1,tX ⟨7,[47],[],[],0⟩] (.aw [jM x2, .aa .i64 n2, .aa .i64 e2]))
  (hQ3:aC Tryz.prog 14 [jM x2, .aa .i64 0] (jM x3))
  (hS4:aC Tryz.prog 15 [jM x3,tX ⟨12,[],[],[],0⟩] (.aw [jM x4, .aa .i64 n4, .aa .i64 e4]))
  (hQ5:aC Tryz.prog 14 [jM x4, .aa .i64 0] (jM x5))
  (hC:aC Tryz.prog 25 [jM x5, .ai []] (.aw [jM x6, .aa .i64 0]))
  (hH:aC Tryz.prog 26 [lM x5.bL] (.ag false 14 [mH p0,mH p1,mH p2] .av))
  (hI:aC Tryz.prog 23 [.ag x6.bL.br.aA.aQ.bZ 8 (cT x6.bL.br.aA.aQ.ab) .av, .aa .i64 0] (.ag false 3 [Gj it] .av))
  (hD:aC Tryz.prog 27 [lM x5.bL] (.aE true)):aC Tryz.prog 6 [] (.aE true):=by
 have hnl:(p1.Ca.kB.ab.map jv).length=1:=by simp_all
 refine cU Tryz.func6 ?_;refine cC ?_;refine ⟨_,⟨dd,rfl⟩,?_⟩
 conv=>whnf
 refine ⟨λ_=>?_,λq=>absurd (of_decide_eq_false q) (by rw [hnl];decide)⟩
 conv=>whnf
 refine ⟨_,⟨dd,rfl⟩,?_⟩
 conv=>whnf
 refine ⟨λ_=>?_,λq=>absurd (of_decide_eq_false q) (by rw [hw];decide)⟩
 conv=>whnf
 refine ⟨_,⟨dd,rfl⟩,?_⟩
 conv=>whnf
 refine ⟨λ_=>?_,λq=>absurd (of_decide_eq_false q) (by rw [hp];decide)⟩;exact bm
theorem aj2 {α β:Type} {f:α->β} {l:List α} {b:β} (h:l.map f=[b]):∃ a,l=[a]/\f a=b:=by
 simp_all
theorem aj3 {α:Type} {l:List α} (h:l.length=3):∃ a b c,l=[a,b,c]:=by
 match l,h with
 |[a,b,c],_=>simp_all
theorem aj0 (x0:dF×Int) (x1 x2 x4:dF×Int×Int) (x3 x5:dF) (x6:dF×Int)
  (e0:qc 1 60=x0) (e1:qd x0.1 ⟨2,[47,97],[],[],0⟩=x1) (e2:qd x1.1 ⟨7,[47],[],[],0⟩=x2) (e3:BY x2.1 0=x3)
  (e4:qd x3 ⟨12,[],[],[],0⟩=x4) (e5:BY x4.1 0=x5) (e6:yN x5 []=x6)
  (k0:dZ 0 x0.1) (k1:dZ 1 x1.1) (k2:dZ 2 x2.1) (k3:dZ 362 x3) (k4:dZ 363 x4.1) (k5:dZ 1173 x5) (k6:dZ 1173 x6.1)
  (hf:x0.2=0/\x1.2.2=0/\x2.1.bL.aq.ab.length=2/\x4.1.bL.aq.ab.length=3/\x5.bL.aq.ab.length=3/\
  (x5.bL.aq.ab.all λt=>t.tZ && (decide (t.dT.kB.ab.length<=1000) && decide (t.dT.mD.ab.length<=1000)))=true/\
  ((x5.bL.aq.ab.map (·.lh))[0]?.getD 0<=(x5.bL.aq.ab.map (·.lh))[1]?.getD 0)/\((x5.bL.aq.ab.map (·.lh))[1]?.getD 0<=(x5.bL.aq.ab.map (·.lh))[2]?.getD 0)/\
  (x5.bL.aq.ab.map λt=>t.dT.kB.ab.length)[1]? =some 1/\BG x5.bL=true/\x6.2=0/\(eL x6.1.bL.br.aA.aQ.ab 0).map (·.dx)=[[47,97]]):
  aC Tryz.prog 6 [] (.aE true):=by
 obtain ⟨f0,f1,f2,f4,f5,fall,fm1,fm2,fn,fd,fe,fp⟩:=hf;have st:∀ {T:Nat} {d:dF},dZ T d->T<=900000->d.bL.aq.ab.length<=1000/\0<=d.bL.ca/\d.bL.ca<1000000:=λh _=>by
  grind [h.jU.gC.ma,h.jU.p9]
 have hN:=Ko 1 60;rw [e0,f0] at hN;have hS1:=Kp x0.1 ⟨2,[47,97],[],[],0⟩ (st k0 dd).1 (st k0 dd).2;rw [e1,f1] at hS1;have hS2:=Kp x1.1 ⟨7,[47],[],[],0⟩ (st k1 dd).1 (st k1 dd).2;rw [e2] at hS2;have hQ3:=XW x2.1 k2 0 dd (by rw [f2];decide);rw [e3] at hQ3;have hS4:=Kp x3 ⟨12,[],[],[],0⟩ (st k3 dd).1 (st k3 dd).2;rw [e4] at hS4;have hQ5:=XW x4.1 k4 0 dd (by rw [f4];decide);rw [e5] at hQ5;have hC:=XT x5 k5 [] dd;rw [e6,fe] at hC;have hD:=Xz x5.bL (by rw [f5];decide);rw [fd] at hD;have hns:=vL k6.jU.jb.ja;have hI:=DJ x6.1.bL.br.aA.aQ.bZ x6.1.bL.br.aA.aQ.ab 0 hns.rO (by have:=hns.vK;omega) hns.B5;have hfa:=λt ht=>List.all_eq_true.1 fall t ht
 obtain ⟨t0,t1,t2,ht⟩:=aj3 f5;rw [ht] at fn fm1 fm2;have hH:=ajX x5.bL (λt ht=>(Bool.and_eq_true_iff.1 (hfa t ht)).1) (by
   rw [ht];intro k hk;have hk:k+1<3:=hk
   match k,hk with
   |0,_=>exact Int.not_lt.2 fm1
   |1,_=>exact Int.not_lt.2 fm2) (by rw [f5];decide) (by rw [f5];decide) (λt ht=>by
   grind)
 obtain ⟨it,hI1,hit⟩:=aj2 fp;rw [hI1] at hI;rw [ht] at hH;exact aj1 x0.1 x1.1 x2.1 x3 x4.1 x5 x6.1 x1.2.1 x2.2.1 x2.2.2 x4.2.1 x4.2.2 (pB 0 t0) (pB 1 t1) (pB 2 t2) it rfl (show t1.dT.kB.ab.length=1 by simpa using fn) hit hN hS1 hS2 hQ3 hS4 hQ5 hC hH hI hD
theorem X2:aC Tryz.prog 6 [] (.aE true):=
 aj0 G9 Ha Hb Hc Ku uA He rfl rfl rfl rfl rfl rfl rfl Pc Pd Pe Pf Pg Ph XZ Hf
open Go.Am Go.ChangeShapes Go.WideShapes Go.ChangeAt Go.RowKit
theorem aj5 {H:Type} {enc:TypeId×Value->H} {W:World} {fuel:Nat} {cs:List Value} {y:DataW H×List MemPlace} (ht:DataW.trod enc Tryz.prog W 0 (λ_=>true) true fuel 73 cs=some y):
  ∃ (k:Int) (p s d:ByteArray) (n:Int),cs=[.int .i64 k, .string p, .string s, .string d, .int .i64 n]:=by
 obtain ⟨xs,m,_,rfl,hl,hlen,hf⟩:=DataW.trod_struct Tryz.underlying73 ht;have hl:cs.length=5:=hl.trans aG
 match xs,hlen,cs,hl with
 |[y0,y1,y2,y3,y4],_,[c0,c1,c2,c3,c4],_=>
  have h0:DataW.trod enc Tryz.prog W 0 (λ_=>true) true m 3 (([c0,c1,c2,c3,c4].drop 0).take (Tryz.prog.cellsOf 3))=some y0:=hf 0 _ rfl;rw [show Tryz.prog.cellsOf 3=1 by kernel_rfl] at h0;have h0:DataW.trod enc Tryz.prog W 0 (λ_=>true) true m 3 [c0]=some y0:=h0;have h1:DataW.trod enc Tryz.prog W 0 (λ_=>true) true m 9 (([c0,c1,c2,c3,c4].drop 1).take (Tryz.prog.cellsOf 9))=some y1:=hf 1 _ rfl;rw [show Tryz.prog.cellsOf 9=1 by kernel_rfl] at h1;have h1:DataW.trod enc Tryz.prog W 0 (λ_=>true) true m 9 [c1]=some y1:=h1;have h2:DataW.trod enc Tryz.prog W 0 (λ_=>true) true m 9 (([c0,c1,c2,c3,c4].drop 2).take (Tryz.prog.cellsOf 9))=some y2:=hf 2 _ rfl;rw [show Tryz.prog.cellsOf 9=1 by kernel_rfl] at h2;have h2:DataW.trod enc Tryz.prog W 0 (λ_=>true) true m 9 [c2]=some y2:=h2;have h3:DataW.trod enc Tryz.prog W 0 (λ_=>true) true m 9 (([c0,c1,c2,c3,c4].drop 3).take (Tryz.prog.cellsOf 9))=some y3:=hf 3 _ rfl;rw [show Tryz.prog.cellsOf 9=1 by kernel_rfl] at h3;have h3:DataW.trod enc Tryz.prog W 0 (λ_=>true) true m 9 [c3]=some y3:=h3;have h4:DataW.trod enc Tryz.prog W 0 (λ_=>true) true m 3 (([c0,c1,c2,c3,c4].drop 4).take (Tryz.prog.cellsOf 3))=some y4:=hf 4 _ rfl;rw [show Tryz.prog.cellsOf 3=1 by kernel_rfl] at h4;have h4:DataW.trod enc Tryz.prog W 0 (λ_=>true) true m 3 [c4]=some y4:=h4;obtain ⟨a,ha,_,_⟩:=DataW.trod_int Tryz.underlying3 h0;obtain ⟨p,hp,_,_⟩:=DataW.trod_string Tryz.underlying9 h1;obtain ⟨s,hs,_,_⟩:=DataW.trod_string Tryz.underlying9 h2;obtain ⟨t,hu,_,_⟩:=DataW.trod_string Tryz.underlying9 h3;grind [DataW.trod_int,Tryz.underlying3]
theorem aj6 {H:Type} {enc:TypeId×Value->H} {W:World} {fuel:Nat} {cs:List Value} {y:DataW H×List MemPlace} (ht:DataW.trod enc Tryz.prog W 0 (λ_=>true) true fuel 80 cs=some y):
  ∃ (k ck n pick:Int) (p s d picks:ByteArray),cs=[.int .i64 k, .int .i64 ck, .string p, .string s, .string d, .int .i64 n, .int .i64 pick, .string picks]:=by
 obtain ⟨xs,m,_,rfl,hl,hlen,hf⟩:=DataW.trod_struct Tryz.underlying80 ht;have hl:cs.length=8:=hl.trans aG
 match xs,hlen,cs,hl with
 |[y0,y1,y2,y3],_,[c0,c1,c2,c3,c4,c5,c6,c7],_=>
  have h0:DataW.trod enc Tryz.prog W 0 (λ_=>true) true m 3 (([c0,c1,c2,c3,c4,c5,c6,c7].drop 0).take (Tryz.prog.cellsOf 3))=some y0:=hf 0 _ rfl;rw [show Tryz.prog.cellsOf 3=1 by kernel_rfl] at h0;have h0:DataW.trod enc Tryz.prog W 0 (λ_=>true) true m 3 [c0]=some y0:=h0;have h1:DataW.trod enc Tryz.prog W 0 (λ_=>true) true m 73 (([c0,c1,c2,c3,c4,c5,c6,c7].drop 1).take (Tryz.prog.cellsOf 73))=some y1:=hf 1 _ rfl;rw [show Tryz.prog.cellsOf 73=5 by kernel_rfl] at h1;have h1:DataW.trod enc Tryz.prog W 0 (λ_=>true) true m 73 [c1,c2,c3,c4,c5]=some y1:=h1;have h2:DataW.trod enc Tryz.prog W 0 (λ_=>true) true m 3 (([c0,c1,c2,c3,c4,c5,c6,c7].drop 6).take (Tryz.prog.cellsOf 3))=some y2:=hf 2 _ rfl;rw [show Tryz.prog.cellsOf 3=1 by kernel_rfl] at h2;have h2:DataW.trod enc Tryz.prog W 0 (λ_=>true) true m 3 [c6]=some y2:=h2;have h3:DataW.trod enc Tryz.prog W 0 (λ_=>true) true m 9 (([c0,c1,c2,c3,c4,c5,c6,c7].drop 7).take (Tryz.prog.cellsOf 9))=some y3:=hf 3 _ rfl;rw [show Tryz.prog.cellsOf 9=1 by kernel_rfl] at h3;have h3:DataW.trod enc Tryz.prog W 0 (λ_=>true) true m 9 [c7]=some y3:=h3;obtain ⟨k,hk,_,_⟩:=DataW.trod_int Tryz.underlying3 h0;obtain ⟨a,p,s,t,n,hc⟩:=aj5 h1;obtain ⟨b,hb,_,_⟩:=DataW.trod_int Tryz.underlying3 h2;obtain ⟨q,hq,_,_⟩:=DataW.trod_string Tryz.underlying9 h3;simp_all
theorem aj4 {W:World} {k ck n pick:Int} {p s d picks:ByteArray}:∀ (j:Nat) (x:ae) (v:Value),(G7 ⟨k,⟨ck,p.data.toList,s.data.toList,d.data.toList,n⟩,pick,picks.data.toList⟩)[j]? =some x->
  [Value.int .i64 k, .int .i64 ck, .string p, .string s, .string d, .int .i64 n, .int .i64 pick, .string picks][j]? =some v->cb W (xY W) x v/\v.oneCell'=true
 |0,_,_,h1,h2=>by cases h1;cases h2;exact ⟨.fK _ _,rfl⟩
 |1,_,_,h1,h2=>by cases h1;cases h2;exact ⟨.fK _ _,rfl⟩
 |2,_,_,h1,h2=>by cases h1;cases h2;exact ⟨.gX rfl,rfl⟩
 |3,_,_,h1,h2=>by cases h1;cases h2;exact ⟨.gX rfl,rfl⟩
 |4,_,_,h1,h2=>by cases h1;cases h2;exact ⟨.gX rfl,rfl⟩
 |5,_,_,h1,h2=>by cases h1;cases h2;exact ⟨.fK _ _,rfl⟩
 |6,_,_,h1,h2=>by cases h1;cases h2;exact ⟨.fK _ _,rfl⟩
 |7,_,_,h1,h2=>by cases h1;cases h2;exact ⟨.gX rfl,rfl⟩
 |j+8,_,_,h1,_=>by cases h1
theorem Pj {H:Type} {enc:TypeId×Value->H} {W:World} {base:Nat} {v:Value} {d:DataW H} {q:List MemPlace} (hval:Value.okWide Tryz.prog W .any base 22 v) (hd:DataW.Trod enc Tryz.prog W 0 (λ_=>true) true 22 v d q):
  ∃ (isNil:Bool) (l:List jF),cb W (xY W) (.ag isNil 8 (qe l) .av) v/\(isNil=true->l=[])/\l.length<=maxLen:=by
 obtain ⟨a0,len,cap,rfl⟩:=okWide_slice Tryz.underlying22 hval;obtain ⟨fuel,hf⟩:=hd;obtain ⟨nil,l,h1,h2,h3,_⟩:=aar (α:=jF) Tryz.underlying22 (sz:=8) aG dd G7 (λ_=>True) (λn cs y hcs ht=>by
  obtain ⟨k,ck,n,pick,p,s,d,picks,rfl⟩:=aj6 ht;exact ⟨⟨k,⟨ck,p.data.toList,s.data.toList,d.data.toList,n⟩,pick,picks.data.toList⟩,trivial,rfl,aj4⟩) hf
 exact ⟨nil,l,h1,h2,h3⟩
end Go.Proofs.YtffboamedcmpaaaGreatDoor
