import Derived.Test.YtffboamedcmpaaaGreatDoorBp
set_option linter.all false
set_option maxHeartbeats 4000000
set_option maxRecDepth 100000
namespace Go.Proofs.YtffboamedcmpaaaGreatDoor
open Gw
open Go.Am
theorem ahB (l:List aI) (c:bu):(DO l c).length<=1000:=by
 have hD:∀ (P:List (List UInt8)) (D:List Int),(P.foldl (po l) D).length<=D.length+P.length:=λP=>by
  induction P with
  |nil=>simp_all
  |cons p P ih=>
   grind [po]
 have hP2:(sE c).length<=2:=by grind [sE]
 unfold DO;have h1:=hD (sE c) [];rw [List.length_nil] at h1;generalize (sE c).foldl (po l) []=D at*;rw [List.length_cons];have:(DQ l D).length=D.length:=by
  unfold DQ;grind
 omega
theorem ahE (nq:Bool) (l:List aI) (hi:∀ n∈l,dX n.bc) (hl:l.length<=1048576) (t:cd) (c:bu) (hp1:c.bY.length<=1048576) (hp2:c.fO.length<=1048576) (hh:t.jB.ab.length<=1048576):
  aC Tryz.prog 335 [OL c, .ag nq 8 (cT l) .av,vz t] (GB (DP l t c)):=by
 have hlk:=ahz nq l hi hl c hp1 hp2;have hll:=ahB l c;unfold DP;generalize DO l c=L at*;have hLz:(L.map ie).length=L.length:=List.length_map _;refine bK Tryz.func335 ?_;refine ak ?_;refine db.cK (λk:Nat=>[(.aj 5, .ah (.ar 1 0)),(.af 1, .au 78 (cr t)),(.aj 6, .ah (.ar 2 0)),(.af 2, .au 233 [.aa .i64 0, .aa .i64 0]),(.aj 11, .ah (.ag false 1 (L.map ie) .av)),(.aj 12, .ah (.aa .i64 L.length)),(.aj 13, .ah (.aa .i64 k))]) 3
  (λk=>k<=L.length/\∀ x∈L.take k,t.jB.ab.contains x=true) (λk=>L.length - k) dd 0 ⟨Nat.zero_le _,λx hx=>by cases hx⟩ ⟨rfl,rfl,rfl,rfl,rfl,rfl,rfl,rfl,rfl,rfl,?_,rfl,rfl,rfl,trivial⟩ ?_
 ·show bs.ah (ae.aa .i64 ((L.map ie).length:Nat))=_;rw [hLz]
 rintro k ⟨hk,hall⟩;refine cn ?_;refine ⟨λh=>?_,λh=>?_⟩
 ·have h:=of_decide_eq_true h;have hlt:k<L.length:=om;have hg:=lN ie hlt;have hc:=Dx t.jB.bZ t.jB.ab L[k] hh;have w1:IntKind.i64.wrap ((k:Int)+1)=((k+1:Nat):Int):=by grind [bj]
  refine ak ?_;cases hcn:t.jB.ab.contains L[k] with
  |false=>
   have hf:L.find? (λk=>!t.jB.ab.contains k)=some L[k]:=by
    grind [List.find?_eq_some_iff_getElem,List.mem_take_iff_getElem]
   rw [hf];exact bm
  |true=>
   refine iV ?_;refine ⟨k+1,⟨om,λx hx=>?_⟩,by grind,rfl,rfl,rfl,rfl,rfl,rfl,rfl,rfl,rfl,rfl,rfl,rfl,?_,rfl,trivial⟩
   ·grind [List.take_succ_eq_append_getElem]
   ·exact congrArg (λx=>bs.ah (ae.aa .i64 x)) w1
 ·have h:=of_decide_eq_false h;have hkL:k=L.length:=om;subst hkL;rw [List.take_of_length_le (Nat.le_refl _)] at hall;have hf:L.find? (λk=>!t.jB.ab.contains k)=none:=List.find?_eq_none.2 λx hx=>by simp_all
  rw [hf];exact bm
theorem ahD (nq:Bool) (l:List aI) (t:cd):
  aC Tryz.prog 333 [.aK [], .ag nq 8 (cT l) .av,vz t] (GB ⟨3,0⟩):=by
 refine bK Tryz.func333 ?_;exact bm
theorem ahF {c:bu} {all:Bool} {s:cj (List UInt8)} (h:zQ c all= .sC s):s.ab.length<=1048576:=by
 have hp:=vb (p:=c.bY);unfold zQ Nu at h;cases hq:ir c.bY with
 |none=>rw [hq] at h;cases h;exact Nat.zero_le _
 |some l=>
  rw [hq] at h hp;have hp:l.length<=16:=hp;cases l with
  |nil=>cases h;exact Nat.zero_le _
  |cons a r=>
   grind [cj.jK]
theorem WW {c:bu} {s:cj (List UInt8)} (h:sF c= .sC s):s.ab.length<=1048576:=by
 grind [sF,ahF]
theorem ahG {c d:bu} {all:Bool}:zQ c all≠ .yx d:=by
 grind [zQ]
theorem ahH {c d:bu} (h:sF c= .yx d):d=c:=by
 grind [sF,ahG]
theorem ahC (nq:Bool) (l:List aI) (hi:∀ n∈l,dX n.bc) (hl:l.length<=1048576) (t:cd) (hp1:t.dN.bY.length<=1048576) (hp2:t.dN.fO.length<=1048576) (hh:t.jB.ab.length<=1048576):
  aC Tryz.prog 122 [.ag nq 8 (cT l) .av,vz t] (GB (ub l t)):=by
 have hw:=OG t.dN hp1;have hN:∀ s,sF t.dN= .sC s->s.ab.length<=1048576:=λs h=>WW h
 have hT:∀ c,sF t.dN= .yx c->c=t.dN:=λc h=>ahH h
 have wn:=λnames hn=>ahw nq l hi hl t names hn hh
 have tn:=ahE nq l hi hl t t.dN hp1 hp2 hh;have pn:=ahD nq l t;obtain ⟨call,⟨hq,has⟩,at_,done,ended,upto,begin_,mark,end_,answer⟩:=t;unfold ub;dsimp only at*;generalize sF call=W at*;cases ended with
 |true=>
  rw [if_pos rfl];refine bK Tryz.func122 ?_
  conv=>whnf
  repeat ((first|refine ⟨λ_=>?_,λh=>absurd h dd⟩|refine ⟨λh=>absurd h dd,λ_=>?_⟩|refine ⟨λ_=>?_,λh=>absurd (show true=false from h) dd⟩|trivial);(conv=>whnf))
  rfl
 |false=>
  rw [if_neg dd];cases done with
  |true=>
   rw [if_pos rfl];cases has with
   |nil=>
    dsimp only
    by_cases h12:call.dD=12
    ·rw [if_pos h12];obtain ⟨kind,p1,p2,p3,p4⟩:=call;subst h12;refine bK Tryz.func122 ?_;exact dC
    ·rw [if_neg h12];refine bK Tryz.func122 ?_;refine cC ?_;refine ⟨λh=>absurd (eq_of_beq h) h12,λ_=>?_⟩
     conv=>whnf
     repeat ((first|refine ⟨λ_=>?_,λh=>absurd h dd⟩|refine ⟨λh=>absurd h dd,λ_=>?_⟩|refine ⟨λ_=>?_,λh=>absurd (show true=false from h) dd⟩|trivial);(conv=>whnf))
     rfl
   |cons a r=>
    refine bK Tryz.func122 ?_;refine cC ?_;refine ⟨λ_=>?_,λh=>absurd (of_decide_eq_false h) (by simp_all)⟩
    conv=>whnf
    refine ⟨_,⟨om,rfl⟩,?_⟩
    conv=>whnf
    rfl
  |false=>
   rw [if_neg dd];cases W with
   |zP=>
    refine bK Tryz.func122 ?_;refine iV ?_;refine ⟨_,rfl,hw,?_⟩
    conv=>whnf
    refine ⟨aG,aG,333,aG,bz.eV (pn) rfl ?_⟩
    conv=>whnf
    refine ⟨aG,?_⟩
    conv=>whnf
    rfl
   |yx c=>
    have hc:=hT c rfl;subst hc;refine bK Tryz.func122 ?_;refine iV ?_;refine ⟨_,rfl,hw,?_⟩
    conv=>whnf
    refine ⟨aG,aG,335,aG,bz.eV (tn) rfl ?_⟩
    conv=>whnf
    refine ⟨aG,?_⟩
    conv=>whnf
    rfl
   |sC s=>
    have hs:=wn s (hN s rfl);refine bK Tryz.func122 ?_;refine iV ?_;refine ⟨_,rfl,hw,?_⟩
    conv=>whnf
    refine ⟨aG,aG,334,aG,bz.eV (hs) rfl ?_⟩
    conv=>whnf
    refine ⟨aG,?_⟩
    conv=>whnf
    rfl
theorem ahI (r:Int):aC Tryz.prog 57 [.aa .i64 r] (.aw [zU (rF r).1, .aa .i64 (rF r).2]):=by
 unfold rF;refine cU Tryz.func57 ?_
 conv=>whnf
 refine ⟨λh=>?_,λh=>?_⟩
 ·have h:=of_decide_eq_true h;rw [if_pos (.inl h)];refine ak ?_;exact iL.ml (.aX (iL.np oT) (.aX (iL.bw _) .fa))
 ·have h:=of_decide_eq_false h
  conv=>whnf
  refine ⟨λh2=>?_,λh2=>?_⟩
  ·have h2:=of_decide_eq_true h2;rw [if_pos (.inr h2)]
   conv=>whnf
   exact iL.ml (.aX (iL.np oT) (.aX (iL.bw _) .fa))
  ·have h2:=of_decide_eq_false h2;rw [if_neg (λq=>by omega)]
   conv=>whnf
   exact iL.ml (.aX (iL.np oT) (.aX (iL.bw _) .fa))
theorem En (nq:Bool) (l:List aI) (hi:∀ n∈l,dX n.bc) (hl:l.length<=1048576) (p:List UInt8) (hp:p.length<=1048576):
  aC Tryz.prog 137 [.ag nq 8 (cT l) .av, .ai p] (.aw [.aa .i64 (gx l p).1, .aa .i64 (gx l p).2]):=by
 have hsp:=DC p hp;have hps:=λns (e:ir p=some ns)=>by have:=vb (p:=p);rw [e] at this;exact this
 unfold gx;generalize ir p=ps at*;refine cU Tryz.func137 ?_;refine ak ?_;cases ps with
 |none=>
  exact bm
 |some ns=>
  have h16:ns.length<=16:=hps ns rfl;cases ns with
  |nil=>
   have hf:=Ge nq true l [] hi hl dd;exact bm
  |cons a r=>
   have hf:=Ge nq false l (a::r) hi hl om;exact bm
def WX:iC->Bool
 |[]=>true
 |(_, .aa .i64 _,_)::l=>WX l
 |_=>false
theorem mG:∀ {es:iC},WX es=true->∀ e∈es,oh (.int .i64) e.2.1
 |[],_,e,h=>by cases h
 |(c,k,v)::l,hb,e,h=>by
  cases k with
  |aa q n=>
   cases q with
   |i64=>
    rcases List.mem_cons.1 h with rfl|h
    ·rfl
    ·exact mG (es:=l) hb e h
   |_=>cases hb
  |_=>cases hb
def WY:iC:=[(0, .aa .i64 1, .aP 77 [] []),(1, .aa .i64 2, .aP 77 [] []),(2, .aa .i64 3, .aP 78 [] []),(3, .aa .i64 4, .aP 79 [] []),(4, .aa .i64 5, .aP 80 [] []),(5, .aa .i64 6, .aP 81 [] []),(6, .aa .i64 7, .aP 82 [] []),(7, .aa .i64 8, .aP 83 [] []),(8, .aa .i64 9, .aP 84 [] []),(9, .aa .i64 10, .aP 85 [] []),(10, .aa .i64 11, .aP 86 [] []),(11, .aa .i64 12, .aP 87 [] []),(12, .aa .i64 13, .aP 88 [] [])]
theorem ahJ:bz Tryz.prog 40 [] (aD []) 0 (cG 0 (λx e=>x= .sh 13 WY/\e=[])):=by
 refine bn Tryz.func40 ?_
 conv=>whnf
 refine mf.Fq rfl ?_
 conv=>whnf
 refine mf.k8 (kt:=3) (et:=118) (d:= .int .i64) aG aG (.inr rfl) rfl rfl rfl rfl (mG rfl) none rfl ?_
 conv=>whnf
 refine mf.k8 (kt:=3) (et:=118) (d:= .int .i64) aG aG (.inr rfl) rfl rfl rfl rfl (mG rfl) none rfl ?_
 conv=>whnf
 refine mf.k8 (kt:=3) (et:=118) (d:= .int .i64) aG aG (.inr rfl) rfl rfl rfl rfl (mG rfl) none rfl ?_
 conv=>whnf
 refine mf.k8 (kt:=3) (et:=118) (d:= .int .i64) aG aG (.inr rfl) rfl rfl rfl rfl (mG rfl) none rfl ?_
 conv=>whnf
 refine mf.k8 (kt:=3) (et:=118) (d:= .int .i64) aG aG (.inr rfl) rfl rfl rfl rfl (mG rfl) none rfl ?_
 conv=>whnf
 refine mf.k8 (kt:=3) (et:=118) (d:= .int .i64) aG aG (.inr rfl) rfl rfl rfl rfl (mG rfl) none rfl ?_
 conv=>whnf
 refine mf.k8 (kt:=3) (et:=118) (d:= .int .i64) aG aG (.inr rfl) rfl rfl rfl rfl (mG rfl) none rfl ?_
 conv=>whnf
 refine mf.k8 (kt:=3) (et:=118) (d:= .int .i64) aG aG (.inr rfl) rfl rfl rfl rfl (mG rfl) none rfl ?_
 conv=>whnf
 refine mf.k8 (kt:=3) (et:=118) (d:= .int .i64) aG aG (.inr rfl) rfl rfl rfl rfl (mG rfl) none rfl ?_
 conv=>whnf
 refine mf.k8 (kt:=3) (et:=118) (d:= .int .i64) aG aG (.inr rfl) rfl rfl rfl rfl (mG rfl) none rfl ?_
 conv=>whnf
 refine mf.k8 (kt:=3) (et:=118) (d:= .int .i64) aG aG (.inr rfl) rfl rfl rfl rfl (mG rfl) none rfl ?_
 conv=>whnf
 refine mf.k8 (kt:=3) (et:=118) (d:= .int .i64) aG aG (.inr rfl) rfl rfl rfl rfl (mG rfl) none rfl ?_
 conv=>whnf
 refine mf.k8 (kt:=3) (et:=118) (d:= .int .i64) aG aG (.inr rfl) rfl rfl rfl rfl (mG rfl) none rfl ?_
 conv=>whnf
 exact ⟨_,_,⟨rfl,rfl⟩,rfl,⟨1,Nat.zero_le _,rfl,rfl⟩,trivial⟩
def Eo (m:bM) (c:bu) (data:List UInt8) (nv:ae) (n:Int) (ev o:ae):List ae:=[cv 17 dY m.aA.b8,cv 8 iF m.aA.aQ, .aa .i64 m.eC, .aa .i64 m.iH,cv 2 iJ m.dO,cv 4 ej m.de, .aa .i64 m.fz,
 .aa .i64 0, .ai data,nv, .aa .i64 n,ev, .aa .i64 c.dD, .ai c.bY, .ai c.fO, .ai c.ia, .aa .i64 c.cR,o]
def OM (m:bM) (c:bu) (data:List UInt8) (nv:ae) (n:Int) (ev o:ae):List (Go.Am.aS×bs):=[(.af 10, .au 117 (Eo m c data nv n ev o))]
abbrev oH:ae:= .ag true 1 [] .bR
abbrev GX:ae:= .ag true 1 [] .av
abbrev nQ (m:bM) (c:bu):List (Go.Am.aS×bs):=OM m c [] oH 0 oH oH
abbrev W1 (m:bM) (c:bu) (o:aH):List (Go.Am.aS×bs):=OM m c [] GX 0 GX (.ag false 7 [cI o] .av)
abbrev W0 (m:bM) (c:bu):List (Go.Am.aS×bs):=OM m c [] GX 0 GX GX
theorem WZ (m:bM) (c:bu) (hl:m.aA.b8.ab.length<=1048576):bz Tryz.prog 134 [.ar 10 0] (aD (nQ m c)) 11 (cG 11 (λr es=>r= .cE (.aw [yq (jD m).1, .aa .i64 (jD m).2])/\es=nQ m c)):=by
 have hn:=ae7 m.eC m.iH;have hel:(m.aA.b8.ab.map dY).length=m.aA.b8.ab.length:=List.length_map _;unfold jD;generalize BE m.eC m.iH=S at*;cases S with
 |none=>
  refine bn Tryz.func134 ?_;refine ak ?_;exact ⟨_,_,⟨rfl,rfl⟩,rfl,⟨rfl,rfl⟩,⟨rfl,rfl,trivial⟩⟩
 |some st=>
  dsimp only
  by_cases h:200<=m.aA.b8.ab.length
  ·rw [if_pos h];refine bn Tryz.func134 ?_;refine cC ?_;refine C8 om ?_
   conv=>whnf
   exact ⟨_,_,⟨rfl,rfl⟩,rfl,⟨rfl,rfl⟩,⟨rfl,rfl,trivial⟩⟩
  ·rw [if_neg h];refine bn Tryz.func134 ?_;refine cC ?_;refine fu om ?_
   conv=>whnf
   exact ⟨_,_,⟨rfl,rfl⟩,rfl,⟨rfl,rfl⟩,⟨rfl,rfl,trivial⟩⟩
theorem ahK (m:bM) (c:bu) (o:aH) (hg:iy m.aA) (hf:lZ o):bz Tryz.prog 156 [.ar 10 0,mV o] (aD (nQ m c)) 11
  (cG 11 (λr es=>r= .cE (.aa .i64 (eF m.aA o).2)/\es=if (eF m.aA o).2=0 then W1 {m with aA:=(eF m.aA o).1} c o else W0 m c)):=by
 have ha:=OF hg o hf;generalize eF m.aA o=R at*;obtain ⟨g,e⟩:=R;refine bz.WO 10 ?_
 by_cases h:e=0
 ·subst h;rw [if_pos rfl];refine bn Tryz.func156 ?_
  conv=>whnf
  refine ⟨_,rfl,ha,?_⟩
  conv=>whnf
  refine ⟨aG,?_⟩;refine iV ?_;refine ⟨rfl,?_⟩
  conv=>whnf
  refine ⟨dG (by simp_all) dd,?_⟩;refine ak ?_;exact ⟨_,_,rfl,_,_,⟨rfl,rfl⟩,rfl,⟨rfl,rfl⟩,⟨rfl,rfl,trivial⟩⟩
 ·rw [if_neg h];refine bn Tryz.func156 ?_;refine ak ?_;refine ⟨λh2=>?_,λh2=>absurd (by simpa using h2) h⟩
  conv=>whnf
  exact ⟨_,_,rfl,_,_,⟨rfl,rfl⟩,rfl,⟨rfl,rfl⟩,⟨rfl,rfl,trivial⟩⟩
def xi (m:bM) (o:aH):Int:=if (jD m).2≠0 then (jD m).2 else (eF m.aA (sI o (jD m).1)).2
theorem Kc (m:bM) (c:bu) (o:aH) (hg:iy m.aA) (hf:lZ o):bz Tryz.prog 136 [.ar 10 0,mV o] (aD (nQ m c)) 11
  (cG 11 (λr es=>r= .cE (.aa .i64 (xi m o))/\es=if xi m o=0 then W1 {m with aA:=(eF m.aA (sI o (jD m).1)).1,eC:=(jD m).1.dg} c (sI o (jD m).1) else W0 m c)):=by
 have hn:=WZ m c (Nat.le_trans hg.qL dd);have ha:=λs=>ahK m c (sI o s) hg ⟨hf.wQ,hf.MS,hf.MR,hf.TD⟩
 unfold xi;generalize jD m=S at*;obtain ⟨s,e⟩:=S;have ha:=ha s;dsimp only at*;generalize hR:eF m.aA (sI o s)=R at*;obtain ⟨g,e2⟩:=R;dsimp only at*;refine bz.WO 10 ?_
 by_cases h:e=0
 ·subst h;rw [if_neg dd]
  by_cases h2:e2=0
  ·subst h2;rw [if_pos rfl] at ha ⊢;refine bn Tryz.func136 ?_;refine eJ ?_;exact ⟨_,_,rfl,_,_,⟨rfl,rfl⟩,rfl,⟨rfl,rfl⟩,⟨rfl,rfl,trivial⟩⟩
  ·rw [if_neg h2] at ha ⊢;refine bn Tryz.func136 ?_;refine eJ ?_;refine ⟨λ_=>?_,λq=>absurd (by simpa using q) h2⟩
   conv=>whnf
   exact ⟨_,_,rfl,_,_,⟨rfl,rfl⟩,rfl,⟨rfl,rfl⟩,⟨rfl,rfl,trivial⟩⟩
 ·rw [if_pos h,if_neg h];refine bn Tryz.func136 ?_;refine eJ ?_;refine ⟨λ_=>?_,λq=>absurd (by simpa using q) h⟩
  conv=>whnf
  exact ⟨_,_,rfl,_,_,⟨rfl,rfl⟩,rfl,⟨rfl,rfl⟩,⟨rfl,rfl,trivial⟩⟩
def bI (m:bM) (c:bu):dj:=⟨m,fg 0,c, .dE⟩
abbrev qO (d:dj):List (Go.Am.aS×bs):=[(.af 10, .au 117 (NB d))]
def W4 (m:bM) (c:bu) (o:aH):dj:=⟨{m with aA:=(eF m.aA (sI o (jD m).1)).1,eC:=(jD m).1.dg},fg 0,c,⟨false,[sI o (jD m).1]⟩⟩
theorem GY (m:bM) (c:bu) (o:aH):ll (bI m c) o=if xi m o=0 then (W4 m c o,0) else (bI m c,xi m o):=by
 unfold ll xi W4;rw [show (bI m c).bp=m from rfl];generalize jD m=S;obtain ⟨s,e⟩:=S;dsimp only
 by_cases h:e=0
 ·subst h;rw [if_neg (show ¬((0:Int)≠0) by decide),if_neg (show ¬((0:Int)≠0) by decide)];unfold uc;rw [show (bI m c).bp=m from rfl];generalize eF m.aA (sI o s)=R;obtain ⟨g,e⟩:=R;dsimp only
  by_cases h:e=0
  ·subst h;rfl
  ·simp [h]
 simp_all
theorem W3 (nq:Bool) (l:List aI) (hi:∀ n∈l,dX n.bc) (hl:l.length<=1048576) (p:List UInt8) (hp:p.length<=1048576):
  aC Tryz.prog 132 [.ag nq 8 (cT l) .av, .ai p] (.aw [.aa .i64 (kP l p).1.1, .ai (kP l p).1.2, .aa .i64 (kP l p).2]):=by
 have hsp:=DC p hp;have hps:=λns (e:ir p=some ns)=>by have:=vb (p:=p);rw [e] at this;exact this
 unfold kP;generalize ir p=ps at*;cases ps with
 |none=>
  refine bK Tryz.func132 ?_;exact dC
 |some ns=>
  have h16:ns.length<=16:=hps ns rfl;cases ns with
  |nil=>
   refine bK Tryz.func132 ?_;exact dC
  |cons a r=>
   dsimp only;have hle:(fN (a::r)).length=r.length+1:=by rw [wS];rfl
   have htk:(fN (a::r)).take r.length=((a::r).dropLast).map jv:=by rw [List.dropLast_eq_take];show ((a::r).map _).take _=_;rw [<-List.map_take];rfl
   have w2:IntKind.i64.wrap (((fN (a::r)).length:Int) - 1)=(r.length:Int):=by
    grind [bj]
   have hf:=Ge nq false l (a::r).dropLast hi hl (by grind);have hfi:=GV hi (a::r).dropLast;have hdf:=tS _ hfi;have hg:(fN (a::r))[r.length]? =some [.ai ((a::r).getLast (by simp))]:=by
    have:(a::r)[r.length]? =some ((a::r).getLast (by simp)):=by
     grind
    show ((a::r).map _)[r.length]? =_;grind
   generalize (a::r).getLast (by simp)=la at*;generalize (a::r).dropLast=N at*;generalize jq l N=fe at*;have go:∀ (R:(Int×List UInt8)×Int),R=(if fe.2≠0 then ((0,[]),fe.2) else if fk fe.1=false then ((0,[]),81) else ((fe.1,la),0))->aC Tryz.prog 132 [.ag nq 8 (cT l) .av, .ai p] (.aw [.aa .i64 R.1.1, .ai R.1.2, .aa .i64 R.2]):=by
    intro R hR;refine bK Tryz.func132 ?_;refine cC ?_;rw [w2];refine cC ?_;rw [Int.toNat_natCast,htk];refine ak ?_;refine ⟨λh=>?_,λh=>?_⟩
    ·have h:fe.2≠0:=by simpa using h
     rw [if_pos h] at hR;subst hR
     conv=>whnf
    ·have h:fe.2=0:=by simpa using h
     rw [if_neg (by rw [h];decide)] at hR;refine ak ?_;cases hd:fk fe.1 with
     |false=>
      rw [if_pos hd] at hR;subst hR;exact dC
     |true=>
      rw [if_neg (by rw [hd];decide)] at hR;subst hR;refine iV ?_;refine ⟨_,⟨om,by trivial⟩,?_⟩
      conv=>whnf
      refine ⟨aG,?_⟩
      conv=>whnf
   exact go _ rfl
theorem W5 {l:List aI} (hi:∀ n∈l,dX n.bc) (p:List UInt8):dX (kP l p).1.1/\(kP l p).1.2.length<=p.length:=by
 have z:dX 0:=by unfold dX;decide
 unfold kP;cases hp:ir p with
 |none=>simp_all
 |some ns=>
  have hs:=Us hp;grind [GV]
theorem Ep {l:List aI} (hi:∀ n∈l,dX n.bc) (p:List UInt8):dX (gx l p).1:=by
 grind [gx,dX,GV]
theorem ahL (s:iu) (f:Bool):dX (w9 s f):=by
 grind [w9,j5,dX]
theorem B4 {g:eh} (h:iy g):∀ n∈g.aQ.ab,dX n.bc:=λn hn=>by have:=h.Vs n hn;exact ⟨om,om⟩
theorem Er {g:eh} (h:iy g):g.aQ.ab.length<=1048576:=Nat.le_trans h.BP dd
theorem W6 (m:bM) (c:bu) (hg:iy m.aA) (hp:c.bY.length<=1048576):bz Tryz.prog 77 [.ar 10 0] (aD (nQ m c)) 11
  (cG 11 (λr es=>r= .cE (.aa .i64 (ud (bI m c)).2)/\es=qO (ud (bI m c)).1)):=by
 have hiN:=B4 hg;have hlN:=Er hg;have hab:=W3 m.aA.aQ.bZ m.aA.aQ.ab hiN hlN c.bY hp;have hai:=W5 hiN c.bY;have hch:=λdir s=>Jl m.aA.aQ.bZ m.aA.aQ.ab dir s hiN hlN
 have hn:=WZ m c (Nat.le_trans hg.qL dd);have hid:=λs=>ae6 s (c.dD==1)
 have hB0:ud (bI m c)=if c.bY=[47] then (bI m c,194) else if (kP m.aA.aQ.ab c.bY).2≠0 then (bI m c,(kP m.aA.aQ.ab c.bY).2) else if (mT m.aA.aQ.ab (kP m.aA.aQ.ab c.bY).1.1 (kP m.aA.aQ.ab c.bY).1.2).isSome=true then (bI m c,190)
   else if (jD m).2≠0 then (bI m c,(jD m).2) else ll (bI m c) (lj 1 (w9 (jD m).1 (c.dD==1)) (kP m.aA.aQ.ab c.bY).1.1 (kP m.aA.aQ.ab c.bY).1.2 []):=by
  trivial
 generalize ud (bI m c)=B at*;generalize kP m.aA.aQ.ab c.bY=A at*;obtain ⟨⟨dir,last⟩,e⟩:=A;dsimp only at*;have hch:=hch dir last;have hfine:lZ (lj 1 (w9 (jD m).1 (c.dD==1)) dir last []):=⟨ahL _ _,hai.1,Nat.le_trans hai.2 hp,Nat.zero_le _⟩;refine bz.na 10 ?_
 by_cases h1:c.bY=[47]
 ·have h1':=h1;refine bn Tryz.func77 ?_
  conv=>whnf
  refine ⟨λ_=>?_,λq=>absurd (of_decide_eq_false q) (λq=>q h1)⟩;have hB:B=(bI m c,194):=by rw [hB0,if_pos h1]
  subst hB;exact fM
 rw [if_neg h1] at hB0
 by_cases h2:e=0
 ·subst h2;rw [if_neg (show ¬((0:Int)≠0) by decide)] at hB0;cases hc:(mT m.aA.aQ.ab dir last).isSome with
  |true=>
   rw [hc] at hch;refine bn Tryz.func77 ?_
   conv=>whnf
   refine fu h1 ?_;refine ak ?_;have hB:B=(bI m c,190):=by rw [hB0,if_pos hc]
   subst hB;exact fM
  |false=>
   rw [if_neg (by rw [hc];decide)] at hB0;rw [hc] at hch
   by_cases h3:(jD m).2=0
   ·rw [if_neg (λq=>q h3)] at hB0;rw [h3] at hn;have hid:=hid (jD m).1;refine bn Tryz.func77 ?_
    conv=>whnf
    refine fu h1 ?_;refine eJ ?_;have hB:B=ll (bI m c) (lj 1 (w9 (jD m).1 (c.dD==1)) dir last []):=hB0;rw [GY] at hB;have hpt:=Kc m c (lj 1 (w9 (jD m).1 (c.dD==1)) dir last []) hg (hfine)
    by_cases hz:xi m (lj 1 (w9 (jD m).1 (c.dD==1)) dir last [])=0
    ·rw [if_pos hz] at hB hpt;subst hB;refine eJ ?_;rw [hz];exact fM
    ·rw [if_neg hz] at hB hpt;subst hB;refine eJ ?_;exact fM
   ·rw [if_pos h3] at hB0;refine bn Tryz.func77 ?_
    conv=>whnf
    refine fu h1 ?_;refine eJ ?_;refine ⟨λ_=>?_,λq=>absurd (by simpa using q) h3⟩;have hB:B=(bI m c,(jD m).2):=hB0;subst hB;exact fM
 ·rw [if_pos h2] at hB0;refine bn Tryz.func77 ?_
  conv=>whnf
  refine fu h1 ?_;refine ak ?_;refine ⟨λ_=>?_,λq=>absurd (by simpa using q) h2⟩;have hB:B=(bI m c,e):=hB0;subst hB;exact fM
theorem ahO (m:bM) (c:bu) (hg:iy m.aA) (hp:c.bY.length<=1048576) (hd:c.ia.length<=1048576):bz Tryz.prog 78 [.ar 10 0] (aD (nQ m c)) 11
  (cG 11 (λr es=>r= .cE (.aa .i64 (uq (bI m c)).2)/\es=qO (uq (bI m c)).1)):=by
 have hiN:=B4 hg;have hlN:=Er hg;have hat:=En m.aA.aQ.bZ m.aA.aQ.ab hiN hlN c.bY hp;have hai:=Ep hiN c.bY;have hdi:=tS _ hai;have hB0:uq (bI m c)=if (gx m.aA.aQ.ab c.bY).2≠0 then (bI m c,(gx m.aA.aQ.ab c.bY).2) else if fk (gx m.aA.aQ.ab c.bY).1=true then (bI m c,82) else ll (bI m c) (lj 2 (gx m.aA.aQ.ab c.bY).1 0 [] c.ia):=rfl
 generalize uq (bI m c)=B at*;generalize gx m.aA.aQ.ab c.bY=A at*;obtain ⟨id,e⟩:=A;dsimp only at*;have hfine:lZ (lj 2 id 0 [] c.ia):=⟨hai,by show dX 0;unfold dX;decide,Nat.zero_le _,hd⟩;refine bz.na 10 ?_
 by_cases h2:e=0
 ·subst h2;rw [if_neg (show ¬((0:Int)≠0) by decide)] at hB0;cases hdd:fk id with
  |true=>
   rw [hdd] at hdi;refine bz.sc dW jd (fn:=Tryz.f78) aG rfl aG rfl rfl ?_;refine ak ?_;have hB:B=(bI m c,82):=by simp_all
   subst hB;exact fM
  |false=>
   rw [if_neg (by rw [hdd];decide)] at hB0;rw [hdd] at hdi;refine bn Tryz.func78 ?_;refine ak ?_;have hB:B=ll (bI m c) (lj 2 id 0 [] c.ia):=hB0;rw [GY] at hB;have hpt:=Kc m c (lj 2 id 0 [] c.ia) hg (hfine)
   by_cases hz:xi m (lj 2 id 0 [] c.ia)=0
   ·rw [if_pos hz] at hB hpt;subst hB;refine eJ ?_;rw [hz];exact fM
   ·rw [if_neg hz] at hB hpt;subst hB;refine eJ ?_;exact fM
 ·rw [if_pos h2] at hB0;refine bn Tryz.func78 ?_;refine ak ?_;refine ⟨λ_=>?_,λq=>absurd (by simpa using q) h2⟩;have hB:B=(bI m c,e):=hB0;subst hB;exact fM
theorem ahM (m:bM) (c:bu) (hg:iy m.aA) (hp:c.bY.length<=1048576) (hp2:c.fO.length<=1048576):bz Tryz.prog 80 [.ar 10 0] (aD (nQ m c)) 11
  (cG 11 (λr es=>r= .cE (.aa .i64 (ug (bI m c)).2)/\es=qO (ug (bI m c)).1)):=by
 have hiN:=B4 hg;have hlN:=Er hg;have hat:=En m.aA.aQ.bZ m.aA.aQ.ab hiN hlN c.bY hp;have hab:=W3 m.aA.aQ.bZ m.aA.aQ.ab hiN hlN c.fO hp2;have hai:=W5 hiN c.fO;have hti:=Ep hiN c.bY;have hch:=λdir s=>Jl m.aA.aQ.bZ m.aA.aQ.ab dir s hiN hlN
 have hta:=λdir=>Gc m.aA.aQ.bZ m.aA.aQ.ab dir hiN hlN
 have hB0:ug (bI m c)=if c.bY=[47]\/c.fO=[47] then (bI m c,194) else if (gx m.aA.aQ.ab c.bY).2≠0 then (bI m c,(gx m.aA.aQ.ab c.bY).2) else
   if (kP m.aA.aQ.ab c.fO).2≠0 then (bI m c,(kP m.aA.aQ.ab c.fO).2) else if (mT m.aA.aQ.ab (kP m.aA.aQ.ab c.fO).1.1 (kP m.aA.aQ.ab c.fO).1.2).isSome=true then (bI m c,190)
   else if (kP m.aA.aQ.ab c.fO).1.1=(gx m.aA.aQ.ab c.bY).1\/(jS m.aA.aQ.ab (kP m.aA.aQ.ab c.fO).1.1).contains (gx m.aA.aQ.ab c.bY).1=true then (bI m c,192)
   else ll (bI m c) (lj 1 (gx m.aA.aQ.ab c.bY).1 (kP m.aA.aQ.ab c.fO).1.1 (kP m.aA.aQ.ab c.fO).1.2 []):=rfl
 generalize ug (bI m c)=B at*;generalize kP m.aA.aQ.ab c.fO=A at*;generalize gx m.aA.aQ.ab c.bY=T at*;obtain ⟨⟨dir,last⟩,e⟩:=A;obtain ⟨id,e0⟩:=T;dsimp only at*;have hch:=hch dir last;have hta:=hta dir;have hct:=Dx (decide (jS m.aA.aQ.ab dir=[])) (jS m.aA.aQ.ab dir) id (OK hlN);have hfine:lZ (lj 1 id dir last []):=⟨hti,hai.1,Nat.le_trans hai.2 hp2,Nat.zero_le _⟩;refine bz.na 10 ?_
 by_cases h1:c.bY=[47]
 ·have h1':=h1;refine bz.sc dW jd (fn:=Tryz.f80) aG rfl aG rfl rfl ?_
  conv=>whnf
  refine ⟨λ_=>?_,λq=>absurd (of_decide_eq_false q) (λq=>q h1)⟩;refine ak ?_;have hB:B=(bI m c,194):=by simp_all
  subst hB;exact fM
 by_cases h1b:c.fO=[47]
 ·have h1':=h1;refine bn Tryz.func80 ?_
  conv=>whnf
  refine fu h1 ?_
  conv=>whnf
  refine ⟨λ_=>?_,λq=>absurd (of_decide_eq_false q) (λq=>q h1b)⟩
  conv=>whnf
  have hB:B=(bI m c,194):=by simp_all
  subst hB;exact fM
 rw [if_neg (λq=>by simp_all)] at hB0
 by_cases h2:e0=0
 ·subst h2;rw [if_neg (show ¬((0:Int)≠0) by decide)] at hB0
  by_cases h3:e=0
  ·subst h3;rw [if_neg (show ¬((0:Int)≠0) by decide)] at hB0;cases hc:(mT m.aA.aQ.ab dir last).isSome with
   |true=>
    rw [hc] at hch;refine bn Tryz.func80 ?_
    conv=>whnf
    refine fu h1 ?_
    conv=>whnf
    refine fu h1b ?_;refine ak ?_;have hB:B=(bI m c,190):=by rw [hB0,if_pos hc]
    subst hB;exact fM
   |false=>
    rw [if_neg (by rw [hc];decide)] at hB0;rw [hc] at hch
    by_cases h4:dir=id
    ·rw [if_pos (.inl h4)] at hB0;refine bn Tryz.func80 ?_
     conv=>whnf
     refine fu h1 ?_
     conv=>whnf
     refine fu h1b ?_;refine ak ?_;refine ⟨λ_=>?_,λq=>absurd h4 (by simpa using q)⟩;refine ak ?_;have hB:B=(bI m c,192):=hB0;subst hB;exact fM
    ·cases h5:(jS m.aA.aQ.ab dir).contains id with
     |true=>
      rw [if_pos (.inr h5)] at hB0;rw [h5] at hct;refine bn Tryz.func80 ?_
      conv=>whnf
      refine fu h1 ?_
      conv=>whnf
      refine fu h1b ?_;refine ak ?_;refine ⟨λq=>absurd (eq_of_beq q) h4,λ_=>?_⟩;refine ak ?_;have hB:B=(bI m c,192):=hB0;subst hB;exact fM
     |false=>
      rw [if_neg (λq=>by simp_all)] at hB0;rw [h5] at hct;refine bn Tryz.func80 ?_
      conv=>whnf
      refine fu h1 ?_
      conv=>whnf
      refine fu h1b ?_;refine ak ?_;refine ⟨λq=>absurd (eq_of_beq q) h4,λ_=>?_⟩;refine ak ?_;have hB:B=ll (bI m c) (lj 1 id dir last []):=hB0;rw [GY] at hB;have hpt:=Kc m c (lj 1 id dir last []) hg (hfine)
      by_cases hz:xi m (lj 1 id dir last [])=0
      ·rw [if_pos hz] at hB hpt;subst hB;refine eJ ?_;rw [hz];exact fM
      ·rw [if_neg hz] at hB hpt;subst hB;refine eJ ?_;exact fM
  ·rw [if_pos h3] at hB0;refine bn Tryz.func80 ?_
   conv=>whnf
   refine fu h1 ?_
   conv=>whnf
   refine fu h1b ?_;refine ak ?_;refine ⟨λ_=>?_,λq=>absurd (by simpa using q) h3⟩;have hB:B=(bI m c,e):=hB0;subst hB;exact fM
 ·rw [if_pos h2] at hB0;refine bn Tryz.func80 ?_
  conv=>whnf
  refine fu h1 ?_
  conv=>whnf
  refine fu h1b ?_;refine ak ?_;refine ⟨λ_=>?_,λq=>absurd (by simpa using q) h2⟩;have hB:B=(bI m c,e0):=hB0;subst hB;exact fM
theorem ahN (m:bM) (c:bu) (hg:iy m.aA) (hp:c.bY.length<=1048576):bz Tryz.prog 81 [.ar 10 0] (aD (nQ m c)) 11
  (cG 11 (λr es=>r= .cE (.aa .i64 (uj (bI m c)).2)/\es=qO (uj (bI m c)).1)):=by
 have hiN:=B4 hg;have hlN:=Er hg;have hat:=En m.aA.aQ.bZ m.aA.aQ.ab hiN hlN c.bY hp;have hti:=Ep hiN c.bY;have hsp:=DC c.bY hp;have hps:=λns (e:ir c.bY=some ns)=>by have:=vb (p:=c.bY);rw [e] at this;exact this
 have hsm:=λns (e:ir c.bY=some ns)=>Us e
 have hB0:uj (bI m c)=if c.bY=[47] then (bI m c,194) else if (gx m.aA.aQ.ab c.bY).2≠0 then (bI m c,(gx m.aA.aQ.ab c.bY).2) else
   match ir c.bY with|none=>(bI m c,194)|some []=>(bI m c,194)|some (s::r)=>ll (bI m c) (lj 1 (gx m.aA.aQ.ab c.bY).1 2 ((s::r).getLast (by simp)) []):=rfl
 generalize uj (bI m c)=B at*;generalize gx m.aA.aQ.ab c.bY=T at*;generalize ir c.bY=ps at*;obtain ⟨id,e0⟩:=T;dsimp only at*;refine bz.na 10 ?_
 by_cases h1:c.bY=[47]
 ·have h1':=h1;refine bz.sc dW jd (fn:=Tryz.f81) aG rfl aG rfl rfl ?_
  conv=>whnf
  refine ⟨λ_=>?_,λq=>absurd (of_decide_eq_false q) (λq=>q h1)⟩;have hB:B=(bI m c,194):=by rw [hB0,if_pos h1]
  subst hB;exact fM
 rw [if_neg h1] at hB0
 by_cases h2:e0=0
 ·subst h2;rw [if_neg (show ¬((0:Int)≠0) by decide)] at hB0;cases ps with
  |none=>
   refine bn Tryz.func81 ?_
   conv=>whnf
   refine fu h1 ?_;refine ak ?_;have hB:B=(bI m c,194):=hB0;subst hB;exact fM
  |some ns=>
   have h16:ns.length<=16:=hps ns rfl;have hsm:=hsm ns rfl;cases ns with
   |nil=>
    refine bn Tryz.func81 ?_
    conv=>whnf
    refine fu h1 ?_;refine ak ?_;have hB:B=(bI m c,194):=hB0;subst hB;exact fM
   |cons a r=>
    have hle:(fN (a::r)).length=r.length+1:=by rw [wS];rfl
    have hgl:(fN (a::r))[r.length]? =some [.ai ((a::r).getLast (by simp))]:=by
     have:(a::r)[r.length]? =some ((a::r).getLast (by simp)):=by
      grind
     show ((a::r).map _)[r.length]? =_;grind
    have hlal:=hsm _ (List.getLast_mem (show a::r≠[] by simp));have w2:IntKind.i64.wrap (((fN (a::r)).length:Int) - 1)=(r.length:Int):=by
     grind [bj]
    dsimp only at hB0;generalize (a::r).getLast (by simp)=la at*;have hfine:lZ (lj 1 id 2 la []):=⟨hti,by show dX 2;unfold dX;decide,Nat.le_trans hlal hp,Nat.zero_le _⟩;refine bn Tryz.func81 ?_
    conv=>whnf
    refine fu h1 ?_;refine cC ?_;rw [w2];refine ⟨_,⟨om,by trivial⟩,?_⟩;have hB:B=ll (bI m c) (lj 1 id 2 la []):=hB0;rw [GY] at hB;have hpt:=Kc m c (lj 1 id 2 la []) hg (hfine)
    by_cases hz:xi m (lj 1 id 2 la [])=0
    ·rw [if_pos hz] at hB hpt;subst hB;refine eJ ?_;rw [hz];exact fM
    ·rw [if_neg hz] at hB hpt;subst hB;refine eJ ?_;exact fM
 ·rw [if_pos h2] at hB0;refine bn Tryz.func81 ?_
  conv=>whnf
  refine fu h1 ?_;refine ak ?_;refine ⟨λ_=>?_,λq=>absurd (by simpa using q) h2⟩;have hB:B=(bI m c,e0):=hB0;subst hB;exact fM
theorem W7 (nil:Bool) (l:List aI) (id:Int) (hi:∀ n∈l,dX n.bc) (hl:l.length<=1048576):
  aC Tryz.prog 12 [.ag nil 8 (cT l) .av, .aa .i64 id] (.aw [.aK (iF ((if fH l=true then iD l id else none).getD FZ)), .aE (if fH l=true then iD l id else none).isSome]):=by
 have hck:=Bw nil l hi hl;have hpl:=Jk nil l id hl;refine bK Tryz.func12 ?_;refine ak ?_;cases hc:fH l with
 |false=>
  exact bm
 |true=>
  have hhd:=zB l id;rw [if_pos rfl];refine ak ?_;refine bz.eV (hpl hc) rfl ?_;cases hfd:iD l id with
  |none=>
   rw [hfd] at hhd;rw [hhd];exact bm
  |some nd=>
   obtain ⟨_,_,hp,hnd⟩:=yf hfd;have hg:=ym hp;rw [hnd] at hg;rw [hfd,Option.isSome_some] at hhd;rw [hhd];exact bm
structure Et (l:List aI):Prop where
 vK:l.length<=200
 rO:∀ n∈l,dX n.bc
 B5:∀ n∈l,n.fm.length<=1000
theorem Et.Ke {l:List aI} (h:Et l):l.length<=1048576:=Nat.le_trans h.vK dd
theorem ahR {N:Nat} {l:List aI} (h:∀ n∈l,n.fm.length<=N) (o:aH) (ho:o.j4.length<=N):∀ n∈jm l o,n.fm.length<=N:=by
 intro n hn;rcases I4 hn with h1|⟨_,h1,_⟩
 ·exact h n h1
 ·rw [h1];have hb:((iD l o.aY).getD (yg o.aY)).fm.length<=N:=by
   cases hf:iD l o.aY with
   |none=>exact Nat.zero_le _
   |some y=>exact h y (yf hf).1
  grind [pf]
theorem ahQ {es:List iG} {l:List aI} (h:mE es l) (hm:∀ e∈es,cJ e.cF=true):∀ n∈l,n.fm.length<=1000:=by
 induction h with
 |zS=>trivial
 |zT h o ih=>
  exact ahR (ih (λe he=>hm e (List.mem_append_left _ he))) o (Nat.le_trans (NV (hm _ (List.mem_append_right _ (List.mem_singleton.2 rfl)))).1 dd)
theorem vL {g:eh} (h:iy g):Et g.aQ.ab:=⟨h.BP,B4 h,ahQ h.xc h.xd⟩
structure py (m:bM):Prop where
 nR:iy m.aA
 W8:-1000000000<=m.fz/\m.fz<=1000000000
 Kd:m.dO.ab.length<=1000
 ahP:∀ s∈m.dO.ab,Et s.DT.ab
 GZ:m.de.ab.length<=1000
 W9:∀ w∈m.de.ab,w.l8.oB.ab.length<=1000
theorem Xa {m:bM} (h:py m) {k:Int} {s:cj aI} (hs:sH m k=some s):Et s.ab:=by
 unfold sH at hs;split at hs
 ·cases hs;exact vL h.nR
 ·cases hf:m.dO.ab.find? λs=>decide (s.iI=k) with
  |none=>simp_all
  |some x=>rw [hf] at hs;cases hs;exact h.ahP x (List.mem_of_find?_eq_some hf)
def ahT:Option (cj aI)->ae
 |none=> .aw [.ag true 1 [] .bR, .aa .i64 191]
 |some s=> .aw [cv 8 iF s, .aa .i64 0]
theorem Xb (m:bM) (c:bu) (k:Int) (hl:m.dO.ab.length<=1000):bz Tryz.prog 138 [.ar 10 0, .aa .i64 k] (aD (nQ m c)) 11 (cG 11 (λr es=>r= .cE (ahT (sH m k))/\es=nQ m c)):=by
 have hel:(m.dO.ab.map iJ).length=m.dO.ab.length:=List.length_map _;unfold sH
 by_cases h0:k=0
 ·subst h0;rw [if_pos rfl];refine bn Tryz.func138 ?_;refine ak ?_;exact ⟨_,_,⟨rfl,rfl⟩,rfl,⟨rfl,rfl⟩,⟨rfl,rfl,trivial⟩⟩
 ·rw [if_neg h0];refine bn Tryz.func138 ?_
  conv=>whnf
  refine ⟨λq=>absurd (eq_of_beq q) h0,λ_=>?_⟩
  conv=>whnf
  refine db.cK (λj:Nat=>[(.af 10, .au 117 (Eo m c [] oH 0 oH oH)),(.aj 1, .ah (.aa .i64 k)),(.aj 20, .ah (cv 2 iJ m.dO)),(.aj 21, .ah (.aa .i64 m.dO.ab.length)),(.aj 22, .ah (.aa .i64 j))]) 11
   (λj=>j<=m.dO.ab.length/\∀ s∈m.dO.ab.take j,decide (s.iI=k)=false) (λj=>m.dO.ab.length - j) dd 0 ⟨Nat.zero_le _,λs hs=>by cases hs⟩ ⟨rfl,rfl,rfl,rfl,rfl,rfl,?_,rfl,rfl,rfl,trivial⟩ ?_
  ·show bs.ah (ae.aa .i64 ((m.dO.ab.map iJ).length:Nat))=_;rw [hel]
  rintro j ⟨hj,hno⟩;refine cn ?_;refine ⟨λh=>?_,λh=>?_⟩
  ·have h:=of_decide_eq_true h;have hlt:j<m.dO.ab.length:=om;have hg:=lN iJ hlt;have w1:IntKind.i64.wrap ((j:Int)+1)=((j+1:Nat):Int):=by grind [bj]
   by_cases hk:m.dO.ab[j].iI=k
   ·have hf:=GD (p:=λs:jC=>decide (s.iI=k)) hlt hno (decide_eq_true hk);rw [hf];generalize m.dO.ab[j]=s at*;refine ak ?_;refine ⟨λ_=>?_,λq=>absurd hk (by simpa using q)⟩
    conv=>whnf
    exact ⟨_,_,⟨rfl,rfl⟩,rfl,⟨rfl,rfl⟩,⟨rfl,rfl,trivial⟩⟩
   ·have hno2:=NF (p:=λs:jC=>decide (s.iI=k)) hlt hno (decide_eq_false hk);generalize m.dO.ab[j]=s at*;refine ak ?_;refine ⟨λq=>absurd (eq_of_beq q) hk,λ_=>?_⟩
    conv=>whnf
    refine ⟨j+1,⟨om,hno2⟩,by grind,rfl,rfl,rfl,rfl,rfl,rfl,rfl,rfl,?_,rfl,trivial⟩;exact congrArg (λx=>bs.ah (ae.aa .i64 x)) w1
  ·have h:=of_decide_eq_false h;have hjl:j=m.dO.ab.length:=om;subst hjl;rw [List.take_length] at hno;rw [GF hno]
   conv=>whnf
   exact ⟨_,_,⟨rfl,rfl⟩,rfl,⟨rfl,rfl⟩,⟨rfl,rfl,trivial⟩⟩
theorem ahU (m:bM) (c:bu) (hm:py m) (hp:c.bY.length<=1048576):bz Tryz.prog 79 [.ar 10 0] (aD (nQ m c)) 11
  (cG 11 (λr es=>r= .cE (.aa .i64 (ui (bI m c)).2)/\es=qO (ui (bI m c)).1)):=by
 have hnd:=Xb m c c.cR hm.Kd;have hok:=λs hs=>Xa hm (k:=c.cR) (s:=s) hs
 have hB0:ui (bI m c)=match sH m c.cR with
   |none=>(bI m c,191)
   |some l=>if (gx l.ab c.bY).2≠0 then (bI m c,(gx l.ab c.bY).2) else if fk (gx l.ab c.bY).1=true then (bI m c,82) else ({bI m c with gj:={fg 0 with DN:=(UP l.ab (gx l.ab c.bY).1).ov}},0):=rfl
 generalize ui (bI m c)=B at*;generalize sH m c.cR=S at*;refine bz.na 10 ?_;cases S with
 |none=>
  refine bn Tryz.func79 ?_;refine eJ ?_;have hB:B=(bI m c,191):=hB0;subst hB;exact fM
 |some s=>
  have hok:=hok s rfl;obtain ⟨sq,l⟩:=s;have hat:=En (cj.bZ ⟨sq,l⟩) l hok.rO hok.Ke c.bY hp;have hai:=Ep hok.rO c.bY;have hdi:=tS _ hai;dsimp only at hB0;generalize gx l c.bY=A at*;obtain ⟨id,e⟩:=A;dsimp only at*;have htf:=W7 (cj.bZ ⟨sq,l⟩) l id hok.rO hok.Ke
  by_cases h2:e=0
  ·subst h2;rw [if_neg (show ¬((0:Int)≠0) by decide)] at hB0;cases hdd:fk id with
   |true=>
    rw [hdd] at hdi;refine bn Tryz.func79 ?_;refine eJ ?_;have hB:B=(bI m c,82):=by simp_all
    subst hB;exact fM
   |false=>
    rw [if_neg (by rw [hdd];decide)] at hB0;rw [hdd] at hdi;refine bn Tryz.func79 ?_;refine eJ ?_;subst hB0;exact fM
  ·rw [if_pos h2] at hB0;refine bn Tryz.func79 ?_;refine eJ ?_;refine ⟨λ_=>?_,λq=>absurd (by simpa using q) h2⟩;have hB:B=(bI m c,e):=hB0;subst hB;exact fM
theorem ahS (m:bM) (c:bu) (hm:py m) (hp:c.bY.length<=1048576):bz Tryz.prog 82 [.ar 10 0] (aD (nQ m c)) 11
  (cG 11 (λr es=>r= .cE (.aa .i64 (uf (bI m c)).2)/\es=qO (uf (bI m c)).1)):=by
 have hnd:=Xb m c c.cR hm.Kd;have hok:=λs hs=>Xa hm (k:=c.cR) (s:=s) hs
 have hB0:uf (bI m c)=match sH m c.cR with
   |none=>(bI m c,191)
   |some l=>if (gx l.ab c.bY).2≠0 then (bI m c,(gx l.ab c.bY).2) else if fk (gx l.ab c.bY).1=false then (bI m c,81) else ({bI m c with gj:={fg 0 with kB:=⟨true,yj l.ab (gx l.ab c.bY).1⟩}},0):=rfl
 generalize uf (bI m c)=B at*;generalize sH m c.cR=S at*;refine bz.na 10 ?_;cases S with
 |none=>
  refine bn Tryz.func82 ?_;refine eJ ?_;have hB:B=(bI m c,191):=hB0;subst hB;exact fM
 |some s=>
  have hok:=hok s rfl;obtain ⟨sq,l⟩:=s;have hat:=En (cj.bZ ⟨sq,l⟩) l hok.rO hok.Ke c.bY hp;have hai:=Ep hok.rO c.bY;have hdi:=tS _ hai;dsimp only at hB0;generalize gx l c.bY=A at*;obtain ⟨id,e⟩:=A;dsimp only at*;have hvl:=aea (cj.bZ ⟨sq,l⟩) l id hok.rO hok.Ke (λn hn=>Nat.le_trans (hok.B5 n hn) dd);rw [show decide (yj l id=[])=(true && (yj l id).isEmpty) by grind] at hvl
  by_cases h2:e=0
  ·subst h2;rw [if_neg (show ¬((0:Int)≠0) by decide)] at hB0;cases hdd:fk id with
   |false=>
    rw [hdd] at hdi;refine bn Tryz.func82 ?_;refine eJ ?_;have hB:B=(bI m c,81):=by simp_all
    subst hB;exact fM
   |true=>
    rw [if_neg (by rw [hdd];decide)] at hB0;rw [hdd] at hdi;refine bn Tryz.func82 ?_;refine eJ ?_;subst hB0;exact fM
  ·rw [if_pos h2] at hB0;refine bn Tryz.func82 ?_;refine eJ ?_;refine ⟨λ_=>?_,λq=>absurd (by simpa using q) h2⟩;have hB:B=(bI m c,e):=hB0;subst hB;exact fM
theorem ahV (m:bM) (c:bu):bz Tryz.prog 87 [.ar 10 0] (aD (nQ m c)) 11 (cG 11 (λr es=>r= .cE (.aa .i64 0)/\es=qO (bI m c))):=by
 refine bz.na 10 ?_;refine bn Tryz.func87 ?_;exact fM
theorem Xd (l:List jC):fL (l.map iJ).flatten=true:=by
 induction l with
 |nil=>rfl
 |cons a l ih=>exact ih
theorem ahW (m:bM) (c:bu) (hm:py m):bz Tryz.prog 83 [.ar 10 0] (aD (nQ m c)) 11
  (cG 11 (λr es=>r= .cE (.aa .i64 (um (bI m c)).2)/\es=qO (um (bI m c)).1)):=by
 have hel:(m.dO.ab.map iJ).length=m.dO.ab.length:=List.length_map _;have hB0:um (bI m c)=if 8<=m.dO.ab.length then (bI m c,193) else ({bI m c with gj:={fg 0 with qF:=m.fz},bp:={m with dO:=m.dO.jg ⟨m.fz,m.aA.aQ⟩,fz:=m.fz+1}},0):=rfl
 have hcn:=U3 m.aA.aQ.bZ (m.aA.aQ.ab.map iF) (λh=>by rw [cj.wZ h];rfl) (by grind [Er,hm.nR]);have hnx:=hm.W8;have w1:IntKind.i64.wrap (m.fz+1)=m.fz+1:=bj om om;generalize um (bI m c)=B at*
 by_cases h8:8<=m.dO.ab.length
 ·refine bz.na 10 ?_;rw [if_pos h8] at hB0;subst hB0;refine bn Tryz.func83 ?_
  conv=>whnf
  refine C8 om ?_;exact fM
 ·rw [if_neg h8] at hB0;subst hB0;have hlt:¬(8:Int)<=((m.dO.ab.map iJ).length:Nat):=by rw [hel];omega
  obtain ⟨log,seen,replica,⟨sq,S⟩,watches,next⟩:=m;cases S with
  |nil=>
   refine bz.na 10 ?_;refine bz.J9 10 4 53 ?_;refine bz.zo ?_;refine bn Tryz.func83 ?_;refine cC ?_;refine ⟨0,_,_,_,rfl,(CN.AP hcn rfl).zi,rfl,?_⟩;refine ak ?_;refine ⟨0,_,_,_,rfl,mi.xR (U4 _) rfl,rfl,?_⟩
   conv=>whnf
   refine ⟨⟨rfl,by show 0<1;decide,dG (by simp_all) dd⟩,?_⟩;refine ak ?_;refine ⟨_,_,_,[iJ ⟨next,log.aQ⟩],_,_,rfl,rfl,rfl,rfl,λel hel=>by rw [List.mem_singleton] at hel;subst hel;rfl,rfl,?_⟩;refine ⟨_,_,_,rfl,rfl,?_,_,_,⟨rfl,rfl⟩,rfl,⟨rfl,rfl⟩,⟨rfl,rfl,trivial⟩⟩
   repeat (first|exact mO.fa|refine mO.aX (iL.bw _) ?_|refine mO.aX (iL.eR _ _ _) ?_|fail "end")
   refine mO.aX (iL.mj (congrArg (ae.aa .i64) w1)) ?_
   repeat (first|exact mO.fa|refine mO.aX (iL.bw _) ?_|refine mO.aX (iL.eR _ _ _) ?_|fail "end")
  |cons s r=>
   have hcs:nz Tryz.prog 142 [.ag (cj.bZ ⟨sq,s::r⟩) 2 ((s::r).map iJ) .av] 264 2 ((s::r).map iJ).length ((s::r).map iJ).flatten:=by
    grind [cj.bZ,U5]
   refine bz.na 10 ?_;refine bz.zo ?_;refine bn Tryz.func83 ?_
   conv=>whnf
   refine fu hlt ?_
   conv=>whnf
   refine ⟨0,_,_,_,rfl,(CN.AP hcn rfl).zi,rfl,?_⟩;refine ak ?_;refine ⟨0,_,_,_,rfl,mi.tF hcs rfl,rfl,?_⟩
   conv=>whnf
   refine ⟨(s::r).map iJ,⟨rfl,λel hel=>by obtain ⟨z,_,rfl⟩:=List.mem_map.1 hel;rfl,rfl,Xd _,dG (by grind) dd⟩,?_⟩;refine ak ?_;refine ⟨_,_,_,rfl,rfl,?_,_,_,⟨rfl,rfl⟩,rfl,⟨rfl,rfl⟩,⟨rfl,rfl,trivial⟩⟩
   repeat (first|exact mO.fa|refine mO.aX (iL.bw _) ?_|refine mO.aX (iL.eR _ _ _) ?_|fail "end")
   refine mO.aX (iL.mj (by show ae.ag false 2 ((s::r).map iJ++[iJ ⟨next,log.aQ⟩]) .av=ae.ag false 2 (((s::r)++[(⟨next,log.aQ⟩:jC)]).map iJ) .av;simp_all)) ?_
   repeat (first|exact mO.fa|refine mO.aX (iL.bw _) ?_|refine mO.aX (iL.eR _ _ _) ?_|fail "end")
   exact mO.aX (iL.mj (congrArg (ae.aa .i64) w1)) oT
theorem Xc {q:Bool} {sz:Nat} {els els':List (List ae)} (hl:els'.length=els.length) (h:∀ (i:Nat) (e e':List ae),els[i]? =some e->els'[i]? =some e'->mO e e'):iL (.ag q sz els .av) (.ag q sz els' .av):=⟨λw F v hx=>by
 cases hx with| @iK _ _ _ ad c vals hnil hc hsz ha hone hr=>
 have get:∀ (i:Nat) (e':List ae),els'[i]? =some e'->∃ e,els[i]? =some e/\mO e e':=λi e' he'=>by
  grind
 have get2:∀ (i:Nat) (e':List ae) (j:Nat) (x':ae),els'[i]? =some e'->e'[j]? =some x'->∃ e x,els[i]? =some e/\e[j]? =some x/\iL x x':=λi e' j x' he' hx'=>by
  obtain ⟨e,he,hs⟩:=get i e' he';have hj:j<e.length:=by grind [hs.v7]
  exact ⟨e,e[j],he,List.getElem?_eq_getElem hj,hs.CM j _ _ (List.getElem?_eq_getElem hj) hx'⟩
 rw [<-hl];refine .iK vals hnil (by rw [hl];exact hc) (λel hel=>?_) (λi e' j x' he' hx'=>?_) (λi e' j x' he' hx'=>?_) (λi e' j x' he' hx'=>?_)
 ·obtain ⟨i,hi,rfl⟩:=List.getElem_of_mem hel;obtain ⟨e,he,hs⟩:=get i _ (List.getElem?_eq_getElem hi);grind [hs.v7]
 ·obtain ⟨e,x,he,hx,_⟩:=get2 i e' j x' he' hx';exact ha i e j x he hx
 ·grind
 ·obtain ⟨e,x,he,hx,hs⟩:=get2 i e' j x' he' hx';exact hs.pH _ _ _ (hr i e j x he hx)⟩
theorem Kf (l:List fQ):fL (l.map ej).flatten=true:=by
 induction l with
 |nil=>rfl
 |cons a l ih=>exact ih
def ON (next id:Int):List ae:=[.aa .i64 next, .aa .i64 id, .ag true 1 [] .av, .aE false]
theorem ahX (next id:Int):mO (ON next id) (ej ⟨next,id,⟨.dE,false⟩⟩):= .aX (.bw _) (.aX (.bw _) (.aX (.eR _ _ _) (.aX (.bw _) .fa)))
theorem Xe (l:List fQ) (next id:Int):iL (.ag false 4 (l.map ej++[ON next id]) .av) (.ag false 4 ((l++[(⟨next,id,⟨.dE,false⟩⟩:fQ)]).map ej) .av):=by
 grind [Xc,mO.E5,ahX]
theorem ahY (m:bM) (c:bu) (hm:py m) (hp:c.bY.length<=1048576):bz Tryz.prog 85 [.ar 10 0] (aD (nQ m c)) 11
  (cG 11 (λr es=>r= .cE (.aa .i64 (uo (bI m c)).2)/\es=qO (uo (bI m c)).1)):=by
 have hel:(m.de.ab.map ej).length=m.de.ab.length:=List.length_map _;have hiN:=B4 hm.nR;have hlN:=Er hm.nR;have hat:=En m.aA.aQ.bZ m.aA.aQ.ab hiN hlN c.bY hp;have hai:=Ep hiN c.bY;have hdi:=tS _ hai;have hB0:uo (bI m c)=if (gx m.aA.aQ.ab c.bY).2≠0 then (bI m c,(gx m.aA.aQ.ab c.bY).2) else if fk (gx m.aA.aQ.ab c.bY).1=false then (bI m c,81) else if 8<=m.de.ab.length then (bI m c,193)
  else ({bI m c with gj:={fg 0 with qF:=m.fz},bp:={m with de:=m.de.jg ⟨m.fz,(gx m.aA.aQ.ab c.bY).1,⟨.dE,false⟩⟩,fz:=m.fz+1}},0):=rfl
 have hnx:=hm.W8;have w1:IntKind.i64.wrap (m.fz+1)=m.fz+1:=bj om om;generalize uo (bI m c)=B at*;generalize gx m.aA.aQ.ab c.bY=A at*;obtain ⟨id,e⟩:=A;dsimp only at*
 by_cases h2:e=0
 ·subst h2;rw [if_neg (show ¬((0:Int)≠0) by decide)] at hB0;cases hdd:fk id with
  |false=>
   refine bz.na 10 ?_;rw [if_pos hdd] at hB0;rw [hdd] at hdi;subst hB0;refine bn Tryz.func85 ?_;refine ak ?_;exact fM
  |true=>
   rw [if_neg (by rw [hdd];decide)] at hB0;rw [hdd] at hdi
   by_cases h8:8<=m.de.ab.length
   ·refine bz.na 10 ?_;rw [if_pos h8] at hB0;subst hB0;refine bn Tryz.func85 ?_;refine ak ?_;refine C8 om ?_;exact fM
   ·rw [if_neg h8] at hB0;subst hB0;have hlt:¬(8:Int)<=((m.de.ab.map ej).length:Nat):=by rw [hel];omega
    obtain ⟨log,seen,replica,snaps,⟨wq,W⟩,next⟩:=m;cases W with
    |nil=>
     refine bz.na 10 ?_;refine bz.J9 10 5 65 ?_;refine bz.zo ?_;refine bn Tryz.func85 ?_
     conv=>whnf
     refine ⟨0,_,_,_,rfl,(CN.AP hat rfl).zi,rfl,?_⟩;refine cC ?_;refine ⟨0,_,_,_,rfl,mi.xR (U6 _) rfl,rfl,?_⟩
     conv=>whnf
     refine ⟨⟨rfl,by show 0<1;decide,dG (by simp_all) dd⟩,?_⟩;refine ak ?_;refine ⟨_,_,_,[ON next id],_,_,rfl,rfl,rfl,rfl,λel hel=>by rw [List.mem_singleton] at hel;subst hel;rfl,rfl,?_⟩;refine ⟨_,_,_,rfl,rfl,?_,_,_,⟨rfl,rfl⟩,rfl,⟨rfl,rfl⟩,⟨rfl,rfl,trivial⟩⟩
     repeat (first|exact mO.fa|refine mO.aX (iL.bw _) ?_|refine mO.aX (iL.eR _ _ _) ?_|fail "end")
     refine mO.aX (Xe [] next id) ?_;exact mO.aX (iL.mj (congrArg (ae.aa .i64) w1)) oT
    |cons s r=>
     have hcs:nz Tryz.prog 89 [.ag (cj.bZ ⟨wq,s::r⟩) 4 ((s::r).map ej) .av] 184 4 ((s::r).map ej).length ((s::r).map ej).flatten:=by
      grind [cj.bZ,JI]
     refine bz.na 10 ?_;refine bz.zo ?_;refine bn Tryz.func85 ?_
     conv=>whnf
     refine ⟨0,_,_,_,rfl,(CN.AP hat rfl).zi,rfl,?_⟩;refine ak ?_;refine fu hlt ?_
     conv=>whnf
     refine ⟨0,_,_,_,rfl,mi.tF hcs rfl,rfl,?_⟩
     conv=>whnf
     refine ⟨(s::r).map ej,⟨rfl,λel hel=>by obtain ⟨z,_,rfl⟩:=List.mem_map.1 hel;rfl,rfl,Kf _,dG (by grind) dd⟩,?_⟩;refine ak ?_;refine ⟨_,_,_,rfl,rfl,?_,_,_,⟨rfl,rfl⟩,rfl,⟨rfl,rfl⟩,⟨rfl,rfl,trivial⟩⟩
     repeat (first|exact mO.fa|refine mO.aX (iL.bw _) ?_|refine mO.aX (iL.eR _ _ _) ?_|fail "end")
     refine mO.aX (Xe (s::r) next id) ?_;exact mO.aX (iL.mj (congrArg (ae.aa .i64) w1)) oT
 ·refine bz.na 10 ?_;rw [if_pos h2] at hB0;subst hB0;refine bn Tryz.func85 ?_;refine ak ?_;refine ⟨λ_=>?_,λq=>absurd (by simpa using q) h2⟩;exact fM
def B6 (f:fQ->fQ) (l:List fQ) (k:Nat):List fQ:=(l.take k).map f++l.drop k
theorem Eu {M cs:List ae} {o sz:Nat} (h:(M.drop o).take sz=cs) (i j:Nat) (hj:i+j<=sz):(M.drop (o+i)).take j=(cs.drop i).take j:=by
 grind [List.drop_take,List.drop_drop]
theorem Xf {M cs:List ae} {o sz:Nat} (h:(M.drop o).take sz=cs) (i:Nat) (hi:i<sz):M[o+i]? =cs[i]?:=by
 grind
theorem ahZ (d:dj) (q1:Bool) (was:List aI) (hw:Et was) (hn:Et d.bp.aA.aQ.ab) (hl:d.bp.de.ab.length<=1000) (hq:∀ w∈d.bp.de.ab,w.l8.oB.ab.length<=1000)
  (hev:∀ w∈d.bp.de.ab,(vj (eL was w.kC) (eL d.bp.aA.aQ.ab w.kC)).length<=100000):
  bz Tryz.prog 41 [.ar 10 0, .ag q1 8 (cT was) .av] (aD (qO d)) 11 (cG 11 (λr es=>r= .cE (.aw [])/\es=qO (DU d was))):=by
 have hel:(d.bp.de.ab.map ej).length=d.bp.de.ab.length:=List.length_map _;have hdf:=λdir=>aeC q1 d.bp.aA.aQ.bZ was d.bp.aA.aQ.ab dir hw.rO hn.rO (Nat.le_trans hw.vK dd) (Nat.le_trans hn.vK dd) hw.B5 hn.B5
 unfold DU;obtain ⟨⟨log,seen,replica,snaps,⟨wq,W⟩,next⟩,a,c,ops⟩:=d;dsimp only at*;cases W with
 |nil=>
  have hc:=aeM (cj.bZ ⟨wq,([]:List fQ)⟩) [] (λ_=>rfl) dd;refine bn Tryz.func41 ?_;refine ak ?_;refine db.cK (X:=Unit) (λ_=>[(.af 10, .au 117 (NB ⟨⟨log,seen,replica,snaps,⟨wq,[]⟩,next⟩,a,c,ops⟩)),(.aj 21, .ah (.aa .i64 0)),(.aj 22, .ah (.aa .i64 0))]) 11 (λ_=>True) (λ_=>0) dd () trivial ⟨rfl,rfl,rfl,rfl,rfl,rfl,trivial⟩ ?_;rintro ⟨⟩ _;refine cn ?_;refine ak ?_;exact ⟨_,_,⟨rfl,rfl⟩,rfl,⟨rfl,rfl⟩,⟨rfl,rfl,trivial⟩⟩
 |cons s r=>
  have hcs:nz Tryz.prog 89 [.ag (cj.bZ ⟨wq,s::r⟩) 4 ((s::r).map ej) .av] 184 4 ((s::r).map ej).length ((s::r).map ej).flatten:=by
   grind [cj.bZ,JI]
  refine bz.na 10 ?_;refine bz.J9 10 5 17 ?_;refine bn Tryz.func41 ?_
  conv=>whnf
  refine bz.xP hcs rfl ?_
  conv=>whnf
  have hW:(s::r).length<=1000:=hl;generalize hWW:s::r=W at*;clear hcs;refine db.cK (λk:Nat=>[(.aj 0, .ah (.ar 10 0)),(.aj 1, .ah (.ag q1 8 (cT was) .av)),(.af 10, .au 117 ((NB ⟨⟨log,seen,replica,snaps,⟨wq,W⟩,next⟩,a,c,ops⟩).set 5 (.aL 17 0 4 (W.map ej).length true))),
   (.af 17, .aR 184 (((B6 (nL was log.aQ.ab) W k).map ej).flatten)),(.aj 21, .ah (.aa .i64 W.length)),(.aj 22, .ah (.aa .i64 k))]) 18
   (λk=>k<=W.length) (λk=>W.length - k) dd 0 (Nat.zero_le _) ⟨rfl,rfl,rfl,rfl,rfl,rfl,rfl,rfl,?_,rfl,rfl,rfl,trivial⟩ ?_
  ·show bs.ah (ae.aa .i64 ((W.map ej).length:Nat))=_;rw [hel]
  intro k hk;refine cn ?_;refine ⟨λh=>?_,λh=>?_⟩
  ·have h:=of_decide_eq_true h;have hlt:k<W.length:=om;have w1:IntKind.i64.wrap ((k:Int)+1)=((k+1:Nat):Int):=by grind [bj]
   have o1:0+(k:Int).toNat*4=k*4:=om;have hWd:=List.drop_eq_getElem_cons hlt;have hxm:W[k]∈W:=List.getElem_mem hlt;have hT0:B6 (nL was log.aQ.ab) W k=(W.take k).map (nL was log.aQ.ab)++W[k]::W.drop (k+1):=by grind [B6]
   have hnext:B6 (nL was log.aQ.ab) W (k+1)=(W.take k).map (nL was log.aQ.ab)++nL was log.aQ.ab W[k]::W.drop (k+1):=by
    grind [B6]
   rw [hT0];generalize hx:W[k]=x at*;have hll:((W.take k).map (nL was log.aQ.ab)).length=k:=by simp_all
   have hput:=ae8 x.l8 (decide (vj (eL was x.kC) (eL log.aQ.ab x.kC)=[])) (vj (eL was x.kC) (eL log.aQ.ab x.kC)) (Nat.le_trans (hq x hxm) dd) (hev x hxm);have hset:=DZ (enc:=ej) (sz:=4) (λ_=>rfl) ((W.take k).map (nL was log.aQ.ab)) (W.drop (k+1)) x (nL was log.aQ.ab x);have hlk:k<((W.take k).map (nL was log.aQ.ab)++x::W.drop (k+1)).length:=by simp_all
   have hgk:((W.take k).map (nL was log.aQ.ab)++x::W.drop (k+1))[k]=x:=by
    simp_all
   have hL:=vA (enc:=ej) (sz:=4) (λ_=>rfl) hlk;have hR:=BK (enc:=ej) (sz:=4) (λ_=>rfl) hlk;rw [hgk] at hL;rw [hll] at hset;generalize (((W.take k).map (nL was log.aQ.ab)++x::W.drop (k+1)).map ej).flatten=M at*;have hQ:=Eu hL 2 2 dd;have hN:=Eu hL 0 2 dd;have hD:=Xf hL 1 dd;rw [Nat.add_zero] at hN;have hset:M.take (k*4+2)++DX (DR x.l8 (vj (eL was x.kC) (eL log.aQ.ab x.kC)))++M.drop (k*4+2+2)=(((W.take k).map (nL was log.aQ.ab)++nL was log.aQ.ab x::W.drop (k+1)).map ej).flatten:=by
    rw [List.take_add,hN,<-hset];simp only [List.append_assoc];rfl
   have hcl:(W.map ej).length=W.length:=List.length_map _
   conv=>whnf
   refine ⟨⟨om,om⟩,?_⟩
   conv=>whnf
   rw [o1];refine ak ?_;refine ⟨_,hD,?_⟩
   conv=>whnf
   refine ⟨_,rfl,hdf x.kC,?_⟩
   conv=>whnf
   refine ⟨_,rfl,hput,?_⟩
   conv=>whnf
   refine ⟨om,?_⟩
   conv=>whnf
   refine ⟨aG,?_⟩
   conv=>whnf
   refine ⟨k+1,om,by grind,rfl,rfl,rfl,rfl,rfl,rfl,?_,rfl,rfl,rfl,?_,rfl,trivial⟩
   ·rw [hnext];exact congrArg (bs.aR _) hset
   ·exact congrArg (λx=>bs.ah (ae.aa .i64 x)) w1
  ·have h:=of_decide_eq_false h;have hkW:k=W.length:=om;subst hkW;have hT:B6 (nL was log.aQ.ab) W W.length=W.map (nL was log.aQ.ab):=by grind [B6]
   rw [hT]
   conv=>whnf
   refine ⟨_,_,_,(W.map (nL was log.aQ.ab)).map ej,4,_,rfl,rfl,rfl,by simp_all,λel hel=>by obtain ⟨z,_,rfl⟩:=List.mem_map.1 hel;rfl,Kf _,?_⟩;refine ⟨_,_,_,rfl,rfl,?_,_,_,⟨rfl,rfl⟩,rfl,⟨rfl,rfl⟩,⟨rfl,rfl,trivial⟩⟩
   repeat (first|exact mO.fa|refine mO.aX (iL.bw _) ?_|refine mO.aX (iL.eR _ _ _) ?_|fail "end")
   refine mO.aX (iL.mj (by rw [<-hWW];exact (sQ 4 ej wq _ _).symm)) ?_
   repeat (first|exact mO.fa|refine mO.aX (iL.bw _) ?_|refine SubL.cons (SubV.nil _ _ _) ?_|fail "end")
end Go.Proofs.YtffboamedcmpaaaGreatDoor
namespace Go.Am
section
variable {P:Program} {σ:az} {n:Nat}
theorem db.OO {r:Option Nat} {nt lo:Nat} {c:Code} {K:Exit->az->Nat->Prop} (k j id:Nat) (els:List (List ae)) {bt mt:TypeId} {cells cells':List ae} {sz len:Nat} {mc:List ae} (q1:σ (.af k)= .au bt cells) (q2:cells[j]? =some (.aL id 0 sz len true)) (q3:σ (.af id)= .aR mt mc) (hmc:mc=els.flatten) (q4:els.length=len)
  (q5:∀ el∈els,el.length=sz) (q6:fL els.flatten=true) (hc:cells.set j (.ag false sz els .av)=cells') (h:db P r nt lo c (aU (aU σ (.af id) .bq) (.af k) (.au bt cells')) (n+1) K):db P r nt lo c σ n K:=by
 subst hc hmc;refine ⟨λb t a w hl hsim=>h.jG b t a w hl ?_⟩;obtain ⟨g,hh,hf,hE,hn⟩:=hsim;obtain ⟨c',hc',_⟩:=hh.dq k (by rw [q1];rfl);obtain ⟨arr,ha1,ha2,ha3⟩:=hh.nS k bt _ c' q1 hc';have hjl:j<cells.length:=(List.getElem?_eq_some_iff.1 q2).1;have hja:arr[j]? =some arr[j]:=List.getElem?_eq_getElem om;obtain ⟨g2,h1,h2,h3,h4⟩:=hh.WR id els q3 q4 q5 q6 (ha3 j _ _ q2 hja);have hki:k≠id:=λe=>by subst e;rw [q1] at q3;cases q3
 have q1':(aU σ (.af id) .bq) (.af k)= .au bt cells:=by rw [cL (by intro e;cases e;exact hki rfl)];exact q1
 obtain ⟨c2,hc2,_⟩:=h1.dq k (by rw [q1'];rfl);have hcc:c2=c':=by rw [h3,hc'] at hc2;cases hc2;rfl
 subst hcc;refine ⟨g2,?_,⟨hf.mN,hf.nW,λi hi=>?_⟩,hE.gD h2,om⟩
 ·refine (h1.j8 (X:= .au bt (cells.set j (.ag false sz els .av))) (by rw [q1'];rfl) hc2 (kj.xS c2 w) (λ_=>⟨arr,ha1,by rw [List.length_set];exact ha2,λi y u hy hu=>?_⟩)).1
  by_cases hij:i=j
  ·subst hij;rw [List.getElem?_set_self hjl] at hy;cases hy;exact h4 u (ha3 i _ u q2 hu)
  ·rw [List.getElem?_set_ne (λe=>hij e.symm)] at hy;exact (ha3 i y u hy hu).kG h2
 ·have e1:dV (aU (aU σ (.af id) .bq) (.af k) (.au bt (cells.set j (.ag false sz els .av)))) i=dV σ i:=by
   unfold dV;rw [cL (by intro e;cases e),cL (by intro e;cases e)]
  rw [e1];exact (hf.kI i hi).kG h2
end
end Go.Am
namespace Go.Proofs.YtffboamedcmpaaaGreatDoor
open Gw
open Go.Am
def iQ (m:bM) (c:bu) (sv:cj jC) (wv:cj fQ):List ae:=[cv 17 dY m.aA.b8,cv 8 iF m.aA.aQ, .aa .i64 m.eC, .aa .i64 m.iH,cv 2 iJ sv,cv 4 ej wv, .aa .i64 m.fz,
 .aa .i64 0, .ai [],oH, .aa .i64 0,oH, .aa .i64 c.dD, .ai c.bY, .ai c.fO, .ai c.ia, .aa .i64 c.cR,oH]
theorem ah5 (m:bM) (c:bu) (sv:cj jC) (wv:cj fQ) (nil:Bool) (l:List jC) (hl:l.length<=1048576):bz Tryz.prog 211 [.ag nil 2 (l.map iJ) .av, .aP 143 [] [.ar 11 0]] (aD [(.af 10, .au 117 (iQ m c sv wv)),(.af 11, .au 115 [.ar 10 0])]) 12 (cG 12 (λx es=>x= .cE (.aa .i64 (fR (λs=>decide (s.iI=c.cR)) l))/\es=[(.af 10, .au 117 (iQ m c sv wv)),(.af 11, .au 115 [.ar 10 0])])):=qK Tryz.func211 Tryz.func143 hl
theorem ah4 (m:bM) (c:bu) (sv:cj jC) (wv:cj fQ) (nil:Bool) (l:List jC) (hl:l.length<=1048576):bz Tryz.prog 145 [.ag nil 2 (l.map iJ) .av, .aP 143 [] [.ar 11 0]] (aD [(.af 10, .au 117 (iQ m c sv wv)),(.af 11, .au 115 [.ar 10 0])]) 12 (cG 12 (λx es=>x= .cE (.aE (l.any (λs=>decide (s.iI=c.cR))))/\es=[(.af 10, .au 117 (iQ m c sv wv)),(.af 11, .au 115 [.ar 10 0])])):=GG Tryz.func145 (ah5 m c sv wv nil l hl)
theorem ah3 (m:bM) (c:bu) (sv:cj jC) (wv:cj fQ) (nil:Bool) (l:List jC) (hl:l.length<=1048576):bz Tryz.prog 211 [.ag nil 2 (l.map iJ) .bR, .aP 143 [] [.ar 11 0]] (aD [(.af 10, .au 117 (iQ m c sv wv)),(.af 11, .au 115 [.ar 10 0])]) 12 (cG 12 (λx es=>x= .cE (.aa .i64 (fR (λs=>decide (s.iI=c.cR)) l))/\es=[(.af 10, .au 117 (iQ m c sv wv)),(.af 11, .au 115 [.ar 10 0])])):=qK Tryz.func211 Tryz.func143 hl
theorem ah9 (m:bM) (c:bu) (sv:cj jC) (wv:cj fQ) (nil:Bool) (l:List fQ) (hl:l.length<=1048576):bz Tryz.prog 149 [.ag nil 4 (l.map ej) .av, .aP 144 [] [.ar 11 0]] (aD [(.af 10, .au 117 (iQ m c sv wv)),(.af 11, .au 115 [.ar 10 0])]) 12 (cG 12 (λx es=>x= .cE (.aa .i64 (fR (λs=>decide (s.ic=c.cR)) l))/\es=[(.af 10, .au 117 (iQ m c sv wv)),(.af 11, .au 115 [.ar 10 0])])):=qK Tryz.func149 Tryz.func144 hl
theorem ah8 (m:bM) (c:bu) (sv:cj jC) (wv:cj fQ) (nil:Bool) (l:List fQ) (hl:l.length<=1048576):bz Tryz.prog 146 [.ag nil 4 (l.map ej) .av, .aP 144 [] [.ar 11 0]] (aD [(.af 10, .au 117 (iQ m c sv wv)),(.af 11, .au 115 [.ar 10 0])]) 12 (cG 12 (λx es=>x= .cE (.aE (l.any (λs=>decide (s.ic=c.cR))))/\es=[(.af 10, .au 117 (iQ m c sv wv)),(.af 11, .au 115 [.ar 10 0])])):=GG Tryz.func146 (ah9 m c sv wv nil l hl)
theorem ah7 (m:bM) (c:bu) (sv:cj jC) (wv:cj fQ) (nil:Bool) (l:List fQ) (hl:l.length<=1048576):bz Tryz.prog 149 [.ag nil 4 (l.map ej) .bR, .aP 144 [] [.ar 11 0]] (aD [(.af 10, .au 117 (iQ m c sv wv)),(.af 11, .au 115 [.ar 10 0])]) 12 (cG 12 (λx es=>x= .cE (.aa .i64 (fR (λs=>decide (s.ic=c.cR)) l))/\es=[(.af 10, .au 117 (iQ m c sv wv)),(.af 11, .au 115 [.ar 10 0])])):=qK Tryz.func149 Tryz.func144 hl
theorem aic (m:bM) (c:bu) (sv:cj jC) (wv:cj fQ) (nil:Bool) (l:List fQ) (hl:l.length<=1048576):bz Tryz.prog 149 [.ag nil 4 (l.map ej) .av, .aP 150 [] [.ar 11 0]] (aD [(.af 10, .au 117 (iQ m c sv wv)),(.af 11, .au 115 [.ar 10 0])]) 12 (cG 12 (λx es=>x= .cE (.aa .i64 (fR (λs=>decide (s.ic=c.cR)) l))/\es=[(.af 10, .au 117 (iQ m c sv wv)),(.af 11, .au 115 [.ar 10 0])])):=qK Tryz.func149 Tryz.func150 hl
theorem ah1 (m:bM) (c:bu) (sv:cj jC) (wv:cj fQ) (full:Bool) (l pad:List jC) (hl:l.length<=1048576):bz Tryz.prog 211 [.aL 18 0 2 l.length full, .aP 143 [] [.ar 11 0]] (aD [(.af 18, .aR 264 (((l++pad).map iJ).flatten)),(.af 10, .au 117 (iQ m c sv wv)),(.af 11, .au 115 [.ar 10 0])]) 19 (cG 19 (λx es=>x= .cE (.aa .i64 (fR (λs=>decide (s.iI=c.cR)) l))/\es=[(.af 18, .aR 264 (((l++pad).map iJ).flatten)),(.af 10, .au 117 (iQ m c sv wv)),(.af 11, .au 115 [.ar 10 0])])):=zW Tryz.func211 Tryz.func143 hl
theorem ah0 (m:bM) (c:bu) (sv:cj jC) (wv:cj fQ) (full:Bool) (l:List jC) (hl:l.length<=1048576):bz Tryz.prog 147 [.aL 18 0 2 l.length full, .aP 143 [] [.ar 11 0]] (aD [(.af 18, .aR 264 (((l).map iJ).flatten)),(.af 10, .au 117 (iQ m c sv wv)),(.af 11, .au 115 [.ar 10 0])]) 19 (cG 19 (λx es=>x= .cE (.aL 18 0 2 (l.filter λa=>!(λs=>decide (s.iI=c.cR)) a).length full)/\es=[(.af 18, .aR 264 (((l.filter λa=>!(λs=>decide (s.iI=c.cR)) a).map iJ).flatten)),(.af 10, .au 117 (iQ m c sv wv)),(.af 11, .au 115 [.ar 10 0])])):=by
 have hi:=ah1 m c sv wv full l [] hl;rw [List.append_nil] at hi;exact GH Tryz.func147 Tryz.func143 hl hi
theorem aib (m:bM) (c:bu) (sv:cj jC) (wv:cj fQ) (full:Bool) (l pad:List fQ) (hl:l.length<=1048576):bz Tryz.prog 149 [.aL 18 0 4 l.length full, .aP 144 [] [.ar 11 0]] (aD [(.af 18, .aR 184 (((l++pad).map ej).flatten)),(.af 10, .au 117 (iQ m c sv wv)),(.af 11, .au 115 [.ar 10 0])]) 19 (cG 19 (λx es=>x= .cE (.aa .i64 (fR (λs=>decide (s.ic=c.cR)) l))/\es=[(.af 18, .aR 184 (((l++pad).map ej).flatten)),(.af 10, .au 117 (iQ m c sv wv)),(.af 11, .au 115 [.ar 10 0])])):=zW Tryz.func149 Tryz.func144 hl
theorem aia (m:bM) (c:bu) (sv:cj jC) (wv:cj fQ) (full:Bool) (l:List fQ) (hl:l.length<=1048576):bz Tryz.prog 148 [.aL 18 0 4 l.length full, .aP 144 [] [.ar 11 0]] (aD [(.af 18, .aR 184 (((l).map ej).flatten)),(.af 10, .au 117 (iQ m c sv wv)),(.af 11, .au 115 [.ar 10 0])]) 19 (cG 19 (λx es=>x= .cE (.aL 18 0 4 (l.filter λa=>!(λs=>decide (s.ic=c.cR)) a).length full)/\es=[(.af 18, .aR 184 (((l.filter λa=>!(λs=>decide (s.ic=c.cR)) a).map ej).flatten)),(.af 10, .au 117 (iQ m c sv wv)),(.af 11, .au 115 [.ar 10 0])])):=by
 have hi:=aib m c sv wv full l [] hl;rw [List.append_nil] at hi;exact GH Tryz.func148 Tryz.func144 hl hi
theorem ah2 (m:bM) (c:bu) (sv:cj jC) (wv:cj fQ) (q:Bool):bz Tryz.prog 147 [.ag q 2 [] .bR, .aP 143 [] [.ar 11 0]] (aD [(.af 10, .au 117 (iQ m c sv wv)),(.af 11, .au 115 [.ar 10 0])]) 12 (cG 12 (λx es=>x= .cE (.ag q 2 [] .bR)/\es=[(.af 10, .au 117 (iQ m c sv wv)),(.af 11, .au 115 [.ar 10 0])])):=by
 have hi:=ah3 m c sv wv q [] (Nat.zero_le _);refine bn Tryz.func147 ?_;refine mq ?_;rw [show fR (λs:jC=>decide (s.iI=c.cR)) []=-1 from rfl];refine cC ?_;exact ⟨_,_,⟨rfl,rfl⟩,rfl,⟨rfl,rfl⟩,rfl,rfl,rfl,rfl,trivial⟩
theorem ah6 (m:bM) (c:bu) (sv:cj jC) (wv:cj fQ) (q:Bool):bz Tryz.prog 148 [.ag q 4 [] .bR, .aP 144 [] [.ar 11 0]] (aD [(.af 10, .au 117 (iQ m c sv wv)),(.af 11, .au 115 [.ar 10 0])]) 12 (cG 12 (λx es=>x= .cE (.ag q 4 [] .bR)/\es=[(.af 10, .au 117 (iQ m c sv wv)),(.af 11, .au 115 [.ar 10 0])])):=by
 have hi:=ah7 m c sv wv q [] (Nat.zero_le _);refine bn Tryz.func148 ?_;refine mq ?_;rw [show fR (λs:fQ=>decide (s.ic=c.cR)) []=-1 from rfl];refine cC ?_;exact ⟨_,_,⟨rfl,rfl⟩,rfl,⟨rfl,rfl⟩,rfl,rfl,rfl,rfl,trivial⟩
end Go.Proofs.YtffboamedcmpaaaGreatDoor
