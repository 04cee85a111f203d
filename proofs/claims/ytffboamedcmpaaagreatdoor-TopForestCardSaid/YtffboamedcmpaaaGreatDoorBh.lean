import Derived.Test.YtffboamedcmpaaaGreatDoorBg
set_option linter.all false
set_option maxHeartbeats 4000000
set_option maxRecDepth 100000
namespace Go.Proofs.YtffboamedcmpaaaGreatDoor
open Gw
open Go.Am
def dX (x:Int):Prop:=-9223372036854775808<=x/\x<=9223372036854775807
def yq (s:iu):ae:= .aK [.aa .i64 s.dg, .aa .i64 s.dS]
theorem Dz (s:iu):aC Tryz.prog 68 [yq s] (.aE (j5 s)):=by
 obtain ⟨c,r⟩:=s;show aC Tryz.prog _ [.aK [.aa .i64 c, .aa .i64 r]] (.aE (decide (1<=c) && (decide (c<=1048576) && (decide (0<=r) && decide (r<=63)))));refine bK Tryz.func68 ?_
 conv=>whnf
 refine ⟨λh1=>?_,λh1=>?_⟩
 ·rw [h1]
  conv=>whnf
  refine ⟨λh2=>?_,λh2=>?_⟩
  ·rw [h2]
   conv=>whnf
   refine ⟨λh3=>?_,λh3=>?_⟩
   ·rw [h3];exact bm
   ·rw [h3];exact bm
  ·rw [h2];exact bm
 ·rw [h1];exact bm
theorem MU (a b:iu):aC Tryz.prog 97 [yq a,yq b] (.aE (jQ a b)):=by
 obtain ⟨c,r⟩:=a;obtain ⟨d,q⟩:=b;show aC Tryz.prog _ [.aK [.aa .i64 c, .aa .i64 r], .aK [.aa .i64 d, .aa .i64 q]] (.aE (decide (c<d)||(decide (c=d) && decide (r<q))));refine bK Tryz.func97 ?_;refine ak ?_;refine ⟨λh1=>?_,λh1=>?_⟩
 ·conv=>whnf
  simp_all
 ·have h1:¬(c=d/\r=q):=by simpa using h1
  conv=>whnf
  refine ⟨λh2=>?_,λh2=>?_⟩
  ·have h2:¬c=d:=by simpa using h2
   conv=>whnf
   simp_all
  ·have h2:c=d:=by simpa using h2
   conv=>whnf
   simp_all
theorem Dy (id:Int) (hi:dX id):aC Tryz.prog 33 [.aa .i64 id] (.aw [yq (Bl id), .aE (Dk id), .aE (jR id)]):=by
 unfold dX at hi;have hck:=Dz ⟨id.tdiv 128,(id.tmod 128).tdiv 2⟩;refine bK Tryz.func33 ?_
 conv=>whnf
 refine ⟨λh1=>?_,λh1=>?_⟩
 ·have h1:=of_decide_eq_true h1;have e:jR id=false:=by simp [jR];omega
  conv=>whnf
  rw [Bl,Dk,e,if_neg dd];rfl
 have h1:=of_decide_eq_false h1;have e1:id.tdiv 128=id / 128:=LA om;have e2:id.tmod 128=id % 128:=Q5 om;have e3:(id % 128).tdiv 2=id % 128 / 2:=LA om;have e4:id.tmod 2=id % 2:=Q5 om;have w1:IntKind.i64.wrap (id / 128)=id / 128:=bj om om;have w2:IntKind.i64.wrap (id % 128 / 2)=id % 128 / 2:=bj om om;rw [e1,e2,e3] at hck;have hok:j5 ⟨id / 128,id % 128 / 2⟩=jR id:=by
  grind [j5,jR]
 rw [hok] at hck
 conv=>whnf
 rw [e1,e2,e3,w1,w2];refine ak ?_;unfold Bl Dk;generalize jR id=q
 conv=>whnf
 refine ⟨λh2=>?_,λh2=>?_⟩
 ·have h2:q=false:=by simpa using h2
  conv=>whnf
  rw [h2];rfl
 ·have h2:q=true:=by simpa using h2
  conv=>whnf
  rw [h2,e4,if_pos rfl,Bool.true_and];rfl
theorem TG (s:iu) (id:Int) (hi:dX id):aC Tryz.prog 161 [yq s, .aa .i64 id] (.aE (Bk s id)):=by
 have h1:=Dy id hi;have h2:=MU s (Bl id);unfold Bk;generalize Bl id=o at h1 h2 ⊢;refine bK Tryz.func161 ?_;refine ak ?_;generalize jR id=q
 conv=>whnf
 refine ⟨λh3=>?_,λh3=>?_⟩
 ·refine ak ?_;rw [h3];rfl
 ·conv=>whnf
  rw [h3];rfl
theorem tS (id:Int) (hi:dX id):aC Tryz.prog 13 [.aa .i64 id] (.aE (fk id)):=by
 have h1:=Dy id hi;unfold fk;refine bK Tryz.func13 ?_
 conv=>whnf
 refine ⟨λh3=>?_,λh3=>?_⟩
 ·have h3:id=0:=by simpa using h3
  conv=>whnf
  simp_all
 have h3:¬id=0:=by simpa using h3
 rw [decide_eq_false h3]
 conv=>whnf
 refine ⟨λh4=>?_,λh4=>?_⟩
 ·have h4:id=2:=by simpa using h4
  conv=>whnf
  simp_all
 have h4:¬id=2:=by simpa using h4
 rw [decide_eq_false h4];refine ak ?_;generalize jR id=q
 conv=>whnf
 refine ⟨λh5=>?_,λh5=>?_⟩
 ·conv=>whnf
  rw [h5];rfl
 ·conv=>whnf
  rw [h5];rfl
def mV (o:aH):ae:= .aK [.aa .i64 o.aT.dg, .aa .i64 o.aT.dS, .aa .i64 o.fc, .aa .i64 o.aY, .aa .i64 o.gg, .ai o.j4, .ai o.j3]
def wR (o:aH):ae:=if o.fc=1 then .cm 287 (mV o) else if o.fc=2 then .cm 288 (mV o) else .cq
structure lZ (o:aH):Prop where
 wQ:dX o.aY
 MS:dX o.gg
 MR:o.j4.length<=1048576
 TD:o.j3.length<=1048576
theorem kz {σ:az} {cs:List ae} (h:kZ cs=true):Am.km σ (.aK cs) (.aK (iB cs)):=
 .KY (rZ cs).symm λi x y hx hy=>by
  obtain ⟨z,h1,rfl⟩:=rY hy;rw [hx] at h1;cases h1;exact .mh (tf h i x hx)
theorem MT (o:aH):aC Tryz.prog 94 [mV o] (wR o):=by
 unfold wR;refine bK Tryz.func94 ?_
 conv=>whnf
 refine ⟨λh=>?_,λh=>?_⟩
 ·have h:o.fc=1:=by simpa using h
  rw [if_pos h]
  conv=>whnf
  exact .j9 (kz (cs:=[.aa .i64 o.aT.dg, .aa .i64 o.aT.dS, .aa .i64 o.fc, .aa .i64 o.aY, .aa .i64 o.gg, .ai o.j4, .ai o.j3]) rfl)
 ·have h:¬o.fc=1:=by simpa using h
  rw [if_neg h]
  conv=>whnf
  refine ⟨λh2=>?_,λh2=>?_⟩
  ·have h2:o.fc=2:=by simpa using h2
   rw [if_pos h2]
   conv=>whnf
   exact .j9 (kz (cs:=[.aa .i64 o.aT.dg, .aa .i64 o.aT.dS, .aa .i64 o.fc, .aa .i64 o.aY, .aa .i64 o.gg, .ai o.j4, .ai o.j3]) rfl)
  ·have h2:¬o.fc=2:=by simpa using h2
   rw [if_neg h2]
   conv=>whnf
theorem acI (o:aH) (hf:lZ o):aC Tryz.prog 329 [mV o] (.aE (uY o)):=by
 have h1:=Dy o.aY hf.wQ;have h2:=tS o.gg hf.MS;have h3:=TG o.aT o.gg hf.MS;have h4:=Tz o.j4 hf.MR;unfold uY;refine bK Tryz.func329 ?_;refine ak ?_;refine ⟨λq=>?_,λq=>?_⟩
 ·rw [q];refine ak ?_;refine ⟨λq=>?_,λq=>?_⟩
  ·rw [q];refine ak ?_;refine ⟨λq=>?_,λq=>?_⟩
   ·rw [q];refine ak ?_;refine ⟨λq=>?_,λq=>?_⟩
    ·rw [q];exact bm
    ·rw [q];exact bm
   ·rw [q];exact bm
  ·rw [q];exact bm
 ·rw [q];exact bm
theorem acJ (o:aH) (hf:lZ o):aC Tryz.prog 331 [mV o] (.aE (wH o)):=by
 have h1:=Dy o.aY hf.wQ;unfold wH;refine bK Tryz.func331 ?_;refine ak ?_;refine ⟨λq=>?_,λq=>?_⟩
 ·rw [q]
  conv=>whnf
  refine ⟨λq=>?_,λq=>?_⟩
  ·rw [q]
   conv=>whnf
   refine ⟨λq=>?_,λq=>?_⟩
   ·have q:o.j3.length<=64:=by grind
    rw [decide_eq_true q]
    conv=>whnf
    refine ⟨λq=>?_,λq=>?_⟩
    ·have q:o.gg=0:=by simpa using q
     rw [decide_eq_true q];exact bm
    ·have q:¬o.gg=0:=by simpa using q
     rw [decide_eq_false q];exact bm
   ·have q:¬o.j3.length<=64:=by grind
    rw [decide_eq_false q];exact bm
  ·rw [q];exact bm
 ·rw [q];exact bm
theorem Bv (o:aH) (hf:lZ o):aC Tryz.prog 92 [mV o] (.aE (cJ o)):=by
 have h0:=MT o;have h1:=Dz o.aT;have h2:=TG o.aT o.aY hf.wQ;unfold wR at h0;unfold cJ
 by_cases k1:o.fc=1
 ·rw [if_pos k1] at h0 ⊢;have h3:=acI o hf;refine bK Tryz.func92 ?_;refine ak ?_;refine ⟨λq=>?_,λq=>?_⟩
  ·rw [q];refine ak ?_;refine ⟨λq=>?_,λq=>?_⟩
   ·rw [q]
    conv=>whnf
    refine ⟨329,aG,bz.eV h3 rfl ?_⟩;exact bm
   ·rw [q];exact bm
  ·rw [q];exact bm
 ·rw [if_neg k1] at h0 ⊢
  by_cases k2:o.fc=2
  ·rw [if_pos k2] at h0 ⊢;have h3:=acJ o hf;refine bK Tryz.func92 ?_;refine ak ?_;refine ⟨λq=>?_,λq=>?_⟩
   ·rw [q];refine ak ?_;refine ⟨λq=>?_,λq=>?_⟩
    ·rw [q]
     conv=>whnf
     refine ⟨331,aG,bz.eV h3 rfl ?_⟩;exact bm
    ·rw [q];exact bm
   ·rw [q];exact bm
  ·rw [if_neg k2] at h0 ⊢;refine bK Tryz.func92 ?_;exact dC
def cI (o:aH):List ae:=[.aa .i64 o.aT.dg, .aa .i64 o.aT.dS, .aa .i64 o.fc, .aa .i64 o.aY, .aa .i64 o.gg, .ai o.j4, .ai o.j3]
def iw (l:List aH):List (List ae):=l.map cI
theorem acG {l:List aH} {k:Nat} (hk:k<l.length):(iw l)[k]? =some (cI l[k]):=by grind [iw]
theorem Jh (l:List aH):(iw l).length=l.length:=by simp [iw]
def iF (n:aI):List ae:=[.aa .i64 n.bc, .aa .i64 n.gh, .ai n.fm, .aa .i64 n.mA.dg, .aa .i64 n.mA.dS, .ai n.ov, .aa .i64 n.FW.dg, .aa .i64 n.FW.dS]
def cT (l:List aI):List (List ae):=l.map iF
theorem yn (l:List aI):(cT l).length=l.length:=List.length_map _
theorem ym {l:List aI} {k:Nat} (h:k<l.length):(cT l)[k]? =some (iF l[k]):=by grind [cT]
theorem Bw (nil:Bool) (l:List aI) (hi:∀ n∈l,dX n.bc) (hl:l.length<=1048576):aC Tryz.prog 30 [.ag nil 8 (cT l) .av] (.aE (fH l)):=by
 have hel:=yn l;refine bK Tryz.func30 ?_
 conv=>whnf
 refine db.cK (λk:Nat=>[(.aj 0, .ah (.ag nil 8 (cT l) .av)),(.aj 8, .ah (.ag nil 8 (cT l) .av)),(.aj 9, .ah (.aa .i64 l.length)),(.aj 10, .ah (.aa .i64 k))]) 0 (λk=>k<=l.length/\∀ j,j<k->tO l j=true) (λk=>l.length - k) dd 0 ⟨Nat.zero_le _,λj h=>om⟩ ⟨rfl,rfl,rfl,rfl,?_,rfl,rfl,rfl,trivial⟩ ?_
 ·show bs.ah (ae.aa .i64 (cT l).length)=_;rw [hel]
 rintro k ⟨hk,hall⟩;refine cn ?_;refine ⟨λh1=>?_,λh1=>?_⟩
 ·have h1:=of_decide_eq_true h1;have hlt:k<l.length:=om;have hg:=ym hlt;refine ak ?_;have hid:=hi _ (List.getElem_mem hlt)
  conv=>whnf
  refine bz.eV (Dy _ hid) rfl ?_;have hmk:tO l k=(jR l[k].bc && I5 l l[k].bc k):=by grind [tO]
  have hbad:tO l k=false->fH l=false:=λh=>by
   rw [Bool.eq_false_iff];intro hc;have:=List.all_eq_true.1 hc k (List.mem_range.2 hlt);simp_all
  have hwk:IntKind.i64.wrap ((k:Int)+1)=((k+1:Nat):Int):=by grind [bj]
  have hnext:tO l k=true->∀ j,j<k+1->tO l j=true:=λh j hj=>by
   grind
  generalize l[k]=nd at*;generalize jR nd.bc=q at*;generalize Bl nd.bc=st at*;generalize Dk nd.bc=fl at*;cases q with
  |false=>
   rw [hbad (by rw [hmk];rfl)];exact dC
  |true=>
  rw [Bool.true_and] at hmk;cases k with
  |zero=>
   refine iV ?_;refine ⟨aG,?_⟩
   conv=>whnf
   refine ⟨1,⟨hlt,hnext (by rw [hmk];rfl)⟩,by grind,rfl,rfl,rfl,rfl,rfl,rfl,rfl,rfl,trivial⟩
  |succ j=>
   have hg2:=ym (show j<l.length by omega);have hpr:tO l (j+1)=decide (l[j].bc<nd.bc):=by rw [hmk];show (match l[j]? with|none=>false|some p=>decide (p.bc<nd.bc))=_;grind
   have hwj:IntKind.i64.wrap (((j+1:Nat):Int) - 1)=(j:Int):=by grind [bj]
   conv=>whnf
   repeat (
       first
          |refine ⟨λh=>absurd h dd,λ_=>?_⟩
          |refine ⟨λ_=>?_,λh=>absurd h dd⟩
          |refine ⟨λ_=>?_,λh=>absurd h (by simp_all)⟩
          |fail "end"
       (conv=>whnf))
   rw [hwj];refine ak ?_;generalize l[j]=pd at*;refine ak ?_;refine ⟨λh=>?_,λh=>?_⟩
   ·have h:=of_decide_eq_true h;rw [hbad (by grind)]
    conv=>whnf
   ·have h:=of_decide_eq_false h
    conv=>whnf
    refine ⟨j+2,⟨om,hnext (by simp_all)⟩,by grind,rfl,rfl,rfl,rfl,rfl,rfl,?_,rfl,trivial⟩;show bs.ah (ae.aa .i64 (IntKind.i64.wrap (((j+1:Nat):Int)+1)))=_;rw [hwk]
 ·have h1:=of_decide_eq_false h1;have hck:fH l=true:=List.all_eq_true.2 λj hj=>hall j (by grind)
  rw [hck]
  conv=>whnf
theorem acN (x:Int):aC Tryz.prog 110 [.aa .i64 x] (.aE false):=by
 refine bK Tryz.func110 ?_
 conv=>whnf
 simp
def Dw (a b:Int):Int:=if a<b then -1 else if b<a then 1 else 0
theorem acC (a b:Int):aC Tryz.prog 54 [.aa .i64 a, .aa .i64 b] (.aa .i64 (Dw a b)):=by
 unfold Dw;have hn:=acN;refine bK Tryz.func54 ?_
 conv=>whnf
 refine bz.eV (hn a) rfl ?_
 conv=>whnf
 refine bz.eV (hn b) rfl ?_;refine ak ?_;refine ⟨λh=>?_,λh=>?_⟩
 ·rw [if_pos (of_decide_eq_true h)]
  conv=>whnf
 ·have h:=of_decide_eq_false h;rw [if_neg h]
  conv=>whnf
  refine ⟨λh2=>?_,λh2=>?_⟩
  ·rw [if_pos (of_decide_eq_true h2)]
   conv=>whnf
  ·rw [if_neg (of_decide_eq_false h2)]
   conv=>whnf
theorem TH (n:aI) (id:Int):aC Tryz.prog 67 [.aK (iF n), .aa .i64 id] (.aa .i64 (Dw n.bc id)):=by
 have hc:=acC n.bc id;refine bK Tryz.func67 ?_;exact dC
theorem acA (nil:Bool) (l:List aI) (id:Int) (hl:l.length<=1048576) (hc:fH l=true):
  aC Tryz.prog 66 [.ag nil 8 (cT l) .av, .aa .i64 id, .aP 67 [] []] (.aw [.aa .i64 (cZ l id:Nat), .aE (lb l id)]):=by
 have hel:=yn l;refine bK Tryz.func66 ?_
 conv=>whnf
 refine db.cK (X:=Nat×Nat) (λx=>[(.aj 0, .ah (.ag nil 8 (cT l) .av)),(.aj 1, .ah (.aa .i64 id)),(.aj 2, .ah (.aP 67 [] [])),(.aj 8, .ah (.aa .i64 l.length)),(.aj 9, .ah (.aa .i64 x.1)),(.aj 10, .ah (.aa .i64 x.2))]) 0
  (λx=>x.1<=x.2/\x.2<=l.length/\(∀ k (hk:k<l.length),k<x.1->l[k].bc<id)/\(∀ k (hk:k<l.length),x.2<=k->id<=l[k].bc)) (λx=>x.2 - x.1) dd (0,l.length) ⟨Nat.zero_le _,Nat.le_refl _,(λk _ h=>absurd h (Nat.not_lt_zero k)),(λk h1 h2=>absurd h1 om)⟩ ⟨rfl,rfl,rfl,rfl,rfl,rfl,?_,rfl,rfl,rfl,?_,rfl,trivial⟩ ?_
 ·show bs.ah (ae.aa .i64 (cT l).length)=_;rw [hel]
 ·show bs.ah (ae.aa .i64 (cT l).length)=_;rw [hel]
 rintro ⟨i,j⟩ ⟨h1,h2,h3,h4⟩;simp only at h1 h2 h3 h4;dsimp only;refine cn ?_;refine ⟨λh=>?_,λh=>?_⟩
 ·have h:=of_decide_eq_true h
  conv=>whnf
  refine ⟨dd,?_⟩;have e1:IntKind.i64.wrap ((IntKind.u64.wrap (IntKind.i64.wrap ((i:Int)+j))).fdiv (2^min (Int.toNat 1) IntKind.u64.bits))=(((i+j) / 2:Nat):Int):=by
   have q1:IntKind.i64.wrap ((i:Int)+j)=((i+j:Nat):Int):=by grind [bj]
   have q2:IntKind.u64.wrap ((i+j:Nat):Int)=((i+j:Nat):Int):=by rw [IntKind.wrap_u64];omega
   rw [q1,q2,show (2:Int)^min (Int.toNat 1) IntKind.u64.bits=2 from rfl,Int.fdiv_eq_ediv_of_nonneg _ dd,bj om om];omega
  have hh:(i+j) / 2<l.length:=om;have hg:=ym hh
  conv=>whnf
  rw [e1];generalize hm:(i+j) / 2=q at*;refine ak ?_;have hp:=TH l[q] id;have w1:IntKind.i64.wrap ((q:Int)+1)=((q+1:Nat):Int):=by grind [bj]
  refine ak ?_;refine ⟨λh5=>?_,λh5=>?_⟩
  ·have h5:l[q].bc<id:=by
    grind [Dw]
   conv=>whnf
   refine ⟨(q+1,j),⟨om,h2,λk hk h6=>?_,h4⟩,by grind,rfl,rfl,rfl,rfl,rfl,rfl,rfl,rfl,?_,rfl,rfl,rfl,trivial⟩
   ·have h6:k<q+1:=h6
    by_cases e:k=q
    ·subst e;exact h5
    ·have:=zA hc (show k<q by omega) hh;omega
   ·exact dh
  ·have h5:id<=l[q].bc:=by
    grind [Dw]
   conv=>whnf
   refine ⟨(i,q),⟨by show i<=q;omega,om,h3,λk hk h6=>?_⟩,by grind,rfl,rfl,rfl,rfl,rfl,rfl,rfl,rfl,rfl,rfl,rfl,rfl,trivial⟩;have h6:q<=k:=h6
   by_cases e:q=k
   ·subst e;exact h5
   ·have:=zA hc (show q<k by omega) hk;omega
 ·have h:=of_decide_eq_false h;have hij:i=j:=om;subst hij;have hpos:=Mv h2 h3 h4
  conv=>whnf
  refine ⟨λh=>?_,λh=>?_⟩
  ·have h:=of_decide_eq_true h;have hlt:i<l.length:=om;have hg:=ym hlt;have hp:=TH l[i] id;have hd:lb l id=decide (l[i].bc=id):=by
    grind [lb]
   refine ak ?_;grind [Dw,ae.aE.injEq]
  ·have h:=of_decide_eq_false h
   conv=>whnf
   grind [lb]
theorem Jk (nil:Bool) (l:List aI) (id:Int) (hl:l.length<=1048576) (hc:fH l=true):aC Tryz.prog 32 [.ag nil 8 (cT l) .av, .aa .i64 id] (.aw [.aa .i64 (cZ l id:Nat), .aE (lb l id)]):=by
 have hb:=acA nil l id hl hc;refine bK Tryz.func32 ?_;exact dC
def ix (l:List Int):List (List ae):=l.map λz=>[.aa .i64 z]
theorem Ji (l:List Int):(ix l).length=l.length:=by simp [ix]
theorem Gb {l:List Int} {k:Nat} (h:k<l.length):(ix l)[k]? =some [.aa .i64 l[k]]:=by grind [ix]
theorem acH (l:List Int) (z:Int):ix l++[[ae.aa .i64 z]]=ix (l++[z]):=by simp [ix]
theorem acM (nil:Bool) (l:List Int) (z:Int) (hl:l.length<=1048576):∃ r:Int,(0<=r↔l.contains z=true)/\aC Tryz.prog 210 [.ag nil 1 (ix l) .av, .aa .i64 z] (.aa .i64 r):=by
 have hel:=Ji l;refine ⟨(l.findIdx? (λx=>decide (z=x))).elim (-1) (λk=>(k:Int)),?_,?_⟩
 ·cases h:l.findIdx? (λx=>decide (z=x)) with
  |none=>
   grind
  |some k=>
   grind [List.findIdx?_eq_some_iff_getElem]
 refine bK Tryz.func210 ?_
 conv=>whnf
 refine db.cK (λk:Nat=>[(.aj 0, .ah (.ag nil 1 (ix l) .av)),(.aj 1, .ah (.aa .i64 z)),(.aj 7, .ah (.aa .i64 l.length)),(.aj 8, .ah (.aa .i64 k))]) 0
  (λk=>k<=l.length/\∀ j (hj:j<l.length),j<k->z≠l[j]) (λk=>l.length - k) dd 0 ⟨Nat.zero_le _,λj _ h=>absurd h (Nat.not_lt_zero j)⟩ ⟨rfl,rfl,rfl,rfl,?_,rfl,rfl,rfl,trivial⟩ ?_
 ·show bs.ah (ae.aa .i64 (ix l).length)=_;rw [hel]
 rintro k ⟨h1,h2⟩;refine cn ?_;refine ⟨λh=>?_,λh=>?_⟩
 ·have h:=of_decide_eq_true h;have hlt:k<l.length:=om;have hg:=Gb hlt;refine ak ?_;refine ⟨λh3=>?_,λh3=>?_⟩
  ·have h3:z=l[k]:=by simpa using h3
   have e:l.findIdx? (λx=>decide (z=x))=some k:=by
    grind [List.findIdx?_eq_some_iff_getElem]
   rw [e];exact bm
  ·have h3:z≠l[k]:=by simpa using h3
   conv=>whnf
   refine ⟨k+1,⟨om,λj hj hjk=>?_⟩,by grind,rfl,rfl,rfl,rfl,rfl,rfl,?_,rfl,trivial⟩
   ·grind
   ·exact dh
 ·have h:=of_decide_eq_false h;have e:l.findIdx? (λx=>decide (z=x))=none:=by
   grind [List.getElem_of_mem]
  rw [e];exact bm
theorem Dx (nil:Bool) (l:List Int) (z:Int) (hl:l.length<=1048576):aC Tryz.prog 139 [.ag nil 1 (ix l) .av, .aa .i64 z] (.aE (l.contains z)):=by
 obtain ⟨r,h1,h2⟩:=acM nil l z hl;refine bK Tryz.func139 ?_;refine ak ?_;simp_all
theorem TK (nil:Bool) (l:List aI) (id:Int) (hl:l.length<=1048576) (hc:fH l=true):
  aC Tryz.prog 31 [.ag nil 8 (cT l) .av, .aa .i64 id] (.ag (decide (kq l l.length id=[])) 1 (ix (kq l l.length id)) .av):=by
 have hel:=yn l;have hpl:=λz=>Jk nil l z hl hc
 refine cU Tryz.func31 ?_
 conv=>whnf
 refine db.zd 5 3 1 rfl rfl (.inr rfl) ?_;refine db.cK (X:=List Int×Int) (λx=>[(.aj 0, .ah (.ag nil 8 (cT l) .av)),(.aj 1, .ah (.aa .i64 x.2)),(.aj 5, .ah (.ag (decide (x.1=[])) 1 (ix x.1) (.dB 2))),(.aJ 2, .aN 3 1 x.1.length)]) 3
  (λx=>x.1.length<=l.length/\kq l l.length id=x.1++kq l (l.length - x.1.length) x.2) (λx=>l.length - x.1.length) dd ([],id) ⟨Nat.zero_le _,by trivial⟩ ⟨rfl,rfl,rfl,rfl,rfl,rfl,rfl,rfl,trivial⟩ ?_
 rintro ⟨acc,z⟩ ⟨h1,h2⟩;simp only at h1 h2;dsimp only;have hal:=Ji acc;refine cn ?_;rw [hal,hel];refine ⟨λh=>?_,λh=>?_⟩
 ·have h:=of_decide_eq_true h;have hlt:acc.length<l.length:=om;obtain ⟨f,hf⟩:∃ f,l.length - acc.length=f+1:=⟨l.length - acc.length - 1,om⟩;rw [hf,kq] at h2;have hhd:=zB l z
  conv=>whnf
  refine bz.eV (hpl z) rfl ?_;cases hfd:iD l z with
  |none=>
   rw [hfd] at h2 hhd;simp only [List.append_nil] at h2;rw [h2,hhd];exact bm
  |some nd=>
   rw [hfd] at h2 hhd;simp only at h2;obtain ⟨_,_,hp,hnd⟩:=yf hfd;have hg:=ym hp;rw [hnd] at hg;rw [hhd,Option.isSome_some];refine ak ?_;refine ⟨λh=>?_,λh=>?_⟩
   ·have h:nd.gh=-1:=by simpa using h
    rw [if_pos h,List.append_nil] at h2;rw [h2];exact bm
   ·have h:nd.gh≠-1:=by simpa using h
    rw [if_neg h] at h2;refine ak ?_;refine ⟨⟨hal.symm,dG (by grind) dd⟩,?_⟩
    conv=>whnf
    refine ⟨(acc++[nd.gh],nd.gh),⟨by grind,?_⟩,by grind,rfl,rfl,rfl,rfl,?_,rfl,?_,rfl,trivial⟩
    ·grind
    ·show bs.ah (ae.ag (decide (acc=[]) && false) 1 (ix acc++[[ae.aa .i64 nd.gh]]) _)=bs.ah (ae.ag (decide (acc++[nd.gh]=[])) 1 (ix (acc++[nd.gh])) _);rw [Bool.and_false,decide_eq_false (by simp),acH]
    ·show bs.aN _ 1 ((ix acc).length+1)=bs.aN _ 1 (acc++[nd.gh]).length;simp_all
 ·have h:=of_decide_eq_false h;rw [show l.length - acc.length=0 by omega,kq,List.append_nil] at h2;rw [h2];exact bm
theorem Gc (nil:Bool) (l:List aI) (id:Int) (hi:∀ n∈l,dX n.bc) (hl:l.length<=1048576):
  aC Tryz.prog 11 [.ag nil 8 (cT l) .av, .aa .i64 id] (.ag (decide (jS l id=[])) 1 (ix (jS l id)) .av):=by
 have hck:=Bw nil l hi hl;have hab:=TK nil l id hl;unfold jS;refine cU Tryz.func11 ?_;refine ak ?_;cases hc:fH l with
 |false=>
  refine ak ?_;exact iL.eR _ _ _
 |true=>
  rw [if_pos rfl];refine ak ?_;refine bz.eV (hab hc) rfl ?_;exact bm
theorem acB (n:aI):(iF n).length=8:=rfl
theorem acE (l:List aI):∀ el∈cT l,el.length=8:=λel h=>by
 obtain ⟨n,_,rfl⟩:=List.mem_map.1 h;rfl
theorem Jj (l:List aI):(cT l).flatten.length=l.length*8:=by
 induction l with
 |nil=>rfl
 |cons n l ih=>grind [cT,acB]
theorem acK (l m:List aI):(cT (l++m)).flatten=(cT l).flatten++(cT m).flatten:=by grind [cT]
theorem acL (l:List aI):fL (cT l).flatten=true:=by
 induction l with
 |nil=>rfl
 |cons n l ih=>exact ih
theorem acF (l:List aI) (k:Nat):(cT l).take k=cT (l.take k):=by unfold cT;rw [List.map_take]
theorem acD (l:List aI) (k:Nat):(cT l).drop k=cT (l.drop k):=by unfold cT;rw [List.map_drop]
theorem TE {X S Z:List ae} {x s y:Nat} (hx:X.length=x) (hs:S.length=s) (hy:y=x+s):List.take x (X++Z)++List.take s S++List.drop y (X++Z)=X++S++Z.drop s:=by
 subst hx hs hy;simp_all
theorem acO (l others:List aI) (i u:Nat) (hi:i<=u) (hu:u<=l.length):(cT (l.take i++others++l.drop u)).flatten=(cT (l.take i)).flatten++(cT others).flatten++(cT (l.drop u)).flatten/\
  (cT (l.take i++others++l.drop u)).length=i+others.length+(l.length - u)/\(cT (l.take i++others++l.drop u)).flatten.length=(i+others.length+(l.length - u))*8:=by
 have h:(l.take i++others++l.drop u).length=i+others.length+(l.length - u):=by grind
 grind [acK,yn,Jj]
theorem Bu (n1 n2:Bool) (l others:List aI) (i u:Nat) (hi:i<=u) (hu:u<=l.length) (hl:l.length<=1048576) (ho:others.length<=1):
  aC Tryz.prog 283 [.ag n1 8 (cT l) .av, .aa .i64 i, .aa .i64 u, .ag n2 8 (cT others) .av] (.ag false 8 (cT (l.take i++others++l.drop u)) .av):=by
 have hel:=yn l;have heo:=yn others;have e1:IntKind.i64.wrap (IntKind.i64.wrap (IntKind.i64.wrap ((i:Int)+others.length)+l.length) - (u:Int))=((i+others.length+(l.length - u):Nat):Int):=by
  rw [bj (x:=(i:Int)+others.length) om om,bj (x:=(i:Int)+others.length+l.length) om om,bj om om];omega
 obtain ⟨hall,hn,hlen⟩:=acO l others i u hi hu;have hone:=acL (l.take i++others++l.drop u);have hsz:=acE (l.take i++others++l.drop u);refine bK Tryz.func283 ?_
 conv=>whnf
 rw [hel,heo,e1];refine ⟨⟨om,rfl,dG om dd⟩,?_⟩
 conv=>whnf
 refine ⟨by rw [hel];omega,?_⟩
 conv=>whnf
 generalize hN:i+others.length+(l.length - u)=N at*;generalize hZ:eB (N:Int).toNat _=Z;have hZl:Z.length=N*8:=by rw [<-hZ,r8];rfl
 refine ak ?_;have m1:min (List.take (i:Int).toNat (cT l)).length (N:Int).toNat=i:=by grind
 rw [m1];refine ak ?_;have hA:=Jj (l.take i);have hB:=Jj others;have hC:=Jj (l.drop u);rw [List.length_take] at hA;rw [List.length_drop] at hC;have q0:List.take (i:Int).toNat (cT l)=cT (l.take i):=by grind [acF]
 have q0':List.drop (u:Int).toNat (cT l)=cT (l.drop u):=by grind [acD]
 rw [q0];generalize hAe:(cT (l.take i)).flatten=A at*;generalize hBe:(cT others).flatten=B at*;have q1:List.take 0 Z++List.take (i*8) A++List.drop (0+i*8) Z=A++Z.drop (i*8):=by
  grind
 rw [q1];have m2:min (cT others).length ((N:Int).toNat - (i:Int).toNat)=others.length:=om;have m3:IntKind.i64.wrap ((i:Int)+(others.length:Nat))=((i+others.length:Nat):Int):=by rw [bj om om];rfl
 refine ⟨by grind,?_⟩
 conv=>whnf
 rw [m2,m3,TE (by rw [hA];omega) hB om];have hRl:(List.drop (others.length*8) (List.drop (i*8) Z)).length=(l.length - u)*8:=by grind
 generalize hRe:List.drop (others.length*8) (List.drop (i*8) Z)=R at*;refine ⟨⟨om,om⟩,?_⟩
 conv=>whnf
 refine ⟨by rw [hel];omega,?_⟩
 conv=>whnf
 refine ⟨by grind,?_⟩
 conv=>whnf
 rw [q0'];have m4:min (cT (l.drop u)).length ((N:Int).toNat - ((i+others.length:Nat):Int).toNat)=l.length - u:=by grind
 rw [m4,TE (by grind) hC om,List.drop_of_length_le (l:=R) om,List.append_nil];refine ak ?_;clear hA hB hC m1 m2 m3 m4 q0 q0' hRl hRe hZ hZl;rw [<-hall];generalize cT (l.take i++others++l.drop u)=E at*;refine .zf rfl hn hsz (Nat.le_of_eq om) ?_ hone;grind
def TF (u:wI):ae:= .aK (.aE u.Ms:: .aE u.Mt::iF u.tN)
theorem TJ (nil:Bool) (l:List aI) (hl:l.length<=1048576):aC Tryz.prog 282 [.ag nil 8 (cT l) .av] (.ag false 8 (cT l) .av):=by
 have hel:=yn l;have hlay:=Bu nil true l [] l.length l.length (Nat.le_refl _) (Nat.le_refl _) hl (Nat.zero_le _);rw [List.take_length,List.drop_length,List.append_nil,List.append_nil] at hlay;have hlay:=hlay.Qc (args':=[.ag nil 8 (cT l) .av, .aa .i64 (l.length:Nat), .aa .i64 (l.length:Nat), .ag true 1 [] .av]) (.aX (.bw _) (.aX (.bw _) (.aX (.bw _) (.aX (.eR _ _ _) .fa))));refine bK Tryz.func282 ?_
 conv=>whnf
 rw [hel];exact dC
theorem Jg (nil:Bool) (l:List aI) (o:aH) (hi:∀ n∈l,dX n.bc) (hl:l.length<=1000000) (hf:lZ o):
  aC Tryz.prog 248 [.ag nil 8 (cT l) .av,mV o] (.aw [.ag false 8 (cT (jm l o)) .av,TF (lf l o)]):=by
 have hel:=yn l;have hck:=Bw nil l hi om;have hoc:=Bv o hf;have hsm:=TJ nil l om;refine bK Tryz.func248 ?_;have hmd:yh l o=(fH l && (cJ o && !(decide (o.fc=1) && Mu l o))):=rfl;unfold jm lf;generalize yh l o=m at*;refine ak ?_;cases hc:fH l with
 |false=>
  rw [hc] at hmd;subst hmd;exact bm
 |true=>
 have hab:=λid=>TK nil l id om hc
 have hpl:=λz=>Jk nil l z om hc
 rw [hc,Bool.true_and] at hmd;cases hq:cJ o with
 |false=>
  rw [hq] at hmd;subst hmd;refine ak ?_;rw [hq];exact bm
 |true=>
 rw [hq,Bool.true_and] at hmd;refine ak ?_;rw [hq];refine ak ?_;have hlow:=FX l l.length o.gg;have hct:=Dx (decide (kq l l.length o.gg=[])) (kq l l.length o.gg) o.aY om;refine ⟨λh=>?_,λh=>?_⟩
 ·have hk:o.fc=1:=by simpa using h
  rw [decide_eq_true hk,Bool.true_and] at hmd;unfold Mu at hmd
  conv=>whnf
  refine bn Tryz.func284 ?_
  conv=>whnf
  refine ⟨λh=>?_,λh=>?_⟩
  ·have he:o.gg=o.aY:=by simpa using h
   rw [decide_eq_true he] at hmd;have hmd:m=false:=hmd;subst hmd;exact bm
  ·have he:o.gg≠o.aY:=by simpa using h
   rw [decide_eq_false he,Bool.false_or] at hmd
   conv=>whnf
   refine ⟨_,rfl,hab o.gg,?_⟩;refine ak ?_;generalize (kq l l.length o.gg).contains o.aY=lp at*;refine ak ?_;refine ⟨λh=>?_,λh=>?_⟩
   ·have h:lp=true:=h;rw [h] at hmd;have hmd:m=false:=hmd;subst hmd;exact bm
   ·have h:lp=false:=h;rw [h] at hmd;have hmd:m=true:=hmd;subst hmd;rw [if_pos rfl,if_pos rfl]
    conv=>whnf
    refine bz.eV (hpl o.aY) rfl ?_;have hpp:=FY l o.aY;cases hfd:iD l o.aY with
    |none=>
     have hhd:lb l o.aY=false:=by rw [zB,hfd];rfl
     have hup:gG l o.aY=cZ l o.aY:=by grind [gG]
     have hlay:=Bu nil false l [pf (yg o.aY) o] (cZ l o.aY) (cZ l o.aY) (Nat.le_refl _) hpp om (Nat.le_refl _);rw [hhd,hup];unfold pf at hlay ⊢;rw [if_pos hk] at hlay ⊢;refine ak ?_;refine ⟨λ_=>?_,λh=>absurd h (by rw [hk];decide)⟩;exact bm
    |some nd=>
     obtain ⟨_,hid,hp,hnd⟩:=yf hfd;have hg:=ym hp;rw [hnd] at hg;have hhd:lb l o.aY=true:=by rw [zB,hfd];rfl
     have hup:gG l o.aY=cZ l o.aY+1:=by grind [gG]
     have hw1:IntKind.i64.wrap ((cZ l o.aY:Int)+1)=((cZ l o.aY+1:Nat):Int):=by grind [bj]
     have hlay:=Bu nil false l [pf nd o] (cZ l o.aY) (cZ l o.aY+1) (Nat.le_succ _) om om (Nat.le_refl _);rw [hhd,hup];unfold pf at hlay ⊢;rw [if_pos hk] at hlay ⊢;refine ak ?_;rw [hw1];refine ⟨λ_=>?_,λh=>absurd h (by rw [hk];decide)⟩;exact bm
 ·have hk:o.fc≠1:=by simpa using h
  rw [decide_eq_false hk] at hmd;have hmd:m=true:=hmd;subst hmd;rw [if_pos rfl,if_pos rfl]
  conv=>whnf
  refine bz.eV (hpl o.aY) rfl ?_;have hpp:=FY l o.aY;cases hfd:iD l o.aY with
  |none=>
   have hhd:lb l o.aY=false:=by rw [zB,hfd];rfl
   have hup:gG l o.aY=cZ l o.aY:=by grind [gG]
   have hlay:=Bu nil false l [pf (yg o.aY) o] (cZ l o.aY) (cZ l o.aY) (Nat.le_refl _) hpp om (Nat.le_refl _);rw [hhd,hup];unfold pf at hlay ⊢;rw [if_neg hk] at hlay ⊢;refine ak ?_;refine ⟨λh=>absurd h (by simpa using hk),λ_=>?_⟩;exact bm
  |some nd=>
   obtain ⟨_,hid,hp,hnd⟩:=yf hfd;have hg:=ym hp;rw [hnd] at hg;have hhd:lb l o.aY=true:=by rw [zB,hfd];rfl
   have hup:gG l o.aY=cZ l o.aY+1:=by grind [gG]
   have hw1:IntKind.i64.wrap ((cZ l o.aY:Int)+1)=((cZ l o.aY+1:Nat):Int):=by grind [bj]
   have hlay:=Bu nil false l [pf nd o] (cZ l o.aY) (cZ l o.aY+1) (Nat.le_succ _) om om (Nat.le_refl _);rw [hhd,hup];unfold pf at hlay ⊢;rw [if_neg hk] at hlay ⊢;refine ak ?_;rw [hw1];refine ⟨λh=>absurd h (by simpa using hk),λ_=>?_⟩;exact bm
open Go.RowKit Go.Am
noncomputable def acP (c:Code):List (Code×Code):=
 Code.rec (motive:=λ_=>List (Code×Code)) [] (λ_ _ _=>[]) (λ_ _ x y=>x++y) (λ_ _ _ x y=>x++y) (λ_ _ x=>x) (λ_ x=>x) (λ_ _ x y _ _=>[(x,y)]) (λ_=>[]) (λ_ x=>x) (λ_=>[]) (λ_=>[]) [] (λ_=>[]) c
noncomputable def DB (fn:Func) (i:Nat):Code×Code:=match fn.body with
 |some c=>match lS (acP c) i with|some x=>x|none=>(.skip, .skip)
 |none=>(.skip, .skip)
def l5 (l:List (List UInt8)):List (List ae):=l.map λt=>[.ai t]
theorem Gd (l:List (List UInt8)):(l5 l).length=l.length:=by simp [l5]
theorem TM {l:List (List UInt8)} {k:Nat} (h:k<l.length):(l5 l)[k]? =some [.ai l[k]]:=by grind [l5]
def jI (m:gS):iC:=m.map λe=>(e.1, .ai e.2.1, .aK (iF e.2.2))
theorem Jm (k:List UInt8):∀ m:gS,qv (.ai k) (jI m)=(gT k m).map λn=> .aK (iF n)
 |[]=>rfl
 |e::m=>by
  show (match mo (.ai e.2.1) (.ai k) with|true=>some _|false=>qv (.ai k) (jI m))=_;rw [gT,Jm k m];grind [mo]
theorem MV (k:List UInt8) (n:aI):∀ m:gS,pJ (.ai k) (.aK (iF n)) (jI m)=(tP k n m).map jI
 |[]=>rfl
 |e::m=>by
  show (match mo (.ai e.2.1) (.ai k) with|true=>some _|false=>match pJ (.ai k) (.aK (iF n)) (jI m) with|some l=>some _|none=>none)=_;rw [tP,MV k n m];simp only [mo]
  by_cases h:e.2.1=k
  ·rw [decide_eq_true h,if_pos h];rfl
  ·rw [decide_eq_false h,if_neg h];cases tP k n m<;>rfl
theorem TL (k:List UInt8):∀ m:gS,xT (.ai k) (jI m)=jI (Bo k m)
 |[]=>rfl
 |e::m=>by
  show (match mo (.ai e.2.1) (.ai k) with|true=>jI m|false=>_::xT (.ai k) (jI m))=_;rw [Bo,TL k m];simp only [mo]
  by_cases h:e.2.1=k
  ·simp_all
  ·rw [decide_eq_false h,if_neg h];rfl
theorem DA (m:gS):∀ e∈jI m,oh .string e.2.1:=λe h=>by
 obtain ⟨x,_,rfl⟩:=List.mem_map.1 h;rfl
theorem TO (x:Nat×gS) (n:aI):A5 x.1 (jI x.2) (.ai n.fm) (.aK (iF n)) ((tP n.fm n x.2).map jI)= .dP (zG x n).1 (jI (zG x n).2):=by
 unfold zG;cases tP n.fm n x.2 with
 |some m=>rfl
 |none=>
  show EM.dP (x.1+1) (jI x.2++[_])=EM.dP (x.1+1) (jI (x.2++[_]));grind [jI]
def TN (r:Option aI):Int:=(r.map (·.bc)).getD 0
theorem MW (nil:Bool) (l:List aI) (dir:Int) (hl:l.length<=1048576):
  bz Tryz.prog 47 [.ag nil 8 (cT l) .av, .aa .i64 dir] (aD []) 0
   (cG 0 λx es=>x= .sh (ke l dir).1 (jI (ke l dir).2)/\es=[]):=by
 have hel:=yn l;refine bn Tryz.func47 ?_
 conv=>whnf
 refine mf.Fq rfl ?_
 conv=>whnf
 refine bn Tryz.func96 ?_
 conv=>whnf
 refine db.Fs [(5, .ar 2 0)] ⟨rfl,rfl,trivial⟩ rfl rfl ?_;refine bn Tryz.func164 ?_
 conv=>whnf
 refine db.cK (λk:Nat=>[(.aj 0, .ah (.cw 11)),(.aj 1, .ah (.ar 6 0)),(.aj 2, .ah (.ar 7 0)),(.aj 6, .ah (.ag nil 8 (cT l) .av)),(.aj 7, .ah (.aa .i64 l.length)),(.aj 8, .ah (.aa .i64 k)),
  (.af 1, .c9 (.dP (ke (l.take k) dir).1 (jI (ke (l.take k) dir).2))),(.af 2, .au 143 [.cg 1]),(.af 6, .au 25 [.ag nil 8 (cT l) .av]),(.af 7, .au 3 [.aa .i64 dir]),
  (.af 11, .eZ .ready none 36 [(5, .ar 2 0)] [13] (DB Tryz.f47 0).1 (DB Tryz.f47 0).2)]) 12
  (λk=>k<=l.length) (λk=>l.length - k) dd 0 (Nat.zero_le _) ⟨rfl,rfl,rfl,rfl,rfl,rfl,rfl,rfl,?_,rfl,rfl,rfl,rfl,rfl,rfl,rfl,rfl,rfl,rfl,rfl,rfl,rfl,trivial⟩ ?_
 ·show bs.ah (ae.aa .i64 (cT l).length)=_;rw [hel]
 rintro k hk;refine cn ?_;refine ⟨λh=>?_,λh=>?_⟩
 ·have h:=of_decide_eq_true h;have hlt:k<l.length:=om;have hg:=ym hlt;have hse:ke (l.take (k+1)) dir=Bs dir (ke (l.take k) dir) l[k]:=by grind [ke,List.take_succ_eq_append_getElem]
  have w1:IntKind.i64.wrap ((k:Int)+1)=((k+1:Nat):Int):=by grind [bj]
  unfold Bs ow at hse;generalize hS:ke (l.take k) dir=S at*;generalize hS':ke (l.take (k+1)) dir=S' at*;refine ak ?_;generalize l[k]=nd at*;have hck:=Dz nd.mA
  conv=>whnf
  refine ⟨λh=>?_,λh=>?_⟩
  ·have h:nd.gh=dir:=by simpa using h
   rw [decide_eq_true h,Bool.true_and] at hse;refine ak ?_;refine ⟨λh=>?_,λh=>?_⟩
   ·have h:j5 nd.mA=true:=h;rw [h,if_pos rfl] at hse
    conv=>whnf
    refine CH.Fu dW jd rfl rfl rfl (λlp=>?_)
    conv=>whnf
    refine mf.xQ dW (kt:=9) (et:=64) (d:= .string) aG aG rfl rfl aG rfl rfl (.inl rfl) rfl (DA _) ((gT nd.fm S.2).map λn=> .aK (iF n)) (Jm nd.fm S.2) ?_;cases hfm:gT nd.fm S.2 with
    |none=>
     have hb:F3 nd S.2=true:=by grind [F3]
     rw [hb,if_pos rfl] at hse;rw [Option.map_none]
     conv=>whnf
     refine mf.k8 (kt:=9) (et:=64) (d:= .string) aG aG (.inl rfl) rfl rfl rfl rfl (DA _) ((tP nd.fm nd S.2).map jI) (MV nd.fm nd S.2) ?_
     conv=>whnf
     refine ⟨k+1,om,by grind,rfl,rfl,rfl,rfl,rfl,rfl,rfl,rfl,rfl,rfl,?_,rfl,?_,rfl,rfl,rfl,rfl,rfl,rfl,rfl,rfl,rfl,trivial⟩
     ·exact dh
     ·rw [hS',hse];exact congrArg bs.c9 (TO S nd)
    |some old=>
     have hb:F3 nd S.2=!jQ nd.mA old.mA:=by grind [F3]
     have hls:=MU nd.mA old.mA;rw [Option.map_some];refine ak ?_;refine ⟨λh=>?_,λh=>?_⟩
     ·have h:(!jQ nd.mA old.mA)=true:=h;rw [hb,h,if_pos rfl] at hse
      conv=>whnf
      refine mf.k8 (kt:=9) (et:=64) (d:= .string) aG aG (.inl rfl) rfl rfl rfl rfl (DA _) ((tP nd.fm nd S.2).map jI) (MV nd.fm nd S.2) ?_
      conv=>whnf
      refine ⟨k+1,om,by grind,rfl,rfl,rfl,rfl,rfl,rfl,rfl,rfl,rfl,rfl,?_,rfl,?_,rfl,rfl,rfl,rfl,rfl,rfl,rfl,rfl,rfl,trivial⟩
      ·exact dh
      ·rw [hS',hse];exact congrArg bs.c9 (TO S nd)
     ·have h:(!jQ nd.mA old.mA)=false:=h;rw [hb,h,if_neg dd] at hse;subst hse
      conv=>whnf
      refine ⟨k+1,om,by grind,rfl,rfl,rfl,rfl,rfl,rfl,rfl,rfl,rfl,rfl,?_,rfl,?_,rfl,rfl,rfl,rfl,rfl,rfl,rfl,rfl,rfl,trivial⟩
      ·exact dh
      ·rw [hS'];rfl
   ·have h:j5 nd.mA=false:=h;rw [h,if_neg dd] at hse;subst hse
    conv=>whnf
    refine ⟨k+1,om,by grind,rfl,rfl,rfl,rfl,rfl,rfl,rfl,rfl,rfl,rfl,?_,rfl,?_,rfl,rfl,rfl,rfl,rfl,rfl,rfl,rfl,rfl,trivial⟩
    ·exact dh
    ·rw [hS'];rfl
  ·have h:nd.gh≠dir:=by simpa using h
   rw [decide_eq_false h,Bool.false_and,if_neg dd] at hse;subst hse
   conv=>whnf
   refine ⟨k+1,om,by grind,rfl,rfl,rfl,rfl,rfl,rfl,rfl,rfl,rfl,rfl,?_,rfl,?_,rfl,rfl,rfl,rfl,rfl,rfl,rfl,rfl,rfl,trivial⟩
   ·exact dh
   ·rw [hS'];rfl
 ·have h:=of_decide_eq_false h;obtain rfl:k=l.length:=om;rw [List.take_length]
  conv=>whnf
  exact ⟨_,_,⟨rfl,rfl⟩,rfl,⟨1,Nat.zero_le _,rfl,rfl⟩,trivial⟩
theorem Jl (nil:Bool) (l:List aI) (dir:Int) (s:List UInt8) (hi:∀ n∈l,dX n.bc) (hl:l.length<=1048576):
  aC Tryz.prog 133 [.ag nil 8 (cT l) .av, .aa .i64 dir, .ai s] (.aw [.aa .i64 (TN (mT l dir s)), .aE (mT l dir s).isSome]):=by
 have hck:=Bw nil l hi hl;have hsn:=MW nil l dir hl;unfold mT;refine bK Tryz.func133 ?_;refine ak ?_;cases fH l with
 |false=>
  exact bm
 |true=>
  rw [if_pos rfl];refine ak ?_;refine bz.Fp (es:=[]) trivial rfl (Nat.zero_le _) rfl hsn ?_;rintro x es ⟨rfl,rfl⟩;generalize ke l dir=S
  conv=>whnf
  refine mf.xQ dW (kt:=9) (et:=64) (d:= .string) aG aG rfl rfl aG rfl rfl (.inl rfl) rfl (DA _) ((gT s S.2).map λn=> .aK (iF n)) (Jm s S.2) ?_;cases hfm:gT s S.2 with
  |none=>
   rw [Option.map_none];exact bm
  |some nd=>
   rw [Option.map_some];exact bm
theorem Ge (nil n2:Bool) (l:List aI) (names:List (List UInt8)) (hi:∀ n∈l,dX n.bc) (hl:l.length<=1048576) (hn:names.length<=1048576):
  aC Tryz.prog 208 [.ag nil 8 (cT l) .av, .ag n2 1 (l5 names) .av] (.aw [.aa .i64 (jq l names).1, .aa .i64 (jq l names).2]):=by
 have hel:=Gd names;refine bK Tryz.func208 ?_
 conv=>whnf
 refine db.cK (X:=Nat×Int) (λx=>[(.aj 0, .ah (.ag nil 8 (cT l) .av)),(.aj 11, .ah (.ag n2 1 (l5 names) .av)),(.aj 12, .ah (.aa .i64 names.length)),(.aj 13, .ah (.aa .i64 x.1)),(.aj 6, .ah (.aa .i64 x.2))]) 0
  (λx=>x.1<=names.length/\dX x.2/\jq l names=Bp l x.2 (names.drop x.1)) (λx=>names.length - x.1) dd (0,0) ⟨Nat.zero_le _,by unfold dX;decide,rfl⟩ ⟨rfl,rfl,rfl,rfl,?_,rfl,rfl,rfl,rfl,rfl,trivial⟩ ?_
 ·show bs.ah (ae.aa .i64 (l5 names).length)=_;rw [hel]
 rintro ⟨k,at_⟩ ⟨h1,h2,h3⟩;simp only at h1 h2 h3;dsimp only;have hdr:=tS at_ h2;refine cn ?_;refine ⟨λh=>?_,λh=>?_⟩
 ·have h:=of_decide_eq_true h;have hlt:k<names.length:=om;have hg:=TM hlt;have hch:=Jl nil l at_ names[k] hi hl;rw [List.drop_eq_getElem_cons hlt,Bp] at h3;refine ak ?_;cases hd:fk at_ with
  |false=>
   rw [hd,if_neg dd] at h3;rw [h3];exact dC
  |true=>
   rw [hd,if_pos rfl] at h3;refine ak ?_;cases hc:mT l at_ names[k] with
   |none=>
    rw [hc] at h3;simp only at h3;rw [h3];exact dC
   |some nd=>
    have hmem:=hi nd (MA hc).1;rw [hc] at h3;simp only at h3;rw [show (some nd).isSome=true from rfl,show TN (some nd)=nd.bc from rfl];refine iV ?_;refine ⟨(k+1,nd.bc),⟨hlt,hmem,h3⟩,by grind,rfl,rfl,rfl,rfl,rfl,rfl,?_,rfl,rfl,rfl,trivial⟩;exact dh
 ·have h:=of_decide_eq_false h;rw [List.drop_of_length_le om,Bp] at h3;rw [h3]
  conv=>whnf
theorem acV (s:ByteArray) (c:Int) (w:World):Calls Tryz.prog 303 #[.string s, .int .u8 c] w λe w'=>e= .returned (.int .i64 (Lib.indexByte s.data.toList c.toNat.toUInt8))/\w'=w:=by
 go_enter Tryz.func303,Tryz.ntmps303
 go_wp2
 rw [run_callFunc_extern Tryz.func311 aG aG aG (e:=Extern.BytealgIndexByte.indexByte) aG];rw [Lib.run_indexByteString];simp only [Result.andThen];rw [Oper.upon_value]
 go_wp2
 go_ret
 trivial
theorem acQ (s:ByteArray) (w:World):Calls Tryz.prog 241 #[.string s, .string ⟨#[47]⟩] w λe w'=>e= .returned (.int .i64 (s.data.toList.count 47:Nat))/\w'=w:=by
 go_enter Tryz.func241,Tryz.ntmps241
 go_wp2
 rw [run_callFunc_extern Tryz.func279 aG aG aG (e:=Extern.BytealgCount.count) aG];rw [Lib.run_countString];simp only [Result.andThen];rw [Oper.upon_value]
 go_wp2
 go_ret
 trivial
theorem acW (s:List UInt8):aC Tryz.prog 303 [.ai s, .aa .u8 47] (.aa .i64 (Lib.indexByte s 47)):=
 .AN (lC (fn:=Tryz.f303) aG rfl aG) rfl (λw _=>(acV ⟨s.toArray⟩ 47 w).mono λ_ _ ⟨h1,h2⟩=>⟨h1,h2▸Below.refl _ _,h2▸Nat.le_refl _⟩) (λ_ _=> .fK _ _)
theorem acR (s:List UInt8):aC Tryz.prog 241 [.ai s, .ai [47]] (.aa .i64 (s.count 47:Nat)):=
 .AN (lC (fn:=Tryz.f241) aG rfl aG) rfl (λw _=>(acQ ⟨s.toArray⟩ w).mono λ_ _ ⟨h1,h2⟩=>⟨h1,h2▸Below.refl _ _,h2▸Nat.le_refl _⟩) (λ_ _=> .fK _ _)
theorem acU (s:List UInt8):aC Tryz.prog 280 [.ai s, .ai [47]] (.aa .i64 (Lib.indexByte s 47)):=by
 refine bK Tryz.func280 ?_;refine ak ?_;refine ⟨λh=>?_,λ_=>?_⟩
 ·conv=>whnf
  obtain rfl:[47]=s:=of_decide_eq_true h;rfl
 refine ak ?_;refine ⟨47,⟨om,rfl⟩,?_⟩
 conv=>whnf
 refine bz.eV (acW s) rfl ?_
 conv=>whnf
theorem acX (s:List UInt8):aC Tryz.prog 242 [.ai s, .ai [47]] (.aa .i64 (Lib.indexByte s 47)):=by
 refine bK Tryz.func242 ?_
 conv=>whnf
 refine bz.eV (acU s) rfl ?_
 conv=>whnf
def fN (l:List (List UInt8)):List (List ae):=l.map λt=>[.ai t]
def pT (l:List (List UInt8)) (n:Nat):List ae:=l.map ae.ai++List.replicate n (ae.ai [])
theorem acY (n:Nat):eB n [ae.ai []]=pT [] n:=by
 unfold eB pT;simp_all
theorem MX (l:List (List UInt8)) (n:Nat):(pT l n).length=l.length+n:=by simp [pT]
theorem TP {l:List (List UInt8)} {i k:Nat} (x:List UInt8) (h:l.length=i) (hk:0<k):(pT l k).take (0+i*1)++[ae.ai x]++(pT l k).drop (0+i*1+1)=pT (l++[x]) (k - 1):=by
 obtain ⟨k,rfl⟩:∃ j,k=j+1:=⟨k - 1,om⟩;subst h;have e:(l.map ae.ai).length=0+l.length*1:=by simp
 grind [pT,List.drop_of_length_le]
theorem acT (s:List UInt8) (hs:s.length<=1048576):aC Tryz.prog 206 [.ai s, .ai [47], .aa .i64 0, .aa .i64 (-1)] (.ag false 1 (fN (jP s)) .av):=by
 refine bK Tryz.func206 ?_;have hc:=acR s;have hcl:=List.count_le_length (a:=47) (l:=s);generalize hC:s.count 47=N at hc hcl;refine ak ?_;have w1:IntKind.i64.wrap ((N:Int)+1)=(N:Int)+1:=bj om om;have w2:IntKind.i64.wrap ((s.length:Int)+1)=(s.length:Int)+1:=bj om om;have hmin:min (IntKind.i64.wrap ((N:Int)+1)) (IntKind.i64.wrap ((s.length:Int)+1))=((N+1:Nat):Int):=by rw [w1,w2];omega
 refine ⟨⟨by grind,rfl,dG (by grind) dd⟩,?_⟩
 conv=>whnf
 refine db.cK (X:=Nat×List (List UInt8)×List UInt8) (λx=>[(.aj 0, .ah (.ai x.2.2)),(.aj 1, .ah (.ai [47])),(.aj 2, .ah (.aa .i64 0)),(.aj 3, .ah (.aa .i64 (N:Nat))),(.aj 9, .ah (.aL 18 0 1 (N+1) true)),(.aj 10, .ah (.aa .i64 x.1)),
  (.af 18, .aR 9 (pT x.2.1 (N+1 - x.1)))]) 19
  (λx=>x.1<=N/\x.2.1.length=x.1/\x.2.2.length<=1048576/\x.2.2.count 47=N - x.1/\jP s=x.2.1++jP x.2.2) (λx=>N - x.1) dd (0,[],s) ⟨Nat.zero_le _,rfl,hs,hC,rfl⟩
  ⟨rfl,rfl,rfl,rfl,rfl,rfl,?_,rfl,?_,rfl,rfl,rfl,?_,rfl,trivial⟩ ?_
 ·show bs.ah (ae.aa .i64 (IntKind.i64.wrap (min (IntKind.i64.wrap ((N:Int)+1)) (IntKind.i64.wrap ((s.length:Int)+1)) - 1)))=_;grind [bj]
 ·show bs.ah (ae.aL 18 0 1 (min (IntKind.i64.wrap ((N:Int)+1)) (IntKind.i64.wrap ((s.length:Int)+1))).toNat true)=_;rw [hmin];rfl
 ·show bs.aR _ (eB (min (IntKind.i64.wrap ((N:Int)+1)) (IntKind.i64.wrap ((s.length:Int)+1))).toNat [ae.ai []])=_;grind [acY]
 rintro ⟨i,done,rest⟩ ⟨h1,h2,h3,h4,h5⟩;simp only at h1 h2 h3 h4 h5;have hi:=acX rest;refine cn ?_;refine ⟨λh=>?_,λh=>?_⟩
 ·have h:=of_decide_eq_true h;obtain ⟨m,hm⟩:=aa9 (s:=rest) om;obtain ⟨q1,q2,q3⟩:=Ss hm;rw [hm] at hi;refine eJ ?_;have w3:IntKind.i64.wrap ((m:Int)+0)=(m:Int):=bj om om;have w4:IntKind.i64.wrap ((m:Int)+([47]:List UInt8).length)=((m+1:Nat):Int):=bj (by simp;omega) (by simp;omega)
  conv=>whnf
  rw [w3];refine ⟨by grind,?_⟩;refine cC ?_;refine ⟨by grind [MX],?_⟩
  conv=>whnf
  rw [w4];refine ⟨by grind,?_⟩
  conv=>whnf
  refine ⟨(i+1,done++[rest.take m],rest.drop (m+1)),⟨om,by simp_all,by grind,by grind,by simp_all⟩,by grind,rfl,rfl,rfl,rfl,rfl,rfl,rfl,rfl,rfl,rfl,?_,rfl,?_,rfl,trivial⟩
  ·show bs.ah (ae.aa .i64 (IntKind.i64.wrap ((i:Int)+1)))=bs.ah (ae.aa .i64 ((i+1:Nat):Int));grind [bj]
  ·show bs.aR _ ((pT done (N+1 - i)).take (0+(i:Int).toNat*1)++[ae.ai (rest.take (m:Int).toNat)]++(pT done (N+1 - i)).drop (0+(i:Int).toNat*1+1))=bs.aR _ (pT (done++[rest.take m]) (N+1 - (i+1)));grind [TP]
 ·have h:=of_decide_eq_false h;obtain rfl:i=N:=om;have hlast:=aa8 (s:=rest) om;rw [h5,hlast];refine cC ?_;refine ⟨by grind [MX],?_⟩
  conv=>whnf
  have w5:IntKind.i64.wrap ((i:Int)+1)=((i+1:Nat):Int):=bj om om;refine ⟨by grind,?_⟩
  conv=>whnf
  have hfl:(fN (done++[rest])).flatten=(done++[rest]).map ae.ai:=by
   unfold fN;generalize done++[rest]=l
   induction l with
   |nil=>rfl
   |cons a l ih=>simp_all
  have hcl':(done++[rest]).length=i+1:=by simp_all
  refine .zf (t:=9) (cells:=pT (done++[rest]) 0) ?_ ?_ ?_ ?_ ?_ ?_
  ·show bs.aR _ ((pT done (i+1 - i)).take (0+(i:Int).toNat*1)++[ae.ai rest]++(pT done (i+1 - i)).drop (0+(i:Int).toNat*1+1))=bs.aR _ _;grind [TP]
  ·grind [fN]
  ·intro el hel;obtain ⟨t,_,rfl⟩:=List.mem_map.1 hel;rfl
  ·grind [MX]
  ·grind [pT,List.take_of_length_le]
  ·rw [hfl];generalize done++[rest]=l
   induction l with
   |nil=>rfl
   |cons a l ih=>exact ih
theorem acZ (s:List UInt8) (hs:s.length<=1048576):aC Tryz.prog 130 [.ai s, .ai [47]] (.ag false 1 (fN (jP s)) .av):=by
 refine bK Tryz.func130 ?_
 conv=>whnf
 refine bz.eV (acT s hs) rfl ?_
 conv=>whnf
theorem acS (s:List UInt8):aC Tryz.prog 129 [.ai s, .ai [47]] (.aw [.ai (if pb [47] s=true then s.drop 1 else s), .aE (pb [47] s)]):=by
 have h0:=Ty s [47];have h1:aC Tryz.prog 205 [.ai s, .ai [47]] (.aw [.ai (if pb [47] s=true then s.drop 1 else s), .aE (pb [47] s)]):=by
  refine bK Tryz.func205 ?_;cases hp:pb [47] s with
  |false=>
   rw [hp] at h0;exact bm
  |true=>
   rw [hp] at h0;have hl:1<=s.length:=by grind [pb]
   refine ak ?_;refine ⟨by trivial,?_⟩;exact bm
 refine bK Tryz.func129 ?_;exact dC
theorem ac0 {l:List (List UInt8)} {k:Nat} (h:k<l.length):(fN l)[k]? =some [.ai l[k]]:=by grind [fN]
theorem wS (l:List (List UInt8)):(fN l).length=l.length:=by simp [fN]
theorem ac1 (n:Bool) (l:List (List UInt8)) (hl:∀ t∈l,t.length<=1048576):aC Tryz.prog 131 [.ag n 1 (fN l) .av] (.aE (Bh l)):=by
 have hel:=wS l;refine bK Tryz.func131 ?_;unfold Bh
 conv=>whnf
 refine ⟨λh=>?_,λh=>?_⟩
 ·have h:=of_decide_eq_true h;rw [decide_eq_false (by omega:¬l.length<=16),Bool.false_and]
  conv=>whnf
 have h:=of_decide_eq_false h;rw [decide_eq_true (by omega:l.length<=16),Bool.true_and]
 conv=>whnf
 refine db.cK (λk:Nat=>[(.aj 8, .ah (.ag n 1 (fN l) .av)),(.aj 9, .ah (.aa .i64 (l.length:Nat))),(.aj 10, .ah (.aa .i64 k))])
  0 (λk=>k<=l.length/\(l.take k).all o8=true) (λk=>l.length - k) dd 0 ⟨Nat.zero_le _,rfl⟩ ⟨rfl,rfl,?_,rfl,rfl,rfl,trivial⟩ ?_
 ·show bs.ah (ae.aa .i64 ((fN l).length:Nat))=_;rw [hel]
 rintro k ⟨hk,hall⟩;refine cn ?_;refine ⟨λh=>?_,λh=>?_⟩
 ·have h:=of_decide_eq_true h;have hlt:k<l.length:=om;have hc:=Tz l[k] (hl _ (List.getElem_mem hlt))
  conv=>whnf
  refine ⟨_,⟨om,ac0 hlt⟩,?_⟩;refine ak ?_;cases hq:o8 l[k] with
  |false=>
   have e:l.all o8=false:=by
    grind
   rw [e];exact dC
  |true=>
   conv=>whnf
   refine ⟨λh=>absurd h dd,λ_=>?_⟩
   conv=>whnf
   refine ⟨k+1,⟨om,by grind [List.take_succ_eq_append_getElem]⟩,by grind,rfl,rfl,rfl,rfl,?_,rfl,trivial⟩;show bs.ah (ae.aa .i64 (IntKind.i64.wrap ((k:Int)+1)))=bs.ah (ae.aa .i64 ((k+1:Nat):Int));grind [bj]
 ·have h:=of_decide_eq_false h;obtain rfl:k=l.length:=om;rw [List.take_length] at hall;rw [hall]
  conv=>whnf
theorem ac3 (s:List UInt8):∀ t∈jP s,t.length<=s.length:=by
 induction s with
 |nil=>trivial
 |cons b l ih=>
  grind [jP]
def MY (o:Option (List (List UInt8))):ae:=match o with
 |none=> .aw [.ag true 1 [] .av, .aa .i64 10]
 |some []=> .aw [.ag true 1 [] .av, .aa .i64 0]
 |some (x::l)=> .aw [.ag false 1 (fN (x::l)) .av, .aa .i64 0]
theorem DC (p:List UInt8) (hp:p.length<=1048576):aC Tryz.prog 76 [.ai p] (MY (ir p)):=by
 have hcp:=acS p
 by_cases h:p=[47]
 ·have e:ir p=some []:=by grind [ir]
  rw [e];refine bK Tryz.func76 ?_
  conv=>whnf
  refine ⟨λ_=>?_,λh2=>absurd h (of_decide_eq_false h2)⟩;exact bm
 have first:∀ b,pb [47] p=b->(b=false->ir p=none)->(b=true->∃ r,p=47::r)->aC Tryz.prog 76 [.ai p] (MY (ir p)):=by
  intro b hb h0 h1;rw [hb] at hcp;cases b with
  |false=>
   rw [h0 rfl];refine bK Tryz.func76 ?_
   conv=>whnf
   refine fu h ?_;exact bm
  |true=>
   obtain ⟨r,rfl⟩:=h1 rfl;have hrl:r.length<=1048576:=by grind
   have hcp:aC Tryz.prog 129 [.ai (47::r), .ai [47]] (.aw [.ai r, .aE true]):=hcp;have hsp:=acZ r hrl;have hfi:=ac1 false (jP r) (λt ht=>Nat.le_trans (ac3 r t ht) hrl);have hne:=aba r;have e:ir (47::r)=if Bh (jP r)=true then some (jP r) else none:=by
    grind [ir]
   rw [e];generalize jP r=l at hsp hfi hne ⊢;cases hf:Bh l with
   |false=>
    rw [hf] at hfi;rw [if_neg dd];refine bK Tryz.func76 ?_
    conv=>whnf
    refine fu h ?_;exact bm
   |true=>
    rw [hf] at hfi;rw [if_pos rfl];refine bK Tryz.func76 ?_
    conv=>whnf
    refine fu h ?_;refine ak ?_;cases l with
    |nil=>trivial
    |cons x l=>rfl
 cases p with
 |nil=>exact first false rfl (λ_=>rfl) (λh=>by cases h)
 |cons b r=>
  by_cases hb:b=47
  ·exact first true (by grind [pb]) (λh=>by cases h) (λ_=>⟨r,by rw [hb]⟩)
  ·refine first false (by simp [pb,hb]) (λ_=>?_) (λh=>by cases h)
   grind [ir]
theorem ac2 (s:Option (List (List UInt8))):MY s= .aw [.ag (decide (s.getD []=[])) 1 (fN (s.getD [])) .av, .aa .i64 (if s.isSome=true then 0 else 10)]:=by
 match s with
 |none=>rfl
 |some []=>rfl
 |some (x::l)=>rfl
theorem vb {p:List UInt8}:((ir p).getD []).length<=16:=by
 unfold ir;grind [Bh]
end Go.Proofs.YtffboamedcmpaaaGreatDoor
