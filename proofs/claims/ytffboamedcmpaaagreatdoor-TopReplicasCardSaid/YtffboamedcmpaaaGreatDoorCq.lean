import Derived.Test.YtffboamedcmpaaaGreatDoorCp
set_option linter.all false
set_option maxHeartbeats 4000000
set_option maxRecDepth 100000
namespace Gw
def Ak (l:List aI) (N:List (List UInt8)) (here:Int):dt:=if (jq l N).2=0/\fk (jq l N).1=true/\(jq l N).1≠here then ⟨2,here⟩ else ⟨3,0⟩
theorem ahy {l:List aI} {t:cd} {names:cj (List UInt8)} {here b:Int} {r:List Int} (h:t.jB.ab=here::b::r):w7 l t names=⟨2,here⟩:=by
 grind [w7]
theorem ahx {l:List aI} {t:cd} {names:cj (List UInt8)} {here:Int} (h:t.jB.ab=[here]):w7 l t names=if 0<=t.mX/\t.mX<names.ab.length then (match mT l here (names.ab[t.mX.toNat]?.getD []) with
    |some n=>if fk n.bc=true then ⟨1,n.bc⟩ else Ak l names.ab here
    |none=>Ak l names.ab here) else Ak l names.ab here:=by
 unfold w7;rw [h];trivial
end Gw
namespace Go.Proofs.YtffboamedcmpaaaGreatDoor
open Gw
open Go.Am
theorem WV {l:List aI} (hi:∀ n∈l,dX n.bc):∀ (names:List (List UInt8)) (a:Int),dX a->dX (Bp l a names).1
 |[],a,h=>h
 |s::r,a,h=>by
  unfold Bp;split
  ·split
   ·rename_i n hc;exact WV hi r n.bc (hi n (MA hc).1)
   trivial
  trivial
theorem GV {l:List aI} (hi:∀ n∈l,dX n.bc) (names:List (List UInt8)):dX (jq l names).1:=WV hi names 0 (by unfold dX;decide)
theorem ahw (nq:Bool) (l:List aI) (hi:∀ n∈l,dX n.bc) (hl:l.length<=1048576) (t:cd) (names:cj (List UInt8)) (hn:names.ab.length<=1048576) (hh:t.jB.ab.length<=1048576):
  aC Tryz.prog 334 [.aK [cv 1 jv names], .ag nq 8 (cT l) .av,vz t] (GB (w7 l t names)):=by
 obtain ⟨call,⟨hq,has⟩,at_,done,ended,upto,begin_,mark,end_,answer⟩:=t;obtain ⟨nnq,N⟩:=names;have hfd:=Ge nq (cj.bZ ⟨nnq,N⟩) l N hi hl hn;have hfi:=GV hi N;cases has with
 |nil=>
  refine bK Tryz.func334 ?_
  conv=>whnf
  repeat ((first|refine ⟨λ_=>?_,λh=>absurd h dd⟩|refine ⟨λh=>absurd h dd,λ_=>?_⟩|refine ⟨λ_=>?_,λh=>absurd (show true=false from h) dd⟩|trivial);(conv=>whnf))
  rfl
 |cons here r=>
  cases r with
  |cons b r'=>
   rw [ahy rfl];refine bK Tryz.func334 ?_
   conv=>whnf
   refine ⟨λh=>absurd (beq_iff_eq.1 h) (by trivial),λ_=>?_⟩
   conv=>whnf
   refine ⟨_,⟨om,rfl⟩,?_⟩
   conv=>whnf
   refine ⟨λ_=>?_,λh=>absurd (of_decide_eq_false h) (by grind)⟩;exact bm
  |nil=>
   rw [ahx rfl];dsimp only;have hln:(N.map jv).length=N.length:=List.length_map _;have hdf:=tS _ hfi;have g1:(jq l N).2≠0->Ak l N here=⟨3,0⟩:=λh=>if_neg λh'=>h h'.1
   have g2:(jq l N).2=0->fk (jq l N).1=false->Ak l N here=⟨3,0⟩:=λ_ h=>if_neg λh'=>by simp_all
   have g3:(jq l N).2=0->fk (jq l N).1=true->(jq l N).1=here->Ak l N here=⟨3,0⟩:=λ_ _ h=>if_neg λh'=>h'.2.2 h
   have g4:(jq l N).2=0->fk (jq l N).1=true->(jq l N).1≠here->Ak l N here=⟨2,here⟩:=λh1 h2 h3=>if_pos ⟨h1,h2,h3⟩
   generalize Ak l N here=gt at*;generalize jq l N=fe at*;have rA:¬(0<=at_/\at_<(N.length:Int))->(if 0<=at_/\at_<(N.length:Int) then (match mT l here (N[at_.toNat]?.getD []) with
    |some n=>if fk n.bc=true then (⟨1,n.bc⟩:dt) else gt
    |none=>gt) else gt)=gt:=λh=>if_neg h
   have rB:∀ s,0<=at_/\at_<(N.length:Int)->N[at_.toNat]? =some s->(if 0<=at_/\at_<(N.length:Int) then (match mT l here (N[at_.toNat]?.getD []) with
    |some n=>if fk n.bc=true then (⟨1,n.bc⟩:dt) else gt
    |none=>gt) else gt)=(match mT l here s with
    |some n=>if fk n.bc=true then (⟨1,n.bc⟩:dt) else gt
    |none=>gt):=λs h h'=>by simp_all
   generalize (if 0<=at_/\at_<(N.length:Int) then (match mT l here (N[at_.toNat]?.getD []) with
    |some n=>if fk n.bc=true then (⟨1,n.bc⟩:dt) else gt
    |none=>gt) else gt)=R at*
   refine bK Tryz.func334 ?_
   conv=>whnf
   refine ⟨λh=>absurd (beq_iff_eq.1 h) (by trivial),λ_=>?_⟩
   conv=>whnf
   refine ⟨_,⟨om,rfl⟩,?_⟩
   conv=>whnf
   refine ⟨λh=>absurd (of_decide_eq_true h) (by trivial),λ_=>?_⟩
   conv=>whnf
   refine ⟨λh0=>?_,λh0=>?_⟩
   ·have h0:0<=at_:=of_decide_eq_true h0
    conv=>whnf
    refine ⟨λh1=>?_,λh1=>?_⟩
    ·have h1:=of_decide_eq_true h1;have h1:at_<(N.length:Int):=by simp_all
     have hlt:at_.toNat<N.length:=om;have hg:N[at_.toNat]? =some N[at_.toNat]:=List.getElem?_eq_getElem hlt;have hg2:(N.map jv)[at_.toNat]? =some (jv N[at_.toNat]):=by simp_all
     have rC:=rB _ ⟨h0,h1⟩ hg;have hch:=Jl nq l here N[at_.toNat] hi hl;have hcm:=λn=>MA (l:=l) (dir:=here) (s:=N[at_.toNat]) (n:=n)
     generalize N[at_.toNat]=s at*;refine iV ?_;refine ⟨_,⟨h0,hg2⟩,?_⟩;refine ak ?_;generalize mT l here s=ch at*;cases ch with
     |none=>
      refine ak ?_;refine ⟨λh=>?_,λh=>?_⟩
      ·have h:fe.2=0:=eq_of_beq h;refine ak ?_;cases hd:fk fe.1 with
       |true=>
        refine ak ?_;refine ⟨λh'=>?_,λh'=>?_⟩
        ·have h':fe.1≠here:=by simpa using h'
         conv=>whnf
         rw [rC,g4 h hd h'];rfl
        ·have h':fe.1=here:=by simpa using h'
         conv=>whnf
         rw [rC,g3 h hd h'];rfl
       |false=>
        refine ak ?_;rw [rC,g2 h hd];rfl
      ·have h:fe.2≠0:=by simpa using h
       refine ak ?_;rw [rC,g1 h];rfl
     |some nd=>
      have hdn:=tS nd.bc (hi nd (hcm nd rfl).1);refine cC ?_;cases hdd:fk nd.bc with
      |true=>
       refine cC ?_;rw [rC];dsimp only;rw [if_pos hdd];rfl
      |false=>
       have rD:R=gt:=by grind
       refine ak ?_;refine ⟨λh=>?_,λh=>?_⟩
       ·have h:fe.2=0:=eq_of_beq h;refine ak ?_;cases hd:fk fe.1 with
        |true=>
         refine ak ?_;refine ⟨λh'=>?_,λh'=>?_⟩
         ·have h':fe.1≠here:=by simpa using h'
          conv=>whnf
          rw [rD,g4 h hd h'];rfl
         ·have h':fe.1=here:=by simpa using h'
          conv=>whnf
          rw [rD,g3 h hd h'];rfl
        |false=>
         refine ak ?_;rw [rD,g2 h hd];rfl
       ·have h:fe.2≠0:=by simpa using h
        refine ak ?_;rw [rD,g1 h];rfl
    ·have h1:=of_decide_eq_false h1;have rE:=rA λh'=>h1 (by simp_all)
     refine ak ?_;refine ⟨λh=>?_,λh=>?_⟩
     ·have h:fe.2=0:=eq_of_beq h;refine ak ?_;cases hd:fk fe.1 with
      |true=>
       refine ak ?_;refine ⟨λh'=>?_,λh'=>?_⟩
       ·have h':fe.1≠here:=by simpa using h'
        conv=>whnf
        rw [rE,g4 h hd h'];rfl
       ·have h':fe.1=here:=by simpa using h'
        conv=>whnf
        rw [rE,g3 h hd h'];rfl
      |false=>
       refine ak ?_;rw [rE,g2 h hd];rfl
     ·have h:fe.2≠0:=by simpa using h
      refine ak ?_;rw [rE,g1 h];rfl
   ·have h0:¬0<=at_:=of_decide_eq_false h0;have rE:=rA λh'=>h0 h'.1
    refine ak ?_;refine ⟨λh=>?_,λh=>?_⟩
    ·have h:fe.2=0:=eq_of_beq h;refine ak ?_;cases hd:fk fe.1 with
     |true=>
      refine ak ?_;refine ⟨λh'=>?_,λh'=>?_⟩
      ·have h':fe.1≠here:=by simpa using h'
       conv=>whnf
       rw [rE,g4 h hd h'];rfl
      ·have h':fe.1=here:=by simpa using h'
       conv=>whnf
       rw [rE,g3 h hd h'];rfl
     |false=>
      refine ak ?_;rw [rE,g2 h hd];rfl
    ·have h:fe.2≠0:=by simpa using h
     refine ak ?_;rw [rE,g1 h];rfl
def OL (c:bu):ae:= .aK [.aa .i64 c.dD, .ai c.bY, .ai c.fO, .ai c.ia, .aa .i64 c.cR]
theorem ahA (c:bu):aC Tryz.prog 336 [OL c] (.ag (sE c).isEmpty 1 ((sE c).map jv) .av):=by
 obtain ⟨kind,path,to,data,n⟩:=c;unfold sE;dsimp only
 by_cases h5:kind=5
 ·subst h5;rw [if_pos rfl];refine cU Tryz.func336 ?_;exact dC
 ·rw [if_neg h5]
  by_cases h6:kind=6
  ·subst h6;rw [if_pos rfl];refine cU Tryz.func336 ?_;exact dC
  ·rw [if_neg h6];refine cU Tryz.func336 ?_
   conv=>whnf
   refine ⟨λh=>absurd (eq_of_beq h) h5,λ_=>?_⟩
   conv=>whnf
   refine ⟨λh=>absurd (eq_of_beq h) h6,λ_=>?_⟩;exact bm
theorem OK {l:List aI} {b:Int} (hl:l.length<=1048576):(jS l b).length<=1048576:=by
 grind [jS,FX]
theorem GW (D:List Int):fL (ix D).flatten=true:=by
 induction D with
 |nil=>rfl
 |cons a D ih=>exact ih
theorem ahz (nq:Bool) (l:List aI) (hi:∀ n∈l,dX n.bc) (hl:l.length<=1048576) (c:bu) (hp1:c.bY.length<=1048576) (hp2:c.fO.length<=1048576):
  aC Tryz.prog 337 [OL c, .ag nq 8 (cT l) .av] (.ag false 1 ((DO l c).map ie) .av):=by
 have hpa:=ahA c;have hP:∀ p∈sE c,p.length<=1048576:=λp hp=>by
  grind [sE]
 have hP2:(sE c).length<=2:=by grind [sE]
 unfold DO;generalize sE c=P at*;have hPl:(P.map jv).length=P.length:=List.length_map _;refine aC.IH (Rj.II dW (fn:=Tryz.f337) aG rfl aG rfl rfl ?_);refine eK ?_;refine db.P4 ?_;refine eK ?_;refine eK ?_;refine eK ?_;refine ak ?_;refine db.aat 5 3 1 rfl rfl ?_;have hD0:(P.take 0).foldl (po l) []=[]:=rfl;have hDl:∀ k,((P.take k).foldl (po l) []).length<=k:=λk=>by
  induction k with
  |zero=>exact Nat.le_refl _
  |succ k ih=>
   by_cases hk:k<P.length
   ·rw [List.take_succ_eq_append_getElem hk,List.foldl_append,List.foldl_cons,List.foldl_nil];grind [po]
   grind [List.take_of_length_le]
 refine db.cK (λk:Nat=>[(.aj 3, .ah (.ar 1 0)),(.af 1, .au 25 [.ag nq 8 (cT l) .av]),(.aj 5, .ah (.ag (decide ((P.take k).foldl (po l) []=[])) 1 (ix ((P.take k).foldl (po l) [])) (.cO 7))),(.aJ 7, .aN 3 1 ((P.take k).foldl (po l) []).length),
  (.aj 15, .ah (.ag P.isEmpty 1 (P.map jv) .av)),(.aj 16, .ah (.aa .i64 P.length)),(.aj 17, .ah (.aa .i64 k))]) 8
  (λk=>k<=P.length) (λk=>P.length - k) dd 0 (Nat.zero_le _) ⟨rfl,rfl,rfl,rfl,rfl,rfl,rfl,rfl,rfl,rfl,?_,rfl,rfl,rfl,trivial⟩ ?_
 ·show bs.ah (ae.aa .i64 ((P.map jv).length:Nat))=_;rw [hPl]
 intro k hk;refine cn ?_;refine ⟨λh=>?_,λh=>?_⟩
 ·have h:=of_decide_eq_true h;have hlt:k<P.length:=om;have hg:=lN jv hlt;have hD1:(P.take (k+1)).foldl (po l) []=po l ((P.take k).foldl (po l) []) P[k]:=by grind [List.take_succ_eq_append_getElem]
  have hpl:=hP P[k] (List.getElem_mem hlt);have hDk:=hDl k;have w1:IntKind.i64.wrap ((k:Int)+1)=((k+1:Nat):Int):=by grind [bj]
  generalize P[k]=p at*;have hsp:=DC p hpl;have hps2:=λns (e:ir p=some ns)=>by have:=vb (p:=p);rw [e] at this;exact this
  generalize (P.take k).foldl (po l) []=D at*;generalize hdd:po l D p=D2 at*;unfold po at hdd;generalize ir p=ps at*;refine ak ?_;cases ps with
  |none=>
   refine iV ?_;subst hdd;refine ⟨k+1,om,by show P.length - (k+1)<P.length - k;omega,rfl,rfl,rfl,rfl,?_,rfl,?_,rfl,rfl,rfl,rfl,rfl,?_,rfl,trivial⟩
   ·rw [hD1];rfl
   ·rw [hD1];rfl
   ·exact congrArg (λx=>bs.ah (ae.aa .i64 x)) w1
  |some ps=>
   cases ps with
   |nil=>
    refine iV ?_;subst hdd;refine ⟨k+1,om,by show P.length - (k+1)<P.length - k;omega,rfl,rfl,rfl,rfl,?_,rfl,?_,rfl,rfl,rfl,rfl,rfl,?_,rfl,trivial⟩
    ·rw [hD1];rfl
    ·rw [hD1];rfl
    ·exact congrArg (λx=>bs.ah (ae.aa .i64 x)) w1
   |cons a r=>
    dsimp only at hdd;have hle:(fN (a::r)).length=r.length+1:=by rw [wS];rfl
    have htk:(fN (a::r)).take r.length=((a::r).dropLast).map jv:=by rw [List.dropLast_eq_take];show ((a::r).map _).take _=_;rw [<-List.map_take];rfl
    have h16:r.length+1<=16:=hps2 (a::r) rfl;have w2:IntKind.i64.wrap (((fN (a::r)).length:Int) - 1)=(r.length:Int):=by grind [bj]
    have hfd:=Ge nq false l (a::r).dropLast hi hl (by grind);have hfi:=GV hi (a::r).dropLast;have hdf:=tS _ hfi;have hct:=Dx (decide (D=[])) D (jq l (a::r).dropLast).1 om;have hDz:(ix D).length=D.length:=List.length_map _;generalize (a::r).dropLast=N at*;generalize jq l N=fe at*;refine cC ?_;rw [w2];refine cC ?_;rw [Int.toNat_natCast,htk];refine ak ?_;refine ⟨λh1=>?_,λh1=>?_⟩
    ·have h1:fe.2≠0:=by simpa using h1
     refine iV ?_;have hdd:D=D2:=by simp_all
     subst hdd;refine ⟨k+1,om,by grind,rfl,rfl,rfl,rfl,?_,rfl,?_,rfl,rfl,rfl,rfl,rfl,?_,rfl,trivial⟩
     ·rw [hD1];rfl
     ·rw [hD1];rfl
     ·exact congrArg (λx=>bs.ah (ae.aa .i64 x)) w1
    ·have h1:fe.2=0:=by simpa using h1
     refine ak ?_;cases hd:fk fe.1 with
     |false=>
      refine iV ?_;have hdd:D=D2:=by simp_all
      subst hdd;refine ⟨k+1,om,by grind,rfl,rfl,rfl,rfl,?_,rfl,?_,rfl,rfl,rfl,rfl,rfl,?_,rfl,trivial⟩
      ·rw [hD1];rfl
      ·rw [hD1];rfl
      ·exact congrArg (λx=>bs.ah (ae.aa .i64 x)) w1
     |true=>
      refine ak ?_;cases hcn:D.contains fe.1 with
      |true=>
       refine iV ?_;have hdd:D=D2:=by simp_all
       subst hdd;refine ⟨k+1,om,by grind,rfl,rfl,rfl,rfl,?_,rfl,?_,rfl,rfl,rfl,rfl,rfl,?_,rfl,trivial⟩
       ·rw [hD1];rfl
       ·rw [hD1];rfl
       ·exact congrArg (λx=>bs.ah (ae.aa .i64 x)) w1
      |false=>
       refine ak ?_;refine ⟨⟨hDz.symm,dG (by grind) dd⟩,?_⟩
       conv=>whnf
       have hdd:D++[fe.1]=D2:=by simp_all
       subst hdd;refine ⟨k+1,om,by grind,rfl,rfl,rfl,rfl,?_,rfl,?_,rfl,rfl,rfl,rfl,rfl,?_,rfl,trivial⟩
       ·rw [hD1];show bs.ah (ae.ag (decide (D=[]) && false) 1 _ _)=_;rw [Bool.and_false,decide_eq_false (show ¬D++[fe.1]=[] by simp)];unfold ix;rw [List.map_append];rfl
       ·rw [hD1,List.length_append];show bs.aN _ 1 ((ix D).length+1)=_;simp_all
       ·exact congrArg (λx=>bs.ah (ae.aa .i64 x)) w1
 ·have h:=of_decide_eq_false h;have hkP:k=P.length:=om;subst hkP;rw [List.take_of_length_le (Nat.le_refl _)];have hDl2:=hDl P.length;rw [List.take_of_length_le (Nat.le_refl _)] at hDl2;generalize P.foldl (po l) []=D at*;have hDz:(ix D).length=D.length:=List.length_map _;have h2:D.length<=2:=om;clear hD0 hDl
  conv=>whnf
  refine eK ?_
  by_cases h22:D.length=2
  ·obtain ⟨a,b,rfl⟩:∃ a b,D=[a,b]:=by
    match D,h22 with
    |[a,b],_=>simp_all
   refine db.CF (db.CF (se dW jd _ _ _ _ ?_))
   conv=>whnf
   refine db.CE rfl ?_;refine cC ?_;refine eK ?_;refine ⟨_,⟨om,rfl⟩,?_⟩
   conv=>whnf
   refine ⟨_,⟨om,rfl⟩,?_⟩
   conv=>whnf
   refine ⟨aG,?_⟩;have hor:DQ l [a,b]=if Gr l a b=false/\(Gr l b a=true\/b<a) then [b,a] else [a,b]:=rfl
   have hA1:=Gc nq l b hi hl;have hC1:=Dx (decide (jS l b=[])) (jS l b) a (OK hl);have hA2:=Gc nq l a hi hl;have hC2:=Dx (decide (jS l a=[])) (jS l a) b (OK hl);have hc1:=OJ false false [[.aa .i64 1]] (ix [a,b]) (λe he=>by simp_all) (λe he=>by obtain ⟨z,_,rfl⟩:=List.mem_map.1 he;rfl) rfl (GW _) (by simp_all);have hc2:=OJ false false [[.aa .i64 1]] (ix [b,a]) (λe he=>by simp_all) (λe he=>by obtain ⟨z,_,rfl⟩:=List.mem_map.1 he;rfl) rfl (GW _) (by show 1+2<=_;omega);unfold Gr at hor;generalize DQ l [a,b]=O at*;refine eK ?_;refine bn Tryz.func338 ?_;refine ak ?_;cases h1:(jS l b).contains a with
   |true=>
    have hO:O=[a,b]:=by simp_all
    refine ak ?_;rw [hO];refine db.CE rfl ?_
    conv=>whnf
    refine db.KV ?_
    conv=>whnf
    refine cn ?_;refine ak ?_;exact ⟨_,iL.bw _,iL.bw _⟩
   |false=>
    refine ak ?_;refine bn Tryz.func338 ?_;refine ak ?_;cases h2:(jS l a).contains b with
    |true=>
     have hO:O=[b,a]:=by simp_all
     refine ak ?_;rw [hO];refine db.CE rfl ?_
     conv=>whnf
     refine db.LD (m:=8) (es:=[(.aj 12, .ah (.aa .i64 a)),(.aj 13, .ah (.aa .i64 b))]) 5 7 ⟨rfl,rfl,rfl,rfl,trivial⟩ dd rfl dd rfl rfl dd (by simp [ix]) (λel hel y hy=>by
      obtain ⟨z,_,rfl⟩:=List.mem_map.1 hel;rw [List.mem_singleton] at hy;subst hy;rfl) ?_
     refine cn ?_;refine ⟨⟨dd,by show 0<2;decide⟩,?_⟩
     conv=>whnf
     refine ⟨by show 1<=2;decide,?_⟩
     conv=>whnf
     refine ⟨⟨dd,by show 1<2;decide⟩,?_⟩
     conv=>whnf
     refine ⟨by trivial,?_⟩
     conv=>whnf
     refine db.WQ 5 8 (ix [b,a]) dd rfl rfl rfl rfl (λe he=>by obtain ⟨z,_,rfl⟩:=List.mem_map.1 he;rfl) (GW _) ?_;refine cn ?_;refine ak ?_;exact ⟨_,iL.bw _,iL.bw _⟩
    |false=>
     refine ak ?_;refine db.CE rfl ?_
     conv=>whnf
     refine ⟨λh3=>?_,λh3=>?_⟩
     ·have h3:=of_decide_eq_true h3;have hO:O=[b,a]:=by simp_all
      rw [hO];refine db.LD (m:=8) (es:=[(.aj 12, .ah (.aa .i64 a)),(.aj 13, .ah (.aa .i64 b))]) 5 7 ⟨rfl,rfl,rfl,rfl,trivial⟩ dd rfl dd rfl rfl dd (by simp [ix]) (λel hel y hy=>by
       obtain ⟨z,_,rfl⟩:=List.mem_map.1 hel;rw [List.mem_singleton] at hy;subst hy;rfl) ?_
      refine cn ?_;refine ⟨⟨dd,by show 0<2;decide⟩,?_⟩
      conv=>whnf
      refine ⟨by show 1<=2;decide,?_⟩
      conv=>whnf
      refine ⟨⟨dd,by show 1<2;decide⟩,?_⟩
      conv=>whnf
      refine ⟨by trivial,?_⟩
      conv=>whnf
      refine db.WQ 5 8 (ix [b,a]) dd rfl rfl rfl rfl (λe he=>by obtain ⟨z,_,rfl⟩:=List.mem_map.1 he;rfl) (GW _) ?_;refine cn ?_;refine ak ?_;exact ⟨_,iL.bw _,iL.bw _⟩
     ·have h3:=of_decide_eq_false h3;have hO:O=[a,b]:=by simp_all
      rw [hO];refine db.KV ?_
      conv=>whnf
      refine cn ?_;refine ak ?_;exact ⟨_,iL.bw _,iL.bw _⟩
  ·have hor:DQ l D=D:=by
    match D,h22 with
    |[],_=>rfl
    |[_],_=>rfl
    |_::_::_::_,_=>rfl
   rw [hor];have hcc:=OJ false (decide (D=[])) [[.aa .i64 1]] (ix D) (λe he=>by simp_all) (λe he=>by obtain ⟨z,_,rfl⟩:=List.mem_map.1 he;rfl) rfl (GW D) (by grind);refine eK ?_;refine ⟨λh=>absurd (eq_of_beq h) (by rw [hDz];omega),λ_=>?_⟩
   conv=>whnf
   refine cn ?_;refine ak ?_;exact ⟨_,iL.bw _,iL.bw _⟩
theorem ahB (l:List aI) (c:bu):(DO l c).length<=1000:=by
 have hD:∀ (P:List (List UInt8)) (D:List Int),(P.foldl (po l) D).length<=D.length+P.length:=λP=>by
  induction P with
  |nil=>simp_all
  |cons p P ih=>
   grind [po]
 have hP2:(sE c).length<=2:=by grind [sE]
 unfold DO;have h1:=hD (sE c) [];rw [List.length_nil] at h1;generalize (sE c).foldl (po l) []=D at*;rw [List.length_cons];have:(DQ l D).length=D.length:=by
  unfold DQ;grind
 omega
theorem ahE (nq:Bool) (l:List aI) (hi:∀ n∈l,dX n.bc) (hl:l.length<=1048576) (t:cd) (c:bu) (hp1:c.bY.length<=1048576) (hp2:c.fO.length<=1048576) (hh:t.jB.ab.length<=1048576):
  aC Tryz.prog 335 [OL c, .ag nq 8 (cT l) .av,vz t] (GB (DP l t c)):=by
 have hlk:=ahz nq l hi hl c hp1 hp2;have hll:=ahB l c;unfold DP;generalize DO l c=L at*;have hLz:(L.map ie).length=L.length:=List.length_map _;refine bK Tryz.func335 ?_;refine ak ?_;refine db.cK (λk:Nat=>[(.aj 5, .ah (.ar 1 0)),(.af 1, .au 78 (cr t)),(.aj 6, .ah (.ar 2 0)),(.af 2, .au 233 [.aa .i64 0, .aa .i64 0]),(.aj 11, .ah (.ag false 1 (L.map ie) .av)),(.aj 12, .ah (.aa .i64 L.length)),(.aj 13, .ah (.aa .i64 k))]) 3
  (λk=>k<=L.length/\∀ x∈L.take k,t.jB.ab.contains x=true) (λk=>L.length - k) dd 0 ⟨Nat.zero_le _,λx hx=>by cases hx⟩ ⟨rfl,rfl,rfl,rfl,rfl,rfl,rfl,rfl,rfl,rfl,?_,rfl,rfl,rfl,trivial⟩ ?_
 ·show bs.ah (ae.aa .i64 ((L.map ie).length:Nat))=_;rw [hLz]
 rintro k ⟨hk,hall⟩;refine cn ?_;refine ⟨λh=>?_,λh=>?_⟩
 ·have h:=of_decide_eq_true h;have hlt:k<L.length:=om;have hg:=lN ie hlt;have hc:=Dx t.jB.bZ t.jB.ab L[k] hh;have w1:IntKind.i64.wrap ((k:Int)+1)=((k+1:Nat):Int):=by grind [bj]
  refine ak ?_;cases hcn:t.jB.ab.contains L[k] with
  |false=>
   have hf:L.find? (λk=>!t.jB.ab.contains k)=some L[k]:=by
    grind [List.find?_eq_some_iff_getElem,List.mem_take_iff_getElem]
   rw [hf];exact bm
  |true=>
   refine iV ?_;refine ⟨k+1,⟨om,λx hx=>?_⟩,by grind,rfl,rfl,rfl,rfl,rfl,rfl,rfl,rfl,rfl,rfl,rfl,rfl,?_,rfl,trivial⟩
   ·grind [List.take_succ_eq_append_getElem]
   ·exact congrArg (λx=>bs.ah (ae.aa .i64 x)) w1
 ·have h:=of_decide_eq_false h;have hkL:k=L.length:=om;subst hkL;rw [List.take_of_length_le (Nat.le_refl _)] at hall;have hf:L.find? (λk=>!t.jB.ab.contains k)=none:=List.find?_eq_none.2 λx hx=>by simp_all
  rw [hf];exact bm
theorem ahD (nq:Bool) (l:List aI) (t:cd):
  aC Tryz.prog 333 [.aK [], .ag nq 8 (cT l) .av,vz t] (GB ⟨3,0⟩):=by
 refine bK Tryz.func333 ?_;exact bm
theorem ahF {c:bu} {all:Bool} {s:cj (List UInt8)} (h:zQ c all= .sC s):s.ab.length<=1048576:=by
 have hp:=vb (p:=c.bY);unfold zQ Nu at h;cases hq:ir c.bY with
 |none=>rw [hq] at h;cases h;exact Nat.zero_le _
 |some l=>
  rw [hq] at h hp;have hp:l.length<=16:=hp;cases l with
  |nil=>cases h;exact Nat.zero_le _
  |cons a r=>
   grind [cj.jK]
theorem WW {c:bu} {s:cj (List UInt8)} (h:sF c= .sC s):s.ab.length<=1048576:=by
 grind [sF,ahF]
theorem ahG {c d:bu} {all:Bool}:zQ c all≠ .yx d:=by
 grind [zQ]
theorem ahH {c d:bu} (h:sF c= .yx d):d=c:=by
 grind [sF,ahG]
theorem ahC (nq:Bool) (l:List aI) (hi:∀ n∈l,dX n.bc) (hl:l.length<=1048576) (t:cd) (hp1:t.dN.bY.length<=1048576) (hp2:t.dN.fO.length<=1048576) (hh:t.jB.ab.length<=1048576):
  aC Tryz.prog 122 [.ag nq 8 (cT l) .av,vz t] (GB (ub l t)):=by
 have hw:=OG t.dN hp1;have hN:∀ s,sF t.dN= .sC s->s.ab.length<=1048576:=λs h=>WW h
 have hT:∀ c,sF t.dN= .yx c->c=t.dN:=λc h=>ahH h
 have wn:=λnames hn=>ahw nq l hi hl t names hn hh
 have tn:=ahE nq l hi hl t t.dN hp1 hp2 hh;have pn:=ahD nq l t;obtain ⟨call,⟨hq,has⟩,at_,done,ended,upto,begin_,mark,end_,answer⟩:=t;unfold ub;dsimp only at*;generalize sF call=W at*;cases ended with
 |true=>
  rw [if_pos rfl];refine bK Tryz.func122 ?_
  conv=>whnf
  repeat ((first|refine ⟨λ_=>?_,λh=>absurd h dd⟩|refine ⟨λh=>absurd h dd,λ_=>?_⟩|refine ⟨λ_=>?_,λh=>absurd (show true=false from h) dd⟩|trivial);(conv=>whnf))
  rfl
 |false=>
  rw [if_neg dd];cases done with
  |true=>
   rw [if_pos rfl];cases has with
   |nil=>
    dsimp only
    by_cases h12:call.dD=12
    ·rw [if_pos h12];obtain ⟨kind,p1,p2,p3,p4⟩:=call;subst h12;refine bK Tryz.func122 ?_;exact dC
    ·rw [if_neg h12];refine bK Tryz.func122 ?_;refine cC ?_;refine ⟨λh=>absurd (eq_of_beq h) h12,λ_=>?_⟩
     conv=>whnf
     repeat ((first|refine ⟨λ_=>?_,λh=>absurd h dd⟩|refine ⟨λh=>absurd h dd,λ_=>?_⟩|refine ⟨λ_=>?_,λh=>absurd (show true=false from h) dd⟩|trivial);(conv=>whnf))
     rfl
   |cons a r=>
    refine bK Tryz.func122 ?_;refine cC ?_;refine ⟨λ_=>?_,λh=>absurd (of_decide_eq_false h) (by simp_all)⟩
    conv=>whnf
    refine ⟨_,⟨om,rfl⟩,?_⟩
    conv=>whnf
    rfl
  |false=>
   rw [if_neg dd];cases W with
   |zP=>
    refine bK Tryz.func122 ?_;refine iV ?_;refine ⟨_,rfl,hw,?_⟩
    conv=>whnf
    refine ⟨aG,aG,333,aG,bz.eV (pn) rfl ?_⟩
    conv=>whnf
    refine ⟨aG,?_⟩
    conv=>whnf
    rfl
   |yx c=>
    have hc:=hT c rfl;subst hc;refine bK Tryz.func122 ?_;refine iV ?_;refine ⟨_,rfl,hw,?_⟩
    conv=>whnf
    refine ⟨aG,aG,335,aG,bz.eV (tn) rfl ?_⟩
    conv=>whnf
    refine ⟨aG,?_⟩
    conv=>whnf
    rfl
   |sC s=>
    have hs:=wn s (hN s rfl);refine bK Tryz.func122 ?_;refine iV ?_;refine ⟨_,rfl,hw,?_⟩
    conv=>whnf
    refine ⟨aG,aG,334,aG,bz.eV (hs) rfl ?_⟩
    conv=>whnf
    refine ⟨aG,?_⟩
    conv=>whnf
    rfl
theorem ahI (r:Int):aC Tryz.prog 57 [.aa .i64 r] (.aw [zU (rF r).1, .aa .i64 (rF r).2]):=by
 unfold rF;refine cU Tryz.func57 ?_
 conv=>whnf
 refine ⟨λh=>?_,λh=>?_⟩
 ·have h:=of_decide_eq_true h;rw [if_pos (.inl h)];refine ak ?_;exact iL.ml (.aX (iL.np oT) (.aX (iL.bw _) .fa))
 ·have h:=of_decide_eq_false h
  conv=>whnf
  refine ⟨λh2=>?_,λh2=>?_⟩
  ·have h2:=of_decide_eq_true h2;rw [if_pos (.inr h2)]
   conv=>whnf
   exact iL.ml (.aX (iL.np oT) (.aX (iL.bw _) .fa))
  ·have h2:=of_decide_eq_false h2;rw [if_neg (λq=>by omega)]
   conv=>whnf
   exact iL.ml (.aX (iL.np oT) (.aX (iL.bw _) .fa))
theorem En (nq:Bool) (l:List aI) (hi:∀ n∈l,dX n.bc) (hl:l.length<=1048576) (p:List UInt8) (hp:p.length<=1048576):
  aC Tryz.prog 137 [.ag nq 8 (cT l) .av, .ai p] (.aw [.aa .i64 (gx l p).1, .aa .i64 (gx l p).2]):=by
 have hsp:=DC p hp;have hps:=λns (e:ir p=some ns)=>by have:=vb (p:=p);rw [e] at this;exact this
 unfold gx;generalize ir p=ps at*;refine cU Tryz.func137 ?_;refine ak ?_;cases ps with
 |none=>
  exact bm
 |some ns=>
  have h16:ns.length<=16:=hps ns rfl;cases ns with
  |nil=>
   have hf:=Ge nq true l [] hi hl dd;exact bm
  |cons a r=>
   have hf:=Ge nq false l (a::r) hi hl om;exact bm
def WX:iC->Bool
 |[]=>true
 |(_, .aa .i64 _,_)::l=>WX l
 |_=>false
theorem mG:∀ {es:iC},WX es=true->∀ e∈es,oh (.int .i64) e.2.1
 |[],_,e,h=>by cases h
 |(c,k,v)::l,hb,e,h=>by
  cases k with
  |aa q n=>
   cases q with
   |i64=>
    rcases List.mem_cons.1 h with rfl|h
    ·rfl
    ·exact mG (es:=l) hb e h
   |_=>cases hb
  |_=>cases hb
def WY:iC:=[(0, .aa .i64 1, .aP 77 [] []),(1, .aa .i64 2, .aP 77 [] []),(2, .aa .i64 3, .aP 78 [] []),(3, .aa .i64 4, .aP 79 [] []),(4, .aa .i64 5, .aP 80 [] []),(5, .aa .i64 6, .aP 81 [] []),(6, .aa .i64 7, .aP 82 [] []),(7, .aa .i64 8, .aP 83 [] []),(8, .aa .i64 9, .aP 84 [] []),(9, .aa .i64 10, .aP 85 [] []),(10, .aa .i64 11, .aP 86 [] []),(11, .aa .i64 12, .aP 87 [] []),(12, .aa .i64 13, .aP 88 [] [])]
theorem ahJ:bz Tryz.prog 40 [] (aD []) 0 (cG 0 (λx e=>x= .sh 13 WY/\e=[])):=by
 refine bn Tryz.func40 ?_
 conv=>whnf
 refine mf.Fq rfl ?_
 conv=>whnf
 refine mf.k8 (kt:=3) (et:=118) (d:= .int .i64) aG aG (.inr rfl) rfl rfl rfl rfl (mG rfl) none rfl ?_
 conv=>whnf
 refine mf.k8 (kt:=3) (et:=118) (d:= .int .i64) aG aG (.inr rfl) rfl rfl rfl rfl (mG rfl) none rfl ?_
 conv=>whnf
 refine mf.k8 (kt:=3) (et:=118) (d:= .int .i64) aG aG (.inr rfl) rfl rfl rfl rfl (mG rfl) none rfl ?_
 conv=>whnf
 refine mf.k8 (kt:=3) (et:=118) (d:= .int .i64) aG aG (.inr rfl) rfl rfl rfl rfl (mG rfl) none rfl ?_
 conv=>whnf
 refine mf.k8 (kt:=3) (et:=118) (d:= .int .i64) aG aG (.inr rfl) rfl rfl rfl rfl (mG rfl) none rfl ?_
 conv=>whnf
 refine mf.k8 (kt:=3) (et:=118) (d:= .int .i64) aG aG (.inr rfl) rfl rfl rfl rfl (mG rfl) none rfl ?_
 conv=>whnf
 refine mf.k8 (kt:=3) (et:=118) (d:= .int .i64) aG aG (.inr rfl) rfl rfl rfl rfl (mG rfl) none rfl ?_
 conv=>whnf
 refine mf.k8 (kt:=3) (et:=118) (d:= .int .i64) aG aG (.inr rfl) rfl rfl rfl rfl (mG rfl) none rfl ?_
 conv=>whnf
 refine mf.k8 (kt:=3) (et:=118) (d:= .int .i64) aG aG (.inr rfl) rfl rfl rfl rfl (mG rfl) none rfl ?_
 conv=>whnf
 refine mf.k8 (kt:=3) (et:=118) (d:= .int .i64) aG aG (.inr rfl) rfl rfl rfl rfl (mG rfl) none rfl ?_
 conv=>whnf
 refine mf.k8 (kt:=3) (et:=118) (d:= .int .i64) aG aG (.inr rfl) rfl rfl rfl rfl (mG rfl) none rfl ?_
 conv=>whnf
 refine mf.k8 (kt:=3) (et:=118) (d:= .int .i64) aG aG (.inr rfl) rfl rfl rfl rfl (mG rfl) none rfl ?_
 conv=>whnf
 refine mf.k8 (kt:=3) (et:=118) (d:= .int .i64) aG aG (.inr rfl) rfl rfl rfl rfl (mG rfl) none rfl ?_
 conv=>whnf
 exact ⟨_,_,⟨rfl,rfl⟩,rfl,⟨1,Nat.zero_le _,rfl,rfl⟩,trivial⟩
def Eo (m:bM) (c:bu) (data:List UInt8) (nv:ae) (n:Int) (ev o:ae):List ae:=[cv 17 dY m.aA.b8,cv 8 iF m.aA.aQ, .aa .i64 m.eC, .aa .i64 m.iH,cv 2 iJ m.dO,cv 4 ej m.de, .aa .i64 m.fz,
 .aa .i64 0, .ai data,nv, .aa .i64 n,ev, .aa .i64 c.dD, .ai c.bY, .ai c.fO, .ai c.ia, .aa .i64 c.cR,o]
def OM (m:bM) (c:bu) (data:List UInt8) (nv:ae) (n:Int) (ev o:ae):List (Go.Am.aS×bs):=[(.af 10, .au 117 (Eo m c data nv n ev o))]
abbrev oH:ae:= .ag true 1 [] .bR
abbrev GX:ae:= .ag true 1 [] .av
abbrev nQ (m:bM) (c:bu):List (Go.Am.aS×bs):=OM m c [] oH 0 oH oH
abbrev W1 (m:bM) (c:bu) (o:aH):List (Go.Am.aS×bs):=OM m c [] GX 0 GX (.ag false 7 [cI o] .av)
abbrev W0 (m:bM) (c:bu):List (Go.Am.aS×bs):=OM m c [] GX 0 GX GX
theorem WZ (m:bM) (c:bu) (hl:m.aA.b8.ab.length<=1048576):bz Tryz.prog 134 [.ar 10 0] (aD (nQ m c)) 11 (cG 11 (λr es=>r= .cE (.aw [yq (jD m).1, .aa .i64 (jD m).2])/\es=nQ m c)):=by
 have hn:=ae7 m.eC m.iH;have hel:(m.aA.b8.ab.map dY).length=m.aA.b8.ab.length:=List.length_map _;unfold jD;generalize BE m.eC m.iH=S at*;cases S with
 |none=>
  refine bn Tryz.func134 ?_;refine ak ?_;exact ⟨_,_,⟨rfl,rfl⟩,rfl,⟨rfl,rfl⟩,⟨rfl,rfl,trivial⟩⟩
 |some st=>
  dsimp only
  by_cases h:200<=m.aA.b8.ab.length
  ·rw [if_pos h];refine bn Tryz.func134 ?_;refine cC ?_;refine C8 om ?_
   conv=>whnf
   exact ⟨_,_,⟨rfl,rfl⟩,rfl,⟨rfl,rfl⟩,⟨rfl,rfl,trivial⟩⟩
  ·rw [if_neg h];refine bn Tryz.func134 ?_;refine cC ?_;refine fu om ?_
   conv=>whnf
   exact ⟨_,_,⟨rfl,rfl⟩,rfl,⟨rfl,rfl⟩,⟨rfl,rfl,trivial⟩⟩
theorem ahK (m:bM) (c:bu) (o:aH) (hg:iy m.aA) (hf:lZ o):bz Tryz.prog 156 [.ar 10 0,mV o] (aD (nQ m c)) 11
  (cG 11 (λr es=>r= .cE (.aa .i64 (eF m.aA o).2)/\es=if (eF m.aA o).2=0 then W1 {m with aA:=(eF m.aA o).1} c o else W0 m c)):=by
 have ha:=OF hg o hf;generalize eF m.aA o=R at*;obtain ⟨g,e⟩:=R;refine bz.WO 10 ?_
 by_cases h:e=0
 ·subst h;rw [if_pos rfl];refine bn Tryz.func156 ?_
  conv=>whnf
  refine ⟨_,rfl,ha,?_⟩
  conv=>whnf
  refine ⟨aG,?_⟩;refine iV ?_;refine ⟨rfl,?_⟩
  conv=>whnf
  refine ⟨dG (by simp_all) dd,?_⟩;refine ak ?_;exact ⟨_,_,rfl,_,_,⟨rfl,rfl⟩,rfl,⟨rfl,rfl⟩,⟨rfl,rfl,trivial⟩⟩
 ·rw [if_neg h];refine bn Tryz.func156 ?_;refine ak ?_;refine ⟨λh2=>?_,λh2=>absurd (by simpa using h2) h⟩
  conv=>whnf
  exact ⟨_,_,rfl,_,_,⟨rfl,rfl⟩,rfl,⟨rfl,rfl⟩,⟨rfl,rfl,trivial⟩⟩
def xi (m:bM) (o:aH):Int:=if (jD m).2≠0 then (jD m).2 else (eF m.aA (sI o (jD m).1)).2
theorem Kc (m:bM) (c:bu) (o:aH) (hg:iy m.aA) (hf:lZ o):bz Tryz.prog 136 [.ar 10 0,mV o] (aD (nQ m c)) 11
  (cG 11 (λr es=>r= .cE (.aa .i64 (xi m o))/\es=if xi m o=0 then W1 {m with aA:=(eF m.aA (sI o (jD m).1)).1,eC:=(jD m).1.dg} c (sI o (jD m).1) else W0 m c)):=by
 have hn:=WZ m c (Nat.le_trans hg.qL dd);have ha:=λs=>ahK m c (sI o s) hg ⟨hf.wQ,hf.MS,hf.MR,hf.TD⟩
 unfold xi;generalize jD m=S at*;obtain ⟨s,e⟩:=S;have ha:=ha s;dsimp only at*;generalize hR:eF m.aA (sI o s)=R at*;obtain ⟨g,e2⟩:=R;dsimp only at*;refine bz.WO 10 ?_
 by_cases h:e=0
 ·subst h;rw [if_neg dd]
  by_cases h2:e2=0
  ·subst h2;rw [if_pos rfl] at ha ⊢;refine bn Tryz.func136 ?_;refine eJ ?_;exact ⟨_,_,rfl,_,_,⟨rfl,rfl⟩,rfl,⟨rfl,rfl⟩,⟨rfl,rfl,trivial⟩⟩
  ·rw [if_neg h2] at ha ⊢;refine bn Tryz.func136 ?_;refine eJ ?_;refine ⟨λ_=>?_,λq=>absurd (by simpa using q) h2⟩
   conv=>whnf
   exact ⟨_,_,rfl,_,_,⟨rfl,rfl⟩,rfl,⟨rfl,rfl⟩,⟨rfl,rfl,trivial⟩⟩
 ·rw [if_pos h,if_neg h];refine bn Tryz.func136 ?_;refine eJ ?_;refine ⟨λ_=>?_,λq=>absurd (by simpa using q) h⟩
  conv=>whnf
  exact ⟨_,_,rfl,_,_,⟨rfl,rfl⟩,rfl,⟨rfl,rfl⟩,⟨rfl,rfl,trivial⟩⟩
def bI (m:bM) (c:bu):dj:=⟨m,fg 0,c, .dE⟩
abbrev qO (d:dj):List (Go.Am.aS×bs):=[(.af 10, .au 117 (NB d))]
def W4 (m:bM) (c:bu) (o:aH):dj:=⟨{m with aA:=(eF m.aA (sI o (jD m).1)).1,eC:=(jD m).1.dg},fg 0,c,⟨false,[sI o (jD m).1]⟩⟩
theorem GY (m:bM) (c:bu) (o:aH):ll (bI m c) o=if xi m o=0 then (W4 m c o,0) else (bI m c,xi m o):=by
 unfold ll xi W4;rw [show (bI m c).bp=m from rfl];generalize jD m=S;obtain ⟨s,e⟩:=S;dsimp only
 by_cases h:e=0
 ·subst h;rw [if_neg (show ¬((0:Int)≠0) by decide),if_neg (show ¬((0:Int)≠0) by decide)];unfold uc;rw [show (bI m c).bp=m from rfl];generalize eF m.aA (sI o s)=R;obtain ⟨g,e⟩:=R;dsimp only
  by_cases h:e=0
  ·subst h;rfl
  ·simp [h]
 simp_all
theorem W3 (nq:Bool) (l:List aI) (hi:∀ n∈l,dX n.bc) (hl:l.length<=1048576) (p:List UInt8) (hp:p.length<=1048576):
  aC Tryz.prog 132 [.ag nq 8 (cT l) .av, .ai p] (.aw [.aa .i64 (kP l p).1.1, .ai (kP l p).1.2, .aa .i64 (kP l p).2]):=by
 have hsp:=DC p hp;have hps:=λns (e:ir p=some ns)=>by have:=vb (p:=p);rw [e] at this;exact this
 unfold kP;generalize ir p=ps at*;cases ps with
 |none=>
  refine bK Tryz.func132 ?_;exact dC
 |some ns=>
  have h16:ns.length<=16:=hps ns rfl;cases ns with
  |nil=>
   refine bK Tryz.func132 ?_;exact dC
  |cons a r=>
   dsimp only;have hle:(fN (a::r)).length=r.length+1:=by rw [wS];rfl
   have htk:(fN (a::r)).take r.length=((a::r).dropLast).map jv:=by rw [List.dropLast_eq_take];show ((a::r).map _).take _=_;rw [<-List.map_take];rfl
   have w2:IntKind.i64.wrap (((fN (a::r)).length:Int) - 1)=(r.length:Int):=by
    grind [bj]
   have hf:=Ge nq false l (a::r).dropLast hi hl (by grind);have hfi:=GV hi (a::r).dropLast;have hdf:=tS _ hfi;have hg:(fN (a::r))[r.length]? =some [.ai ((a::r).getLast (by simp))]:=by
    have:(a::r)[r.length]? =some ((a::r).getLast (by simp)):=by
     grind
    show ((a::r).map _)[r.length]? =_;grind
   generalize (a::r).getLast (by simp)=la at*;generalize (a::r).dropLast=N at*;generalize jq l N=fe at*;have go:∀ (R:(Int×List UInt8)×Int),R=(if fe.2≠0 then ((0,[]),fe.2) else if fk fe.1=false then ((0,[]),81) else ((fe.1,la),0))->aC Tryz.prog 132 [.ag nq 8 (cT l) .av, .ai p] (.aw [.aa .i64 R.1.1, .ai R.1.2, .aa .i64 R.2]):=by
    intro R hR;refine bK Tryz.func132 ?_;refine cC ?_;rw [w2];refine cC ?_;rw [Int.toNat_natCast,htk];refine ak ?_;refine ⟨λh=>?_,λh=>?_⟩
    ·have h:fe.2≠0:=by simpa using h
     rw [if_pos h] at hR;subst hR
     conv=>whnf
    ·have h:fe.2=0:=by simpa using h
     rw [if_neg (by rw [h];decide)] at hR;refine ak ?_;cases hd:fk fe.1 with
     |false=>
      rw [if_pos hd] at hR;subst hR;exact dC
     |true=>
      rw [if_neg (by rw [hd];decide)] at hR;subst hR;refine iV ?_;refine ⟨_,⟨om,by trivial⟩,?_⟩
      conv=>whnf
      refine ⟨aG,?_⟩
      conv=>whnf
   exact go _ rfl
theorem W5 {l:List aI} (hi:∀ n∈l,dX n.bc) (p:List UInt8):dX (kP l p).1.1/\(kP l p).1.2.length<=p.length:=by
 have z:dX 0:=by unfold dX;decide
 unfold kP;cases hp:ir p with
 |none=>simp_all
 |some ns=>
  have hs:=Us hp;grind [GV]
theorem Ep {l:List aI} (hi:∀ n∈l,dX n.bc) (p:List UInt8):dX (gx l p).1:=by
 grind [gx,dX,GV]
theorem ahL (s:iu) (f:Bool):dX (w9 s f):=by
 grind [w9,j5,dX]
theorem B4 {g:eh} (h:iy g):∀ n∈g.aQ.ab,dX n.bc:=λn hn=>by have:=h.Vs n hn;exact ⟨om,om⟩
theorem Er {g:eh} (h:iy g):g.aQ.ab.length<=1048576:=Nat.le_trans h.BP dd
theorem W6 (m:bM) (c:bu) (hg:iy m.aA) (hp:c.bY.length<=1048576):bz Tryz.prog 77 [.ar 10 0] (aD (nQ m c)) 11
  (cG 11 (λr es=>r= .cE (.aa .i64 (ud (bI m c)).2)/\es=qO (ud (bI m c)).1)):=by
 have hiN:=B4 hg;have hlN:=Er hg;have hab:=W3 m.aA.aQ.bZ m.aA.aQ.ab hiN hlN c.bY hp;have hai:=W5 hiN c.bY;have hch:=λdir s=>Jl m.aA.aQ.bZ m.aA.aQ.ab dir s hiN hlN
 have hn:=WZ m c (Nat.le_trans hg.qL dd);have hid:=λs=>ae6 s (c.dD==1)
 have hB0:ud (bI m c)=if c.bY=[47] then (bI m c,194) else if (kP m.aA.aQ.ab c.bY).2≠0 then (bI m c,(kP m.aA.aQ.ab c.bY).2) else if (mT m.aA.aQ.ab (kP m.aA.aQ.ab c.bY).1.1 (kP m.aA.aQ.ab c.bY).1.2).isSome=true then (bI m c,190)
   else if (jD m).2≠0 then (bI m c,(jD m).2) else ll (bI m c) (lj 1 (w9 (jD m).1 (c.dD==1)) (kP m.aA.aQ.ab c.bY).1.1 (kP m.aA.aQ.ab c.bY).1.2 []):=by
  trivial
 generalize ud (bI m c)=B at*;generalize kP m.aA.aQ.ab c.bY=A at*;obtain ⟨⟨dir,last⟩,e⟩:=A;dsimp only at*;have hch:=hch dir last;have hfine:lZ (lj 1 (w9 (jD m).1 (c.dD==1)) dir last []):=⟨ahL _ _,hai.1,Nat.le_trans hai.2 hp,Nat.zero_le _⟩;refine bz.na 10 ?_
 by_cases h1:c.bY=[47]
 ·have h1':=h1;refine bn Tryz.func77 ?_
  conv=>whnf
  refine ⟨λ_=>?_,λq=>absurd (of_decide_eq_false q) (λq=>q h1)⟩;have hB:B=(bI m c,194):=by rw [hB0,if_pos h1]
  subst hB;exact fM
 rw [if_neg h1] at hB0
 by_cases h2:e=0
 ·subst h2;rw [if_neg (show ¬((0:Int)≠0) by decide)] at hB0;cases hc:(mT m.aA.aQ.ab dir last).isSome with
  |true=>
   rw [hc] at hch;refine bn Tryz.func77 ?_
   conv=>whnf
   refine fu h1 ?_;refine ak ?_;have hB:B=(bI m c,190):=by rw [hB0,if_pos hc]
   subst hB;exact fM
  |false=>
   rw [if_neg (by rw [hc];decide)] at hB0;rw [hc] at hch
   by_cases h3:(jD m).2=0
   ·rw [if_neg (λq=>q h3)] at hB0;rw [h3] at hn;have hid:=hid (jD m).1;refine bn Tryz.func77 ?_
    conv=>whnf
    refine fu h1 ?_;refine eJ ?_;have hB:B=ll (bI m c) (lj 1 (w9 (jD m).1 (c.dD==1)) dir last []):=hB0;rw [GY] at hB;have hpt:=Kc m c (lj 1 (w9 (jD m).1 (c.dD==1)) dir last []) hg (hfine)
    by_cases hz:xi m (lj 1 (w9 (jD m).1 (c.dD==1)) dir last [])=0
    ·rw [if_pos hz] at hB hpt;subst hB;refine eJ ?_;rw [hz];exact fM
    ·rw [if_neg hz] at hB hpt;subst hB;refine eJ ?_;exact fM
   ·rw [if_pos h3] at hB0;refine bn Tryz.func77 ?_
    conv=>whnf
    refine fu h1 ?_;refine eJ ?_;refine ⟨λ_=>?_,λq=>absurd (by simpa using q) h3⟩;have hB:B=(bI m c,(jD m).2):=hB0;subst hB;exact fM
 ·rw [if_pos h2] at hB0;refine bn Tryz.func77 ?_
  conv=>whnf
  refine fu h1 ?_;refine ak ?_;refine ⟨λ_=>?_,λq=>absurd (by simpa using q) h2⟩;have hB:B=(bI m c,e):=hB0;subst hB;exact fM
theorem ahO (m:bM) (c:bu) (hg:iy m.aA) (hp:c.bY.length<=1048576) (hd:c.ia.length<=1048576):bz Tryz.prog 78 [.ar 10 0] (aD (nQ m c)) 11
  (cG 11 (λr es=>r= .cE (.aa .i64 (uq (bI m c)).2)/\es=qO (uq (bI m c)).1)):=by
 have hiN:=B4 hg;have hlN:=Er hg;have hat:=En m.aA.aQ.bZ m.aA.aQ.ab hiN hlN c.bY hp;have hai:=Ep hiN c.bY;have hdi:=tS _ hai;have hB0:uq (bI m c)=if (gx m.aA.aQ.ab c.bY).2≠0 then (bI m c,(gx m.aA.aQ.ab c.bY).2) else if fk (gx m.aA.aQ.ab c.bY).1=true then (bI m c,82) else ll (bI m c) (lj 2 (gx m.aA.aQ.ab c.bY).1 0 [] c.ia):=rfl
 generalize uq (bI m c)=B at*;generalize gx m.aA.aQ.ab c.bY=A at*;obtain ⟨id,e⟩:=A;dsimp only at*;have hfine:lZ (lj 2 id 0 [] c.ia):=⟨hai,by show dX 0;unfold dX;decide,Nat.zero_le _,hd⟩;refine bz.na 10 ?_
 by_cases h2:e=0
 ·subst h2;rw [if_neg (show ¬((0:Int)≠0) by decide)] at hB0;cases hdd:fk id with
  |true=>
   rw [hdd] at hdi;refine bz.sc dW jd (fn:=Tryz.f78) aG rfl aG rfl rfl ?_;refine ak ?_;have hB:B=(bI m c,82):=by simp_all
   subst hB;exact fM
  |false=>
   rw [if_neg (by rw [hdd];decide)] at hB0;rw [hdd] at hdi;refine bn Tryz.func78 ?_;refine ak ?_;have hB:B=ll (bI m c) (lj 2 id 0 [] c.ia):=hB0;rw [GY] at hB;have hpt:=Kc m c (lj 2 id 0 [] c.ia) hg (hfine)
   by_cases hz:xi m (lj 2 id 0 [] c.ia)=0
   ·rw [if_pos hz] at hB hpt;subst hB;refine eJ ?_;rw [hz];exact fM
   ·rw [if_neg hz] at hB hpt;subst hB;refine eJ ?_;exact fM
 ·rw [if_pos h2] at hB0;refine bn Tryz.func78 ?_;refine ak ?_;refine ⟨λ_=>?_,λq=>absurd (by simpa using q) h2⟩;have hB:B=(bI m c,e):=hB0;subst hB;exact fM
theorem ahM (m:bM) (c:bu) (hg:iy m.aA) (hp:c.bY.length<=1048576) (hp2:c.fO.length<=1048576):bz Tryz.prog 80 [.ar 10 0] (aD (nQ m c)) 11
  (cG 11 (λr es=>r= .cE (.aa .i64 (ug (bI m c)).2)/\es=qO (ug (bI m c)).1)):=by
 have hiN:=B4 hg;have hlN:=Er hg;have hat:=En m.aA.aQ.bZ m.aA.aQ.ab hiN hlN c.bY hp;have hab:=W3 m.aA.aQ.bZ m.aA.aQ.ab hiN hlN c.fO hp2;have hai:=W5 hiN c.fO;have hti:=Ep hiN c.bY;have hch:=λdir s=>Jl m.aA.aQ.bZ m.aA.aQ.ab dir s hiN hlN
 have hta:=λdir=>Gc m.aA.aQ.bZ m.aA.aQ.ab dir hiN hlN
 have hB0:ug (bI m c)=if c.bY=[47]\/c.fO=[47] then (bI m c,194) else if (gx m.aA.aQ.ab c.bY).2≠0 then (bI m c,(gx m.aA.aQ.ab c.bY).2) else
   if (kP m.aA.aQ.ab c.fO).2≠0 then (bI m c,(kP m.aA.aQ.ab c.fO).2) else if (mT m.aA.aQ.ab (kP m.aA.aQ.ab c.fO).1.1 (kP m.aA.aQ.ab c.fO).1.2).isSome=true then (bI m c,190)
   else if (kP m.aA.aQ.ab c.fO).1.1=(gx m.aA.aQ.ab c.bY).1\/(jS m.aA.aQ.ab (kP m.aA.aQ.ab c.fO).1.1).contains (gx m.aA.aQ.ab c.bY).1=true then (bI m c,192)
   else ll (bI m c) (lj 1 (gx m.aA.aQ.ab c.bY).1 (kP m.aA.aQ.ab c.fO).1.1 (kP m.aA.aQ.ab c.fO).1.2 []):=rfl
 generalize ug (bI m c)=B at*;generalize kP m.aA.aQ.ab c.fO=A at*;generalize gx m.aA.aQ.ab c.bY=T at*;obtain ⟨⟨dir,last⟩,e⟩:=A;obtain ⟨id,e0⟩:=T;dsimp only at*;have hch:=hch dir last;have hta:=hta dir;have hct:=Dx (decide (jS m.aA.aQ.ab dir=[])) (jS m.aA.aQ.ab dir) id (OK hlN);have hfine:lZ (lj 1 id dir last []):=⟨hti,hai.1,Nat.le_trans hai.2 hp2,Nat.zero_le _⟩;refine bz.na 10 ?_
 by_cases h1:c.bY=[47]
 ·have h1':=h1;refine bz.sc dW jd (fn:=Tryz.f80) aG rfl aG rfl rfl ?_
  conv=>whnf
  refine ⟨λ_=>?_,λq=>absurd (of_decide_eq_false q) (λq=>q h1)⟩;refine ak ?_;have hB:B=(bI m c,194):=by simp_all
  subst hB;exact fM
 by_cases h1b:c.fO=[47]
 ·have h1':=h1;refine bn Tryz.func80 ?_
  conv=>whnf
  refine fu h1 ?_
  conv=>whnf
  refine ⟨λ_=>?_,λq=>absurd (of_decide_eq_false q) (λq=>q h1b)⟩
  conv=>whnf
  have hB:B=(bI m c,194):=by simp_all
  subst hB;exact fM
 rw [if_neg (λq=>by simp_all)] at hB0
 by_cases h2:e0=0
 ·subst h2;rw [if_neg (show ¬((0:Int)≠0) by decide)] at hB0
  by_cases h3:e=0
  ·subst h3;rw [if_neg (show ¬((0:Int)≠0) by decide)] at hB0;cases hc:(mT m.aA.aQ.ab dir last).isSome with
   |true=>
    rw [hc] at hch;refine bn Tryz.func80 ?_
    conv=>whnf
    refine fu h1 ?_
    conv=>whnf
    refine fu h1b ?_;refine ak ?_;have hB:B=(bI m c,190):=by rw [hB0,if_pos hc]
    subst hB;exact fM
   |false=>
    rw [if_neg (by rw [hc];decide)] at hB0;rw [hc] at hch
    by_cases h4:dir=id
    ·rw [if_pos (.inl h4)] at hB0;refine bn Tryz.func80 ?_
     conv=>whnf
     refine fu h1 ?_
     conv=>whnf
     refine fu h1b ?_;refine ak ?_;refine ⟨λ_=>?_,λq=>absurd h4 (by simpa using q)⟩;refine ak ?_;have hB:B=(bI m c,192):=hB0;subst hB;exact fM
    ·cases h5:(jS m.aA.aQ.ab dir).contains id with
     |true=>
      rw [if_pos (.inr h5)] at hB0;rw [h5] at hct;refine bn Tryz.func80 ?_
      conv=>whnf
      refine fu h1 ?_
      conv=>whnf
      refine fu h1b ?_;refine ak ?_;refine ⟨λq=>absurd (eq_of_beq q) h4,λ_=>?_⟩;refine ak ?_;have hB:B=(bI m c,192):=hB0;subst hB;exact fM
     |false=>
      rw [if_neg (λq=>by simp_all)] at hB0;rw [h5] at hct;refine bn Tryz.func80 ?_
      conv=>whnf
      refine fu h1 ?_
      conv=>whnf
      refine fu h1b ?_;refine ak ?_;refine ⟨λq=>absurd (eq_of_beq q) h4,λ_=>?_⟩;refine ak ?_;have hB:B=ll (bI m c) (lj 1 id dir last []):=hB0;rw [GY] at hB;have hpt:=Kc m c (lj 1 id dir last []) hg (hfine)
      by_cases hz:xi m (lj 1 id dir last [])=0
      ·rw [if_pos hz] at hB hpt;subst hB;refine eJ ?_;rw [hz];exact fM
      ·rw [if_neg hz] at hB hpt;subst hB;refine eJ ?_;exact fM
  ·rw [if_pos h3] at hB0;refine bn Tryz.func80 ?_
   conv=>whnf
   refine fu h1 ?_
   conv=>whnf
   refine fu h1b ?_;refine ak ?_;refine ⟨λ_=>?_,λq=>absurd (by simpa using q) h3⟩;have hB:B=(bI m c,e):=hB0;subst hB;exact fM
 ·rw [if_pos h2] at hB0;refine bn Tryz.func80 ?_
  conv=>whnf
  refine fu h1 ?_
  conv=>whnf
  refine fu h1b ?_;refine ak ?_;refine ⟨λ_=>?_,λq=>absurd (by simpa using q) h2⟩;have hB:B=(bI m c,e0):=hB0;subst hB;exact fM
theorem ahN (m:bM) (c:bu) (hg:iy m.aA) (hp:c.bY.length<=1048576):bz Tryz.prog 81 [.ar 10 0] (aD (nQ m c)) 11
  (cG 11 (λr es=>r= .cE (.aa .i64 (uj (bI m c)).2)/\es=qO (uj (bI m c)).1)):=by
 have hiN:=B4 hg;have hlN:=Er hg;have hat:=En m.aA.aQ.bZ m.aA.aQ.ab hiN hlN c.bY hp;have hti:=Ep hiN c.bY;have hsp:=DC c.bY hp;have hps:=λns (e:ir c.bY=some ns)=>by have:=vb (p:=c.bY);rw [e] at this;exact this
 have hsm:=λns (e:ir c.bY=some ns)=>Us e
 have hB0:uj (bI m c)=if c.bY=[47] then (bI m c,194) else if (gx m.aA.aQ.ab c.bY).2≠0 then (bI m c,(gx m.aA.aQ.ab c.bY).2) else
   match ir c.bY with|none=>(bI m c,194)|some []=>(bI m c,194)|some (s::r)=>ll (bI m c) (lj 1 (gx m.aA.aQ.ab c.bY).1 2 ((s::r).getLast (by simp)) []):=rfl
 generalize uj (bI m c)=B at*;generalize gx m.aA.aQ.ab c.bY=T at*;generalize ir c.bY=ps at*;obtain ⟨id,e0⟩:=T;dsimp only at*;refine bz.na 10 ?_
 by_cases h1:c.bY=[47]
 ·have h1':=h1;refine bz.sc dW jd (fn:=Tryz.f81) aG rfl aG rfl rfl ?_
  conv=>whnf
  refine ⟨λ_=>?_,λq=>absurd (of_decide_eq_false q) (λq=>q h1)⟩;have hB:B=(bI m c,194):=by rw [hB0,if_pos h1]
  subst hB;exact fM
 rw [if_neg h1] at hB0
 by_cases h2:e0=0
 ·subst h2;rw [if_neg (show ¬((0:Int)≠0) by decide)] at hB0;cases ps with
  |none=>
   refine bn Tryz.func81 ?_
   conv=>whnf
   refine fu h1 ?_;refine ak ?_;have hB:B=(bI m c,194):=hB0;subst hB;exact fM
  |some ns=>
   have h16:ns.length<=16:=hps ns rfl;have hsm:=hsm ns rfl;cases ns with
   |nil=>
    refine bn Tryz.func81 ?_
    conv=>whnf
    refine fu h1 ?_;refine ak ?_;have hB:B=(bI m c,194):=hB0;subst hB;exact fM
   |cons a r=>
    have hle:(fN (a::r)).length=r.length+1:=by rw [wS];rfl
    have hgl:(fN (a::r))[r.length]? =some [.ai ((a::r).getLast (by simp))]:=by
     have:(a::r)[r.length]? =some ((a::r).getLast (by simp)):=by
      grind
     show ((a::r).map _)[r.length]? =_;grind
    have hlal:=hsm _ (List.getLast_mem (show a::r≠[] by simp));have w2:IntKind.i64.wrap (((fN (a::r)).length:Int) - 1)=(r.length:Int):=by
     grind [bj]
    dsimp only at hB0;generalize (a::r).getLast (by simp)=la at*;have hfine:lZ (lj 1 id 2 la []):=⟨hti,by show dX 2;unfold dX;decide,Nat.le_trans hlal hp,Nat.zero_le _⟩;refine bn Tryz.func81 ?_
    conv=>whnf
    refine fu h1 ?_;refine cC ?_;rw [w2];refine ⟨_,⟨om,by trivial⟩,?_⟩;have hB:B=ll (bI m c) (lj 1 id 2 la []):=hB0;rw [GY] at hB;have hpt:=Kc m c (lj 1 id 2 la []) hg (hfine)
    by_cases hz:xi m (lj 1 id 2 la [])=0
    ·rw [if_pos hz] at hB hpt;subst hB;refine eJ ?_;rw [hz];exact fM
    ·rw [if_neg hz] at hB hpt;subst hB;refine eJ ?_;exact fM
 ·rw [if_pos h2] at hB0;refine bn Tryz.func81 ?_
  conv=>whnf
  refine fu h1 ?_;refine ak ?_;refine ⟨λ_=>?_,λq=>absurd (by simpa using q) h2⟩;have hB:B=(bI m c,e0):=hB0;subst hB;exact fM
theorem W7 (nil:Bool) (l:List aI) (id:Int) (hi:∀ n∈l,dX n.bc) (hl:l.length<=1048576):
  aC Tryz.prog 12 [.ag nil 8 (cT l) .av, .aa .i64 id] (.aw [.aK (iF ((if fH l=true then iD l id else none).getD FZ)), .aE (if fH l=true then iD l id else none).isSome]):=by
 have hck:=Bw nil l hi hl;have hpl:=Jk nil l id hl;refine bK Tryz.func12 ?_;refine ak ?_;cases hc:fH l with
 |false=>
  exact bm
 |true=>
  have hhd:=zB l id;rw [if_pos rfl];refine ak ?_;refine bz.eV (hpl hc) rfl ?_;cases hfd:iD l id with
  |none=>
   rw [hfd] at hhd;rw [hhd];exact bm
  |some nd=>
   obtain ⟨_,_,hp,hnd⟩:=yf hfd;have hg:=ym hp;rw [hnd] at hg;rw [hfd,Option.isSome_some] at hhd;rw [hhd];exact bm
structure Et (l:List aI):Prop where
 vK:l.length<=200
 rO:∀ n∈l,dX n.bc
 B5:∀ n∈l,n.fm.length<=1000
theorem Et.Ke {l:List aI} (h:Et l):l.length<=1048576:=Nat.le_trans h.vK dd
theorem ahR {N:Nat} {l:List aI} (h:∀ n∈l,n.fm.length<=N) (o:aH) (ho:o.j4.length<=N):∀ n∈jm l o,n.fm.length<=N:=by
 intro n hn;rcases I4 hn with h1|⟨_,h1,_⟩
 ·exact h n h1
 ·rw [h1];have hb:((iD l o.aY).getD (yg o.aY)).fm.length<=N:=by
   cases hf:iD l o.aY with
   |none=>exact Nat.zero_le _
   |some y=>exact h y (yf hf).1
  grind [pf]
theorem ahQ {es:List iG} {l:List aI} (h:mE es l) (hm:∀ e∈es,cJ e.cF=true):∀ n∈l,n.fm.length<=1000:=by
 induction h with
 |zS=>trivial
 |zT h o ih=>
  exact ahR (ih (λe he=>hm e (List.mem_append_left _ he))) o (Nat.le_trans (NV (hm _ (List.mem_append_right _ (List.mem_singleton.2 rfl)))).1 dd)
theorem vL {g:eh} (h:iy g):Et g.aQ.ab:=⟨h.BP,B4 h,ahQ h.xc h.xd⟩
structure py (m:bM):Prop where
 nR:iy m.aA
 W8:-1000000000<=m.fz/\m.fz<=1000000000
 Kd:m.dO.ab.length<=1000
 ahP:∀ s∈m.dO.ab,Et s.DT.ab
 GZ:m.de.ab.length<=1000
 W9:∀ w∈m.de.ab,w.l8.oB.ab.length<=1000
theorem Xa {m:bM} (h:py m) {k:Int} {s:cj aI} (hs:sH m k=some s):Et s.ab:=by
 unfold sH at hs;split at hs
 ·cases hs;exact vL h.nR
 ·cases hf:m.dO.ab.find? λs=>decide (s.iI=k) with
  |none=>simp_all
  |some x=>rw [hf] at hs;cases hs;exact h.ahP x (List.mem_of_find?_eq_some hf)
def ahT:Option (cj aI)->ae
 |none=> .aw [.ag true 1 [] .bR, .aa .i64 191]
 |some s=> .aw [cv 8 iF s, .aa .i64 0]
theorem Xb (m:bM) (c:bu) (k:Int) (hl:m.dO.ab.length<=1000):bz Tryz.prog 138 [.ar 10 0, .aa .i64 k] (aD (nQ m c)) 11 (cG 11 (λr es=>r= .cE (ahT (sH m k))/\es=nQ m c)):=by
 have hel:(m.dO.ab.map iJ).length=m.dO.ab.length:=List.length_map _;unfold sH
 by_cases h0:k=0
 ·subst h0;rw [if_pos rfl];refine bn Tryz.func138 ?_;refine ak ?_;exact ⟨_,_,⟨rfl,rfl⟩,rfl,⟨rfl,rfl⟩,⟨rfl,rfl,trivial⟩⟩
 ·rw [if_neg h0];refine bn Tryz.func138 ?_
  conv=>whnf
  refine ⟨λq=>absurd (eq_of_beq q) h0,λ_=>?_⟩
  conv=>whnf
  refine db.cK (λj:Nat=>[(.af 10, .au 117 (Eo m c [] oH 0 oH oH)),(.aj 1, .ah (.aa .i64 k)),(.aj 20, .ah (cv 2 iJ m.dO)),(.aj 21, .ah (.aa .i64 m.dO.ab.length)),(.aj 22, .ah (.aa .i64 j))]) 11
   (λj=>j<=m.dO.ab.length/\∀ s∈m.dO.ab.take j,decide (s.iI=k)=false) (λj=>m.dO.ab.length - j) dd 0 ⟨Nat.zero_le _,λs hs=>by cases hs⟩ ⟨rfl,rfl,rfl,rfl,rfl,rfl,?_,rfl,rfl,rfl,trivial⟩ ?_
  ·show bs.ah (ae.aa .i64 ((m.dO.ab.map iJ).length:Nat))=_;rw [hel]
  rintro j ⟨hj,hno⟩;refine cn ?_;refine ⟨λh=>?_,λh=>?_⟩
  ·have h:=of_decide_eq_true h;have hlt:j<m.dO.ab.length:=om;have hg:=lN iJ hlt;have w1:IntKind.i64.wrap ((j:Int)+1)=((j+1:Nat):Int):=by grind [bj]
   by_cases hk:m.dO.ab[j].iI=k
   ·have hf:=GD (p:=λs:jC=>decide (s.iI=k)) hlt hno (decide_eq_true hk);rw [hf];generalize m.dO.ab[j]=s at*;refine ak ?_;refine ⟨λ_=>?_,λq=>absurd hk (by simpa using q)⟩
    conv=>whnf
    exact ⟨_,_,⟨rfl,rfl⟩,rfl,⟨rfl,rfl⟩,⟨rfl,rfl,trivial⟩⟩
   ·have hno2:=NF (p:=λs:jC=>decide (s.iI=k)) hlt hno (decide_eq_false hk);generalize m.dO.ab[j]=s at*;refine ak ?_;refine ⟨λq=>absurd (eq_of_beq q) hk,λ_=>?_⟩
    conv=>whnf
    refine ⟨j+1,⟨om,hno2⟩,by grind,rfl,rfl,rfl,rfl,rfl,rfl,rfl,rfl,?_,rfl,trivial⟩;exact congrArg (λx=>bs.ah (ae.aa .i64 x)) w1
  ·have h:=of_decide_eq_false h;have hjl:j=m.dO.ab.length:=om;subst hjl;rw [List.take_length] at hno;rw [GF hno]
   conv=>whnf
   exact ⟨_,_,⟨rfl,rfl⟩,rfl,⟨rfl,rfl⟩,⟨rfl,rfl,trivial⟩⟩
theorem ahU (m:bM) (c:bu) (hm:py m) (hp:c.bY.length<=1048576):bz Tryz.prog 79 [.ar 10 0] (aD (nQ m c)) 11
  (cG 11 (λr es=>r= .cE (.aa .i64 (ui (bI m c)).2)/\es=qO (ui (bI m c)).1)):=by
 have hnd:=Xb m c c.cR hm.Kd;have hok:=λs hs=>Xa hm (k:=c.cR) (s:=s) hs
 have hB0:ui (bI m c)=match sH m c.cR with
   |none=>(bI m c,191)
   |some l=>if (gx l.ab c.bY).2≠0 then (bI m c,(gx l.ab c.bY).2) else if fk (gx l.ab c.bY).1=true then (bI m c,82) else ({bI m c with gj:={fg 0 with DN:=(UP l.ab (gx l.ab c.bY).1).ov}},0):=rfl
 generalize ui (bI m c)=B at*;generalize sH m c.cR=S at*;refine bz.na 10 ?_;cases S with
 |none=>
  refine bn Tryz.func79 ?_;refine eJ ?_;have hB:B=(bI m c,191):=hB0;subst hB;exact fM
 |some s=>
  have hok:=hok s rfl;obtain ⟨sq,l⟩:=s;have hat:=En (cj.bZ ⟨sq,l⟩) l hok.rO hok.Ke c.bY hp;have hai:=Ep hok.rO c.bY;have hdi:=tS _ hai;dsimp only at hB0;generalize gx l c.bY=A at*;obtain ⟨id,e⟩:=A;dsimp only at*;have htf:=W7 (cj.bZ ⟨sq,l⟩) l id hok.rO hok.Ke
  by_cases h2:e=0
  ·subst h2;rw [if_neg (show ¬((0:Int)≠0) by decide)] at hB0;cases hdd:fk id with
   |true=>
    rw [hdd] at hdi;refine bn Tryz.func79 ?_;refine eJ ?_;have hB:B=(bI m c,82):=by simp_all
    subst hB;exact fM
   |false=>
    rw [if_neg (by rw [hdd];decide)] at hB0;rw [hdd] at hdi;refine bn Tryz.func79 ?_;refine eJ ?_;subst hB0;exact fM
  ·rw [if_pos h2] at hB0;refine bn Tryz.func79 ?_;refine eJ ?_;refine ⟨λ_=>?_,λq=>absurd (by simpa using q) h2⟩;have hB:B=(bI m c,e):=hB0;subst hB;exact fM
theorem ahS (m:bM) (c:bu) (hm:py m) (hp:c.bY.length<=1048576):bz Tryz.prog 82 [.ar 10 0] (aD (nQ m c)) 11
  (cG 11 (λr es=>r= .cE (.aa .i64 (uf (bI m c)).2)/\es=qO (uf (bI m c)).1)):=by
 have hnd:=Xb m c c.cR hm.Kd;have hok:=λs hs=>Xa hm (k:=c.cR) (s:=s) hs
 have hB0:uf (bI m c)=match sH m c.cR with
   |none=>(bI m c,191)
   |some l=>if (gx l.ab c.bY).2≠0 then (bI m c,(gx l.ab c.bY).2) else if fk (gx l.ab c.bY).1=false then (bI m c,81) else ({bI m c with gj:={fg 0 with kB:=⟨true,yj l.ab (gx l.ab c.bY).1⟩}},0):=rfl
 generalize uf (bI m c)=B at*;generalize sH m c.cR=S at*;refine bz.na 10 ?_;cases S with
 |none=>
  refine bn Tryz.func82 ?_;refine eJ ?_;have hB:B=(bI m c,191):=hB0;subst hB;exact fM
 |some s=>
  have hok:=hok s rfl;obtain ⟨sq,l⟩:=s;have hat:=En (cj.bZ ⟨sq,l⟩) l hok.rO hok.Ke c.bY hp;have hai:=Ep hok.rO c.bY;have hdi:=tS _ hai;dsimp only at hB0;generalize gx l c.bY=A at*;obtain ⟨id,e⟩:=A;dsimp only at*;have hvl:=aea (cj.bZ ⟨sq,l⟩) l id hok.rO hok.Ke (λn hn=>Nat.le_trans (hok.B5 n hn) dd);rw [show decide (yj l id=[])=(true && (yj l id).isEmpty) by grind] at hvl
  by_cases h2:e=0
  ·subst h2;rw [if_neg (show ¬((0:Int)≠0) by decide)] at hB0;cases hdd:fk id with
   |false=>
    rw [hdd] at hdi;refine bn Tryz.func82 ?_;refine eJ ?_;have hB:B=(bI m c,81):=by simp_all
    subst hB;exact fM
   |true=>
    rw [if_neg (by rw [hdd];decide)] at hB0;rw [hdd] at hdi;refine bn Tryz.func82 ?_;refine eJ ?_;subst hB0;exact fM
  ·rw [if_pos h2] at hB0;refine bn Tryz.func82 ?_;refine eJ ?_;refine ⟨λ_=>?_,λq=>absurd (by simpa using q) h2⟩;have hB:B=(bI m c,e):=hB0;subst hB;exact fM
theorem ahV (m:bM) (c:bu):bz Tryz.prog 87 [.ar 10 0] (aD (nQ m c)) 11 (cG 11 (λr es=>r= .cE (.aa .i64 0)/\es=qO (bI m c))):=by
 refine bz.na 10 ?_;refine bn Tryz.func87 ?_;exact fM
theorem Xd (l:List jC):fL (l.map iJ).flatten=true:=by
 induction l with
 |nil=>rfl
 |cons a l ih=>exact ih
theorem ahW (m:bM) (c:bu) (hm:py m):bz Tryz.prog 83 [.ar 10 0] (aD (nQ m c)) 11
  (cG 11 (λr es=>r= .cE (.aa .i64 (um (bI m c)).2)/\es=qO (um (bI m c)).1)):=by
 have hel:(m.dO.ab.map iJ).length=m.dO.ab.length:=List.length_map _;have hB0:um (bI m c)=if 8<=m.dO.ab.length then (bI m c,193) else ({bI m c with gj:={fg 0 with qF:=m.fz},bp:={m with dO:=m.dO.jg ⟨m.fz,m.aA.aQ⟩,fz:=m.fz+1}},0):=rfl
 have hcn:=U3 m.aA.aQ.bZ (m.aA.aQ.ab.map iF) (λh=>by rw [cj.wZ h];rfl) (by grind [Er,hm.nR]);have hnx:=hm.W8;have w1:IntKind.i64.wrap (m.fz+1)=m.fz+1:=bj om om;generalize um (bI m c)=B at*
 by_cases h8:8<=m.dO.ab.length
 ·refine bz.na 10 ?_;rw [if_pos h8] at hB0;subst hB0;refine bn Tryz.func83 ?_
  conv=>whnf
  refine C8 om ?_;exact fM
 ·rw [if_neg h8] at hB0;subst hB0;have hlt:¬(8:Int)<=((m.dO.ab.map iJ).length:Nat):=by rw [hel];omega
  obtain ⟨log,seen,replica,⟨sq,S⟩,watches,next⟩:=m;cases S with
  |nil=>
   refine bz.na 10 ?_;refine bz.J9 10 4 53 ?_;refine bz.zo ?_;refine bn Tryz.func83 ?_;refine cC ?_;refine ⟨0,_,_,_,rfl,(CN.AP hcn rfl).zi,rfl,?_⟩;refine ak ?_;refine ⟨0,_,_,_,rfl,mi.xR (U4 _) rfl,rfl,?_⟩
   conv=>whnf
   refine ⟨⟨rfl,by show 0<1;decide,dG (by simp_all) dd⟩,?_⟩;refine ak ?_;refine ⟨_,_,_,[iJ ⟨next,log.aQ⟩],_,_,rfl,rfl,rfl,rfl,λel hel=>by rw [List.mem_singleton] at hel;subst hel;rfl,rfl,?_⟩;refine ⟨_,_,_,rfl,rfl,?_,_,_,⟨rfl,rfl⟩,rfl,⟨rfl,rfl⟩,⟨rfl,rfl,trivial⟩⟩
   repeat (first|exact mO.fa|refine mO.aX (iL.bw _) ?_|refine mO.aX (iL.eR _ _ _) ?_|fail "end")
   refine mO.aX (iL.mj (congrArg (ae.aa .i64) w1)) ?_
   repeat (first|exact mO.fa|refine mO.aX (iL.bw _) ?_|refine mO.aX (iL.eR _ _ _) ?_|fail "end")
  |cons s r=>
   have hcs:nz Tryz.prog 142 [.ag (cj.bZ ⟨sq,s::r⟩) 2 ((s::r).map iJ) .av] 264 2 ((s::r).map iJ).length ((s::r).map iJ).flatten:=by
    grind [cj.bZ,U5]
   refine bz.na 10 ?_;refine bz.zo ?_;refine bn Tryz.func83 ?_
   conv=>whnf
   refine fu hlt ?_
   conv=>whnf
   refine ⟨0,_,_,_,rfl,(CN.AP hcn rfl).zi,rfl,?_⟩;refine ak ?_;refine ⟨0,_,_,_,rfl,mi.tF hcs rfl,rfl,?_⟩
   conv=>whnf
   refine ⟨(s::r).map iJ,⟨rfl,λel hel=>by obtain ⟨z,_,rfl⟩:=List.mem_map.1 hel;rfl,rfl,Xd _,dG (by grind) dd⟩,?_⟩;refine ak ?_;refine ⟨_,_,_,rfl,rfl,?_,_,_,⟨rfl,rfl⟩,rfl,⟨rfl,rfl⟩,⟨rfl,rfl,trivial⟩⟩
   repeat (first|exact mO.fa|refine mO.aX (iL.bw _) ?_|refine mO.aX (iL.eR _ _ _) ?_|fail "end")
   refine mO.aX (iL.mj (by show ae.ag false 2 ((s::r).map iJ++[iJ ⟨next,log.aQ⟩]) .av=ae.ag false 2 (((s::r)++[(⟨next,log.aQ⟩:jC)]).map iJ) .av;simp_all)) ?_
   repeat (first|exact mO.fa|refine mO.aX (iL.bw _) ?_|refine mO.aX (iL.eR _ _ _) ?_|fail "end")
   exact mO.aX (iL.mj (congrArg (ae.aa .i64) w1)) oT
theorem Xc {q:Bool} {sz:Nat} {els els':List (List ae)} (hl:els'.length=els.length) (h:∀ (i:Nat) (e e':List ae),els[i]? =some e->els'[i]? =some e'->mO e e'):iL (.ag q sz els .av) (.ag q sz els' .av):=⟨λw F v hx=>by
 cases hx with| @iK _ _ _ ad c vals hnil hc hsz ha hone hr=>
 have get:∀ (i:Nat) (e':List ae),els'[i]? =some e'->∃ e,els[i]? =some e/\mO e e':=λi e' he'=>by
  grind
 have get2:∀ (i:Nat) (e':List ae) (j:Nat) (x':ae),els'[i]? =some e'->e'[j]? =some x'->∃ e x,els[i]? =some e/\e[j]? =some x/\iL x x':=λi e' j x' he' hx'=>by
  obtain ⟨e,he,hs⟩:=get i e' he';have hj:j<e.length:=by grind [hs.v7]
  exact ⟨e,e[j],he,List.getElem?_eq_getElem hj,hs.CM j _ _ (List.getElem?_eq_getElem hj) hx'⟩
 rw [<-hl];refine .iK vals hnil (by rw [hl];exact hc) (λel hel=>?_) (λi e' j x' he' hx'=>?_) (λi e' j x' he' hx'=>?_) (λi e' j x' he' hx'=>?_)
 ·obtain ⟨i,hi,rfl⟩:=List.getElem_of_mem hel;obtain ⟨e,he,hs⟩:=get i _ (List.getElem?_eq_getElem hi);grind [hs.v7]
 ·obtain ⟨e,x,he,hx,_⟩:=get2 i e' j x' he' hx';exact ha i e j x he hx
 ·grind
 ·obtain ⟨e,x,he,hx,hs⟩:=get2 i e' j x' he' hx';exact hs.pH _ _ _ (hr i e j x he hx)⟩
end Go.Proofs.YtffboamedcmpaaaGreatDoor
