import Derived.Test.YtffboamedcmpaaaGreatDoorAl
set_option linter.all false
set_option maxHeartbeats 4000000
set_option maxRecDepth 100000
namespace Gw
def De (l:List eF) (N:List (List UInt8)) (h:Int):iX:=if (jR l N).2=0/\iy (jR l N).1=true/\(jR l N).1≠h then ⟨2,h⟩ else ⟨3,0⟩
theorem ai4 {l:List eF} {t:ft} {names:gp (List UInt8)} {e b:Int} {r:List Int} (h:t.fA.al=e::b::r):x6 l t names=⟨2,e⟩:=by
 grind [x6]
theorem ai3 {l:List eF} {t:ft} {names:gp (List UInt8)} {e:Int} (h:t.fA.al=[e]):x6 l t names=if 0<=t.jA/\t.jA<names.al.length then (match iB l e (names.al[t.jA.toNat]?.getD []) with
    |some n=>if iy n.eM=true then ⟨1,n.eM⟩ else De l names.al e
    |none=>De l names.al e) else De l names.al e:=by
 unfold x6;rw [h];trivial
end Gw
namespace Go.Proofs.YtffboamedcmpaaaGreatDoor
open Gw
open Go.Am
open Go.Proofs.Tryz Tryz
theorem X9 {l:List eF} (i:∀ n∈l,jv n.eM):∀ (names:List (List UInt8)) (a:Int),jv a->jv (jz l a names).1
 |[],a,h=>h
 |s::r,a,h=>by
  unfold jz;split
  .split
   .rename_i n c;exact X9 i r n.eM (i n (wX c).1)
   trivial
  trivial
theorem JX {l:List eF} (h:∀ n∈l,jv n.eM) (names:List (List UInt8)):jv (jR l names).1:=X9 h names 0 (by unfold jv;decide)
theorem ai2 (J:Bool) (l:List eF) (v:∀ n∈l,jv n.eM) (O:l.length<=1048576) (t:ft) (names:gp (List UInt8)) (hn:names.al.length<=1048576) (hh:t.fA.al.length<=1048576):
  er prog 334 [.eN [gE 1 nk names], .a8 J 8 (ib l) .dm,y9 t] (JQ (x6 l t names)):=by
 obtain ⟨K,⟨hq,y⟩,a,done,x,S,m,P,L,w⟩:=t;obtain ⟨I,N⟩:=names;have hfd:=JG J (gp.gg ⟨I,N⟩) l N v O hn;have B:=JX v N;cases y with
 |nil=>
  refine fS func334 ?_
  conv=>whnf
  repeat ((first|refine ⟨λ_=>?_,λh=>absurd h dd⟩|refine ⟨λh=>absurd h dd,λ_=>?_⟩|refine ⟨λ_=>?_,λh=>absurd (show true=false from h) dd⟩|trivial);(conv=>whnf))
  rfl
 |cons e r=>
  cases r with
  |cons b r'=>
   rw [ai4 rfl];refine fS func334 ?_
   conv=>whnf
   refine ⟨λh=>absurd (dC.1 h) (by trivial),λ_=>?_⟩
   conv=>whnf
   refine ⟨_,⟨om,rfl⟩,?_⟩
   conv=>whnf
   refine ⟨λ_=>?_,λh=>absurd (ag h) (by grind)⟩;exact fu
  |nil=>
   rw [ai3 rfl];dsimp only;have hln:(N.map nk).length=N.length:=ap _;have Y:=w7 _ B;have o:(jR l N).2≠0->De l N e=⟨3,0⟩:=λh=>ai λc=>h c.1
   have p:(jR l N).2=0->iy (jR l N).1=false->De l N e=⟨3,0⟩:=λ_ h=>ai λc=>by simp_all
   have q:(jR l N).2=0->iy (jR l N).1=true->(jR l N).1=e->De l N e=⟨3,0⟩:=λ_ _ h=>ai λc=>c.2.2 h
   have u:(jR l N).2=0->iy (jR l N).1=true->(jR l N).1≠e->De l N e=⟨2,e⟩:=λj U W=>ak ⟨j,U,W⟩
   generalize De l N e=g at*;generalize jR l N=f at*;have Q:¬(0<=a/\a<(N.length:Int))->(if 0<=a/\a<(N.length:Int) then (match iB l e (N[a.toNat]?.getD []) with
    |some n=>if iy n.eM=true then (⟨1,n.eM⟩:iX) else g
    |none=>g) else g)=g:=λh=>ai h
   have rB:∀ s,0<=a/\a<(N.length:Int)->N[a.toNat]? =some s->(if 0<=a/\a<(N.length:Int) then (match iB l e (N[a.toNat]?.getD []) with
    |some n=>if iy n.eM=true then (⟨1,n.eM⟩:iX) else g
    |none=>g) else g)=(match iB l e s with
    |some n=>if iy n.eM=true then (⟨1,n.eM⟩:iX) else g
    |none=>g):=λs h c=>by simp_all
   generalize (if 0<=a/\a<(N.length:Int) then (match iB l e (N[a.toNat]?.getD []) with
    |some n=>if iy n.eM=true then (⟨1,n.eM⟩:iX) else g
    |none=>g) else g)=R at*
   refine fS func334 ?_
   conv=>whnf
   refine ⟨λh=>absurd (dC.1 h) (by trivial),λ_=>?_⟩
   conv=>whnf
   refine ⟨_,⟨om,rfl⟩,?_⟩
   conv=>whnf
   refine ⟨λh=>absurd (ah h) (by trivial),λ_=>?_⟩
   conv=>whnf
   refine ⟨λi=>?_,λi=>?_⟩
   .have i:0<=a:=ah i
    conv=>whnf
    refine ab (λj=>?_) λj=>?_
    .have j:a<(N.length:Int):=by simp_all
     have H:a.toNat<N.length:=om;have hg:N[a.toNat]? =some N[a.toNat]:=aj H;have F:(N.map nk)[a.toNat]? =some (nk N[a.toNat]):=by simp_all
     have k:=rB _ ⟨i,j⟩ hg;have X:=MG J l e N[a.toNat] v O;have z:=λn=>wX (l:=l) (dir:=e) (s:=N[a.toNat]) (n:=n)
     generalize N[a.toNat]=s at*;refine kw ?_;refine ⟨_,⟨i,F⟩,?_⟩;refine cx ?_;generalize iB l e s=T at*;cases T with
     |none=>
      refine cx ?_;refine ⟨λh=>?_,λh=>?_⟩
      .have h:f.2=0:=eq_of_beq h;refine cx ?_;cases d:iy f.1 with
       |true=>
        refine cx ?_;refine ⟨λc=>?_,λc=>?_⟩
        .have c:f.1≠e:=by simpa using c
         conv=>whnf
         rw [k,u h d c];rfl
        .have c:f.1=e:=by simpa using c
         conv=>whnf
         rw [k,q h d c];rfl
       |false=>
        refine cx ?_;rw [k,p h d];rfl
      .have h:f.2≠0:=by simpa using h
       refine cx ?_;rw [k,o h];rfl
     |some nd=>
      have Z:=w7 nd.eM (v nd (z nd rfl).1);refine gI ?_;cases A:iy nd.eM with
      |true=>
       refine gI ?_;rw [k];dsimp only;rw [ak A];rfl
      |false=>
       have D:R=g:=by grind
       refine cx ?_;refine ⟨λh=>?_,λh=>?_⟩
       .have h:f.2=0:=eq_of_beq h;refine cx ?_;cases d:iy f.1 with
        |true=>
         refine cx ?_;refine ⟨λc=>?_,λc=>?_⟩
         .have c:f.1≠e:=by simpa using c
          conv=>whnf
          rw [D,u h d c];rfl
         .have c:f.1=e:=by simpa using c
          conv=>whnf
          rw [D,q h d c];rfl
        |false=>
         refine cx ?_;rw [D,p h d];rfl
       .have h:f.2≠0:=by simpa using h
        refine cx ?_;rw [D,o h];rfl
    .have E:=Q λc=>j (by simp_all)
     refine cx ?_;refine ⟨λh=>?_,λh=>?_⟩
     .have h:f.2=0:=eq_of_beq h;refine cx ?_;cases d:iy f.1 with
      |true=>
       refine cx ?_;refine ⟨λc=>?_,λc=>?_⟩
       .have c:f.1≠e:=by simpa using c
        conv=>whnf
        rw [E,u h d c];rfl
       .have c:f.1=e:=by simpa using c
        conv=>whnf
        rw [E,q h d c];rfl
      |false=>
       refine cx ?_;rw [E,p h d];rfl
     .have h:f.2≠0:=by simpa using h
      refine cx ?_;rw [E,o h];rfl
   .have i:¬0<=a:=ag i;have E:=Q λc=>i c.1
    refine cx ?_;refine ⟨λh=>?_,λh=>?_⟩
    .have h:f.2=0:=eq_of_beq h;refine cx ?_;cases d:iy f.1 with
     |true=>
      refine cx ?_;refine ⟨λc=>?_,λc=>?_⟩
      .have c:f.1≠e:=by simpa using c
       conv=>whnf
       rw [E,u h d c];rfl
      .have c:f.1=e:=by simpa using c
       conv=>whnf
       rw [E,q h d c];rfl
     |false=>
      refine cx ?_;rw [E,p h d];rfl
    .have h:f.2≠0:=by simpa using h
     refine cx ?_;rw [E,o h];rfl
def Re (c:fG):b9:= .eN [.ax .i64 c.gD, .cp c.fR, .cp c.kE, .cp c.lS, .ax .i64 c.g7]
theorem ai6 (c:fG):er prog 336 [Re c] (.a8 (pS c).isEmpty 1 ((pS c).map nk) .dm):=by
 obtain ⟨k,p,t,d,n⟩:=c;unfold pS;dsimp only
 by_cases a:k=5
 .subst a;rw [ak rfl];refine ic func336 ?_;exact jf
 .rw [ai a]
  by_cases b:k=6
  .subst b;rw [ak rfl];refine ic func336 ?_;exact jf
  .rw [ai b];refine ic func336 ?_
   conv=>whnf
   refine ⟨λh=>absurd (eq_of_beq h) a,λ_=>?_⟩
   conv=>whnf
   refine ⟨λh=>absurd (eq_of_beq h) b,λ_=>?_⟩;exact fu
theorem Rd {l:List eF} {b:Int} (h:l.length<=1048576):(mT l b).length<=1048576:=by
 grind [mT,Jp]
theorem JY (D:List Int):kT (mr D).flatten=true:=by
 induction D with
 |nil=>rfl
 |cons a D i=>exact i
theorem ai5 (I:Bool) (l:List eF) (K:∀ n∈l,jv n.eM) (B:l.length<=1048576) (c:fG) (hp1:c.fR.length<=1048576) (hp2:c.kE.length<=1048576):
  er prog 337 [Re c, .a8 I 8 (ib l) .dm] (.a8 false 1 ((ng l c).map l7) .dm):=by
 have hpa:=ai6 c;have hP:∀ p∈pS c,p.length<=1048576:=λp hp=>by
  grind [pS]
 have hP2:(pS c).length<=2:=by grind [pS]
 unfold ng;generalize pS c=P at*;have Q:(P.map nk).length=P.length:=ap _;refine er.Mz (VB.MA jy (fn:=f337) eI rfl eI rfl rfl ?_);refine j6 ?_;refine iE.Uk ?_;refine j6 ?_;refine j6 ?_;refine j6 ?_;refine cx ?_;refine iE.agN 5 3 1 rfl rfl ?_;have L:(P.take 0).foldl (oN l) []=[]:=rfl;have i:∀ k,((P.take k).foldl (oN l) []).length<=k:=λk=>by
  induction k with
  |zero=>exact aq _
  |succ k ih=>
   by_cases X:k<P.length
   .rw [aD X,bX,bw,List.foldl_nil];grind [oN]
   grind [List.take_of_length_le]
 refine iE.gY (λk:Nat=>[(.ct 3, .bg (.c8 1 0)),(.ay 1, .dc 25 [.a8 I 8 (ib l) .dm]),(.ct 5, .bg (.a8 (decide ((P.take k).foldl (oN l) []=[])) 1 (mr ((P.take k).foldl (oN l) [])) (.hJ 7))),(.eT 7, .eU 3 1 ((P.take k).foldl (oN l) []).length),
  (.ct 15, .bg (.a8 P.isEmpty 1 (P.map nk) .dm)),(.ct 16, .bg (.ax .i64 P.length)),(.ct 17, .bg (.ax .i64 k))]) 8
  (λk=>k<=P.length) (λk=>P.length - k) dd 0 (ar _) ⟨rfl,rfl,rfl,rfl,rfl,rfl,rfl,rfl,rfl,rfl,?_,af⟩ ?_
 .show gC.bg (b9.ax .i64 ((P.map nk).length:Nat))=_;rw [Q]
 intro k X;refine gk ?_;refine ab (λh=>?_) λh=>?_
 .have E:k<P.length:=om;have hg:=pV nk E;have d:(P.take (k+1)).foldl (oN l) []=oN l ((P.take k).foldl (oN l) []) P[k]:=by grind [List.take_succ_eq_append_getElem]
  have T:=hP P[k] (aI E);have hDk:=i k;have w:IntKind.i64.wrap ((k:Int)+1)=((k+1:Nat):Int):=by grind [fq]
  generalize P[k]=p at*;have hsp:=G5 p T;have F:=λns (e:kV p=some ns)=>by have:=y7 (p:=p);rw [e] at this;exact this
  generalize (P.take k).foldl (oN l) []=D at*;generalize f:oN l D p=J at*;unfold oN at f;generalize kV p=W at*;refine cx ?_;cases W with
  |none=>
   refine kw ?_;subst f;refine ⟨k+1,om,by show P.length - (k+1)<P.length - k;omega,rfl,rfl,rfl,rfl,?_,rfl,?_,rfl,rfl,rfl,rfl,rfl,?_,rfl,ae⟩
   .rw [d];rfl
   .rw [d];rfl
   .exact congrArg (λx=>gC.bg (b9.ax .i64 x)) w
  |some W=>
   cases W with
   |nil=>
    refine kw ?_;subst f;refine ⟨k+1,om,by show P.length - (k+1)<P.length - k;omega,rfl,rfl,rfl,rfl,?_,rfl,?_,rfl,rfl,rfl,rfl,rfl,?_,rfl,ae⟩
    .rw [d];rfl
    .rw [d];rfl
    .exact congrArg (λx=>gC.bg (b9.ax .i64 x)) w
   |cons a r=>
    dsimp only at f;have hle:(k8 (a::r)).length=r.length+1:=by rw [Ay];rfl
    have U:(k8 (a::r)).take r.length=((a::r).dropLast).map nk:=by rw [cn];show ((a::r).map _).take _=_;rw [<-cr];rfl
    have Z:r.length+1<=16:=F (a::r) rfl;have w2:IntKind.i64.wrap (((k8 (a::r)).length:Int) - 1)=(r.length:Int):=by grind [fq]
    have hfd:=JG I false l (a::r).dropLast K B (by grind);have R:=JX K (a::r).dropLast;have hdf:=w7 _ R;have hct:=GY (decide (D=[])) D (jR l (a::r).dropLast).1 om;have j:(mr D).length=D.length:=ap _;generalize (a::r).dropLast=N at*;generalize jR l N=t at*;refine gI ?_;rw [w2];refine gI ?_;rw [aC,U];refine cx ?_;refine ⟨λu=>?_,λu=>?_⟩
    .have u:t.2≠0:=by simpa using u
     refine kw ?_;have f:D=J:=by simp_all
     subst f;refine ⟨k+1,om,by grind,rfl,rfl,rfl,rfl,?_,rfl,?_,rfl,rfl,rfl,rfl,rfl,?_,rfl,ae⟩
     .rw [d];rfl
     .rw [d];rfl
     .exact congrArg (λx=>gC.bg (b9.ax .i64 x)) w
    .have u:t.2=0:=by simpa using u
     refine cx ?_;cases hd:iy t.1 with
     |false=>
      refine kw ?_;have f:D=J:=by simp_all
      subst f;refine ⟨k+1,om,by grind,rfl,rfl,rfl,rfl,?_,rfl,?_,rfl,rfl,rfl,rfl,rfl,?_,rfl,ae⟩
      .rw [d];rfl
      .rw [d];rfl
      .exact congrArg (λx=>gC.bg (b9.ax .i64 x)) w
     |true=>
      refine cx ?_;cases hcn:D.contains t.1 with
      |true=>
       refine kw ?_;have f:D=J:=by simp_all
       subst f;refine ⟨k+1,om,by grind,rfl,rfl,rfl,rfl,?_,rfl,?_,rfl,rfl,rfl,rfl,rfl,?_,rfl,ae⟩
       .rw [d];rfl
       .rw [d];rfl
       .exact congrArg (λx=>gC.bg (b9.ax .i64 x)) w
      |false=>
       refine cx ?_;refine ⟨⟨j.symm,ji (by grind) dd⟩,?_⟩
       conv=>whnf
       have f:D++[t.1]=J:=by simp_all
       subst f;refine ⟨k+1,om,by grind,rfl,rfl,rfl,rfl,?_,rfl,?_,rfl,rfl,rfl,rfl,rfl,?_,rfl,ae⟩
       .rw [d];show gC.bg (b9.a8 (decide (D=[]) && false) 1 _ _)=_;rw [cf,aJ (show ¬D++[t.1]=[] by simp)];unfold mr;rw [aU];rfl
       .rw [d,au];show gC.eU _ 1 ((mr D).length+1)=_;simp_all
       .exact congrArg (λx=>gC.bg (b9.ax .i64 x)) w
 .have S:k=P.length:=om;subst S;rw [bj (aq _)];have A:=i P.length;rw [bj (aq _)] at A;generalize P.foldl (oN l) []=D at*;have j:(mr D).length=D.length:=ap _;have h2:D.length<=2:=om;clear L i
  conv=>whnf
  refine j6 ?_
  by_cases v:D.length=2
  .obtain ⟨a,b,rfl⟩:∃ a b,D=[a,b]:=by
    match D,v with
    |[a,b],_=>simp_all
   refine iE.F7 (iE.F7 (wO jy m8 _ _ _ _ ?_))
   conv=>whnf
   refine iE.F6 rfl ?_;refine gI ?_;refine j6 ?_;refine ⟨_,⟨om,rfl⟩,?_⟩
   conv=>whnf
   refine ⟨_,⟨om,rfl⟩,?_⟩
   conv=>whnf
   refine ⟨eI,?_⟩;have s:x7 l [a,b]=if C4 l a b=false/\(C4 l b a=true\/b<a) then [b,a] else [a,b]:=rfl
   have hA1:=JE I l b K B;have hC1:=GY (decide (mT l b=[])) (mT l b) a (Rd B);have hA2:=JE I l a K B;have hC2:=GY (decide (mT l a=[])) (mT l a) b (Rd B);have hc1:=Rc false false [[.ax .i64 1]] (mr [a,b]) (λe g=>by simp_all) (λe g=>by obtain ⟨z,_,rfl⟩:=aE.1 g;rfl) rfl (JY _) (by simp_all);have hc2:=Rc false false [[.ax .i64 1]] (mr [b,a]) (λe g=>by simp_all) (λe g=>by obtain ⟨z,_,rfl⟩:=aE.1 g;rfl) rfl (JY _) (by show 1+2<=_;omega);unfold C4 at s;generalize x7 l [a,b]=O at*;refine j6 ?_;refine fz func338 ?_;refine cx ?_;cases u:(mT l b).contains a with
   |true=>
    have o:O=[a,b]:=by simp_all
    refine cx ?_;rw [o];refine iE.F6 rfl ?_
    conv=>whnf
    refine iE.OX ?_
    conv=>whnf
    refine gk ?_;refine cx ?_;exact ⟨_,mR.fC _,mR.fC _⟩
   |false=>
    refine cx ?_;refine fz func338 ?_;refine cx ?_;cases h2:(mT l a).contains b with
    |true=>
     have o:O=[b,a]:=by simp_all
     refine cx ?_;rw [o];refine iE.F6 rfl ?_
     conv=>whnf
     refine iE.PH (m:=8) (es:=[(.ct 12, .bg (.ax .i64 a)),(.ct 13, .bg (.ax .i64 b))]) 5 7 ⟨rfl,rfl,rfl,rfl,trivial⟩ dd rfl dd rfl rfl dd (by simp [mr]) (λY q y H=>by
      obtain ⟨z,_,rfl⟩:=aE.1 q;rw [aw] at H;subst H;rfl) ?_
     refine gk ?_;refine ⟨⟨dd,by show 0<2;decide⟩,?_⟩
     conv=>whnf
     refine ⟨by show 1<=2;decide,?_⟩
     conv=>whnf
     refine ⟨⟨dd,by show 1<2;decide⟩,?_⟩
     conv=>whnf
     refine ⟨by trivial,?_⟩
     conv=>whnf
     refine iE.X3 5 8 (mr [b,a]) dd rfl rfl rfl rfl (λe g=>by obtain ⟨z,_,rfl⟩:=aE.1 g;rfl) (JY _) ?_;refine gk ?_;refine cx ?_;exact ⟨_,mR.fC _,mR.fC _⟩
    |false=>
     refine cx ?_;refine iE.F6 rfl ?_
     conv=>whnf
     refine ab (λh3=>?_) λh3=>?_
     .have o:O=[b,a]:=by simp_all
      rw [o];refine iE.PH (m:=8) (es:=[(.ct 12, .bg (.ax .i64 a)),(.ct 13, .bg (.ax .i64 b))]) 5 7 ⟨rfl,rfl,rfl,rfl,trivial⟩ dd rfl dd rfl rfl dd (by simp [mr]) (λY q y H=>by
       obtain ⟨z,_,rfl⟩:=aE.1 q;rw [aw] at H;subst H;rfl) ?_
      refine gk ?_;refine ⟨⟨dd,by show 0<2;decide⟩,?_⟩
      conv=>whnf
      refine ⟨by show 1<=2;decide,?_⟩
      conv=>whnf
      refine ⟨⟨dd,by show 1<2;decide⟩,?_⟩
      conv=>whnf
      refine ⟨by trivial,?_⟩
      conv=>whnf
      refine iE.X3 5 8 (mr [b,a]) dd rfl rfl rfl rfl (λe g=>by obtain ⟨z,_,rfl⟩:=aE.1 g;rfl) (JY _) ?_;refine gk ?_;refine cx ?_;exact ⟨_,mR.fC _,mR.fC _⟩
     .have o:O=[a,b]:=by simp_all
      rw [o];refine iE.OX ?_
      conv=>whnf
      refine gk ?_;refine cx ?_;exact ⟨_,mR.fC _,mR.fC _⟩
  .have s:x7 l D=D:=by
    match D,v with
    |[],_=>rfl
    |[_],_=>rfl
    |_::_::_::_,_=>rfl
   rw [s];have hcc:=Rc false (decide (D=[])) [[.ax .i64 1]] (mr D) (λe g=>by simp_all) (λe g=>by obtain ⟨z,_,rfl⟩:=aE.1 g;rfl) rfl (JY D) (by grind);refine j6 ?_;refine ⟨λh=>absurd (eq_of_beq h) (by rw [j];omega),λ_=>?_⟩
   conv=>whnf
   refine gk ?_;refine cx ?_;exact ⟨_,mR.fC _,mR.fC _⟩
theorem ai7 (l:List eF) (c:fG):(ng l c).length<=1000:=by
 have a:∀ (P:List (List UInt8)) (D:List Int),(P.foldl (oN l) D).length<=D.length+P.length:=λP=>by
  induction P with
  |nil=>simp_all
  |cons p P i=>
   grind [oN]
 have b:(pS c).length<=2:=by grind [pS]
 unfold ng;have h:=a (pS c) [];rw [cv] at h;generalize (pS c).foldl (oN l) []=D at*;rw [aL];have:(x7 l D).length=D.length:=by
  unfold x7;grind
 omega
theorem aja (q:Bool) (l:List eF) (m:∀ n∈l,jv n.eM) (o:l.length<=1048576) (t:ft) (c:fG) (p:c.fR.length<=1048576) (e:c.kE.length<=1048576) (j:t.fA.al.length<=1048576):
  er prog 335 [Re c, .a8 q 8 (ib l) .dm,y9 t] (JQ (C5 l t c)):=by
 have r:=ai5 q l m o c p e;have s:=ai7 l c;unfold C5;generalize ng l c=L at*;have z:(L.map l7).length=L.length:=ap _;refine fS func335 ?_;refine cx ?_;refine iE.gY (λk:Nat=>[(.ct 5, .bg (.c8 1 0)),(.ay 1, .dc 78 (gx t)),(.ct 6, .bg (.c8 2 0)),(.ay 2, .dc 233 [.ax .i64 0, .ax .i64 0]),(.ct 11, .bg (.a8 false 1 (L.map l7) .dm)),(.ct 12, .bg (.ax .i64 L.length)),(.ct 13, .bg (.ax .i64 k))]) 3
  (λk=>k<=L.length/\∀ x∈L.take k,t.fA.al.contains x=true) (λk=>L.length - k) dd 0 ⟨ar _,λx g=>by cases g⟩ ⟨rfl,rfl,rfl,rfl,rfl,rfl,rfl,rfl,rfl,rfl,?_,af⟩ ?_
 .show gC.bg (b9.ax .i64 ((L.map l7).length:Nat))=_;rw [z]
 rintro k ⟨y,a⟩;refine gk ?_;refine ab (λh=>?_) λh=>?_
 .have d:k<L.length:=om;have v:=pV l7 d;have u:=GY t.fA.gg t.fA.al L[k] j;have w:IntKind.i64.wrap ((k:Int)+1)=((k+1:Nat):Int):=by grind [fq]
  refine cx ?_;cases i:t.fA.al.contains L[k] with
  |false=>
   have f:L.find? (λk=>!t.fA.al.contains k)=some L[k]:=by
    grind [List.find?_eq_some_iff_getElem,List.mem_take_iff_getElem]
   rw [f];exact fu
  |true=>
   refine kw ?_;refine ⟨k+1,⟨om,λx g=>?_⟩,by grind,rfl,rfl,rfl,rfl,rfl,rfl,rfl,rfl,rfl,rfl,rfl,rfl,?_,rfl,ae⟩
   .grind [List.take_succ_eq_append_getElem]
   .exact congrArg (λx=>gC.bg (b9.ax .i64 x)) w
 .have b:k=L.length:=om;subst b;rw [bj (aq _)] at a;have f:L.find? (λk=>!t.fA.al.contains k)=none:=dp.2 λx g=>by simp_all
  rw [f];exact fu
theorem ai9 (n:Bool) (l:List eF) (t:ft):
  er prog 333 [.eN [], .a8 n 8 (ib l) .dm,y9 t] (JQ ⟨3,0⟩):=by
 refine fS func333 ?_;exact fu
theorem ajb {c:fG} {all:Bool} {s:gp (List UInt8)} (h:Ar c all= .ml s):s.al.length<=1048576:=by
 have b:=y7 (p:=c.fR);unfold Ar GR at h;cases q:kV c.fR with
 |none=>rw [q] at h;cases h;exact ar _
 |some l=>
  rw [q] at h b;have b:l.length<=16:=b;cases l with
  |nil=>cases h;exact ar _
  |cons a r=>
   grind [gp.mS]
theorem Ya {c:fG} {s:gp (List UInt8)} (h:jd c= .ml s):s.al.length<=1048576:=by
 grind [jd,ajb]
theorem ajc {c d:fG} {all:Bool}:Ar c all≠ .nf d:=by
 grind [Ar]
theorem ajd {c d:fG} (h:jd c= .nf d):d=c:=by
 grind [jd,ajc]
theorem ai8 (q:Bool) (l:List eF) (u:∀ n∈l,jv n.eM) (v:l.length<=1048576) (t:ft) (p:t.fx.fR.length<=1048576) (i:t.fx.kE.length<=1048576) (o:t.fA.al.length<=1048576):
  er prog 122 [.a8 q 8 (ib l) .dm,y9 t] (JQ (oO l t)):=by
 have j:=Q8 t.fx p;have N:∀ s,jd t.fx= .ml s->s.al.length<=1048576:=λs h=>Ya h
 have T:∀ c,jd t.fx= .nf c->c=t.fx:=λc h=>ajd h
 have I:=λm D=>ai2 q l u v t m D o
 have H:=aja q l u v t t.fx p i o;have F:=ai9 q l t;obtain ⟨b,⟨J,f⟩,A,done,e,z,g,y,k,w⟩:=t;unfold oO;dsimp only at*;generalize jd b=W at*;cases e with
 |true=>
  rw [ak rfl];refine fS func122 ?_
  conv=>whnf
  repeat ((first|refine ⟨λ_=>?_,λh=>absurd h dd⟩|refine ⟨λh=>absurd h dd,λ_=>?_⟩|refine ⟨λ_=>?_,λh=>absurd (show true=false from h) dd⟩|trivial);(conv=>whnf))
  rfl
 |false=>
  rw [ai dd];cases done with
  |true=>
   rw [ak rfl];cases f with
   |nil=>
    dsimp only
    by_cases d:b.gD=12
    .rw [ak d];obtain ⟨x,K,L,O,P⟩:=b;subst d;refine fS func122 ?_;exact jf
    .rw [ai d];refine fS func122 ?_;refine gI ?_;refine ⟨λh=>absurd (eq_of_beq h) d,λ_=>?_⟩
     conv=>whnf
     repeat ((first|refine ⟨λ_=>?_,λh=>absurd h dd⟩|refine ⟨λh=>absurd h dd,λ_=>?_⟩|refine ⟨λ_=>?_,λh=>absurd (show true=false from h) dd⟩|trivial);(conv=>whnf))
     rfl
   |cons a r=>
    refine fS func122 ?_;refine gI ?_;refine ⟨λ_=>?_,λh=>absurd (ag h) (by simp_all)⟩
    conv=>whnf
    refine ⟨_,⟨om,rfl⟩,?_⟩
    conv=>whnf
    rfl
  |false=>
   rw [ai dd];cases W with
   |pR=>
    refine fS func122 ?_;refine kw ?_;refine ⟨_,rfl,j,?_⟩
    conv=>whnf
    refine ⟨eI,eI,333,eI,fF.kc (F) rfl ?_⟩
    conv=>whnf
    refine ⟨eI,?_⟩
    conv=>whnf
    rfl
   |nf c=>
    have B:=T c rfl;subst B;refine fS func122 ?_;refine kw ?_;refine ⟨_,rfl,j,?_⟩
    conv=>whnf
    refine ⟨eI,eI,335,eI,fF.kc (H) rfl ?_⟩
    conv=>whnf
    refine ⟨eI,?_⟩
    conv=>whnf
    rfl
   |ml s=>
    have E:=I s (N s rfl);refine fS func122 ?_;refine kw ?_;refine ⟨_,rfl,j,?_⟩
    conv=>whnf
    refine ⟨eI,eI,334,eI,fF.kc (E) rfl ?_⟩
    conv=>whnf
    refine ⟨eI,?_⟩
    conv=>whnf
    rfl
theorem aje (r:Int):er prog 57 [.ax .i64 r] (.dn [ye (rJ r).1, .ax .i64 (rJ r).2]):=by
 unfold rJ;refine ic func57 ?_
 conv=>whnf
 refine ab (λh=>?_) λh=>?_
 .rw [ak (.inl h)];refine cx ?_;exact mR.qA (.fj (mR.rA s9) (.fj (mR.fC _) .kv))
 .conv=>whnf
  refine ab (λa=>?_) λa=>?_
  .rw [ak (.inr a)]
   conv=>whnf
   exact mR.qA (.fj (mR.rA s9) (.fj (mR.fC _) .kv))
  .rw [ai (λq=>by omega)]
   conv=>whnf
   exact mR.qA (.fj (mR.rA s9) (.fj (mR.fC _) .kv))
theorem Hm (q:Bool) (l:List eF) (i:∀ n∈l,jv n.eM) (b:l.length<=1048576) (p:List UInt8) (hp:p.length<=1048576):
  er prog 137 [.a8 q 8 (ib l) .dm, .cp p] (.dn [.ax .i64 (kj l p).1, .ax .i64 (kj l p).2]):=by
 have d:=G5 p hp;have h:=λs (e:kV p=some s)=>by have:=y7 (p:=p);rw [e] at this;exact this
 unfold kj;generalize kV p=g at*;refine ic func137 ?_;refine cx ?_;cases g with
 |none=>
  exact fu
 |some s=>
  have c:s.length<=16:=h s rfl;cases s with
  |nil=>
   have f:=JG q true l [] i b dd;exact fu
  |cons a r=>
   have f:=JG q false l (a::r) i b om;exact fu
def Yb:rD->Bool
 |[]=>true
 |(_, .ax .i64 _,_)::l=>Yb l
 |_=>false
theorem qL:∀ {es:rD},Yb es=true->∀ e∈es,sw (.int .i64) e.2.1
 |[],_,e,h=>by cases h
 |(c,k,v)::l,b,e,h=>by
  cases k with
  |ax q n=>
   cases q with
   |i64=>
    rcases aK.1 h with rfl|h
    .rfl
    .exact qL (es:=l) b e h
   |_=>cases b
  |_=>cases b
def Yc:rD:=[(0, .ax .i64 1, .eW 77 [] []),(1, .ax .i64 2, .eW 77 [] []),(2, .ax .i64 3, .eW 78 [] []),(3, .ax .i64 4, .eW 79 [] []),(4, .ax .i64 5, .eW 80 [] []),(5, .ax .i64 6, .eW 81 [] []),(6, .ax .i64 7, .eW 82 [] []),(7, .ax .i64 8, .eW 83 [] []),(8, .ax .i64 9, .eW 84 [] []),(9, .ax .i64 10, .eW 85 [] []),(10, .ax .i64 11, .eW 86 [] []),(11, .ax .i64 12, .eW 87 [] []),(12, .ax .i64 13, .eW 88 [] [])]
theorem ajf:fF prog 40 [] (eJ []) 0 (gP 0 (λx e=>x= .wR 13 Yc/\e=[])):=by
 refine fz func40 ?_
 conv=>whnf
 refine qu.Ja rfl ?_
 conv=>whnf
 refine qu.pu (kt:=3) (et:=118) (d:= .int .i64) eI eI (.inr rfl) rfl rfl rfl rfl (qL rfl) none rfl ?_
 conv=>whnf
 refine qu.pu (kt:=3) (et:=118) (d:= .int .i64) eI eI (.inr rfl) rfl rfl rfl rfl (qL rfl) none rfl ?_
 conv=>whnf
 refine qu.pu (kt:=3) (et:=118) (d:= .int .i64) eI eI (.inr rfl) rfl rfl rfl rfl (qL rfl) none rfl ?_
 conv=>whnf
 refine qu.pu (kt:=3) (et:=118) (d:= .int .i64) eI eI (.inr rfl) rfl rfl rfl rfl (qL rfl) none rfl ?_
 conv=>whnf
 refine qu.pu (kt:=3) (et:=118) (d:= .int .i64) eI eI (.inr rfl) rfl rfl rfl rfl (qL rfl) none rfl ?_
 conv=>whnf
 refine qu.pu (kt:=3) (et:=118) (d:= .int .i64) eI eI (.inr rfl) rfl rfl rfl rfl (qL rfl) none rfl ?_
 conv=>whnf
 refine qu.pu (kt:=3) (et:=118) (d:= .int .i64) eI eI (.inr rfl) rfl rfl rfl rfl (qL rfl) none rfl ?_
 conv=>whnf
 refine qu.pu (kt:=3) (et:=118) (d:= .int .i64) eI eI (.inr rfl) rfl rfl rfl rfl (qL rfl) none rfl ?_
 conv=>whnf
 refine qu.pu (kt:=3) (et:=118) (d:= .int .i64) eI eI (.inr rfl) rfl rfl rfl rfl (qL rfl) none rfl ?_
 conv=>whnf
 refine qu.pu (kt:=3) (et:=118) (d:= .int .i64) eI eI (.inr rfl) rfl rfl rfl rfl (qL rfl) none rfl ?_
 conv=>whnf
 refine qu.pu (kt:=3) (et:=118) (d:= .int .i64) eI eI (.inr rfl) rfl rfl rfl rfl (qL rfl) none rfl ?_
 conv=>whnf
 refine qu.pu (kt:=3) (et:=118) (d:= .int .i64) eI eI (.inr rfl) rfl rfl rfl rfl (qL rfl) none rfl ?_
 conv=>whnf
 refine qu.pu (kt:=3) (et:=118) (d:= .int .i64) eI eI (.inr rfl) rfl rfl rfl rfl (qL rfl) none rfl ?_
 conv=>whnf
 exact ⟨_,_,⟨rfl,rfl⟩,rfl,⟨1,ar _,rfl,rfl⟩,ae⟩
theorem ajh (s:mJ) (f:Bool):er prog 135 [BU s, .eD f] (.ax .i64 (vH s f)):=by
 have c:=G0 s;refine fS func135 ?_;refine cx ?_;unfold vH;cases q:m9 s with
 |false=>
  exact fu
 |true=>
  have h:1<=s.iH/\s.iH<=1048576/\0<=s.jw/\s.jw<=63:=by grind [m9]
  have w:IntKind.i64.wrap (128*s.iH)=128*s.iH:=fq om om;have a:IntKind.i64.wrap (2*s.jw)=2*s.jw:=fq om om;have b:IntKind.i64.wrap (128*s.iH+2*s.jw)=128*s.iH+2*s.jw:=fq om om;have d:IntKind.i64.wrap (128*s.iH+2*s.jw+1)=128*s.iH+2*s.jw+1:=fq om om;refine cx ?_;rw [w,a,b];refine ⟨λh=>?_,λh=>?_⟩
  .conv=>whnf
   rw [d,h];rfl
  .conv=>whnf
   simp_all
theorem aji (seen replica:Int):er prog 209 [.ax .i64 seen, .ax .i64 replica] (.dn [BU ((EC seen replica).getD ⟨0,0⟩), .ax .i64 (if (EC seen replica).isSome=true then 0 else 20)]):=by
 have c:=G0 ⟨seen+1,replica⟩;unfold EC;refine fS func209 ?_
 conv=>whnf
 refine ⟨λh=>?_,λh=>?_⟩
 .have h:=ah h;rw [ak (Or.inl h)];exact fu
 have h:=ag h
 conv=>whnf
 refine ⟨λa=>?_,λa=>?_⟩
 .have a:=ah a;rw [ak (Or.inr a)];exact fu
 have a:=ag a;rw [ai om];have w:IntKind.i64.wrap (seen+1)=seen+1:=fq om om
 conv=>whnf
 rw [w];refine cx ?_;cases q:m9 ⟨seen+1,replica⟩ with
 |false=>
  exact fu
 |true=>
  exact fu
theorem Yd (n:Bool) (seen:Int) (s:mJ):er prog 152 [.ax .i64 seen, .a8 n 2 [[.ax .i64 s.iH, .ax .i64 s.jw]] .dm] (.ax .i64 (ra seen s)):=by
 have c:=G0 s;refine fS func152 ?_
 conv=>whnf
 refine iE.gY (X:=Bool×Int) (λx=>[(.ct 0, .bg (.ax .i64 x.2)),(.ct 7, .bg (.a8 n 2 [[.ax .i64 s.iH, .ax .i64 s.jw]] .dm)),(.ct 8, .bg (.ax .i64 1)),(.ct 9, .bg (.ax .i64 (if x.1=true then 1 else 0)))]) 0
  (λx=>x.2=if x.1=true then ra seen s else seen) (λx=>if x.1=true then 0 else 1) dd (false,seen) rfl ⟨rfl,rfl,rfl,rfl,rfl,rfl,rfl,rfl,trivial⟩ ?_
 rintro ⟨b,z⟩ h;dsimp only at h;refine gk ?_;cases b with
 |true=>
  rw [h];dsimp only;rw [ak rfl,ak rfl];generalize ra seen s=z;exact jf
 |false=>
  rw [h];dsimp only;rw [ai dd,ai dd];refine cx ?_;refine ⟨_,⟨dd,rfl⟩,?_⟩;refine cx ?_;cases q:m9 s with
  |false=>
   refine kw ?_;exact ⟨(true,seen),by simp [ra,q],Nat.zero_lt_one,af⟩
  |true=>
   refine kw ?_;exact ⟨(true,max seen s.iH),by simp [ra,q],Nat.zero_lt_one,af⟩
def J0:nG:=⟨0,[]⟩
theorem ajg {α d:Type} {enc:α->List d} {sz:Nat} (s:∀ a,(enc a).length=sz) (a x b:List α) (h:x.length<=b.length):
  (((a++b).map enc).flatten).take (a.length*sz)++(x.map enc).flatten++(((a++b).map enc).flatten).drop (a.length*sz+x.length*sz)=((a++x++b.drop x.length).map enc).flatten:=by
 have e:=EO (enc:=enc) s (l:=a++b) (k:=a.length) (by simp_all);have c:=EM (enc:=enc) s (l:=a++b) (k:=a.length+x.length) (by simp_all);rw [cl] at c;simp_all
theorem JZ (n:Bool) (l:List (Bool×List nG)) (y:l.length<=1000) (A:(l.flatMap (·.2)).length<=1000000):er prog 157 [.a8 n 1 (l.map λs=>[b9.a8 s.1 2 (s.2.map kL) .dm]) .dm] (.a8 false 2 ((l.flatMap (·.2)).map kL) .dm):=by
 have b:(l.map λs=>[b9.a8 s.1 2 (s.2.map kL) .dm]).length=l.length:=ap _;refine ic func157 ?_
 conv=>whnf
 refine iE.gY (λk:Nat=>[(.ct 0, .bg (.a8 n 1 (l.map λs=>[b9.a8 s.1 2 (s.2.map kL) .dm]) .dm)),(.ct 3, .bg (.ax .i64 ((l.take k).flatMap (·.2)).length)),(.ct 9, .bg (.a8 n 1 (l.map λs=>[b9.a8 s.1 2 (s.2.map kL) .dm]) .dm)),(.ct 10, .bg (.ax .i64 l.length)),(.ct 11, .bg (.ax .i64 k))]) 0
  (λk=>k<=l.length) (λk=>l.length - k) dd 0 (ar _) ⟨rfl,rfl,rfl,rfl,rfl,rfl,?_,af⟩ ?_
 .show gC.bg (b9.ax .i64 ((l.map λs=>[b9.a8 s.1 2 (s.2.map kL) .dm]).length:Nat))=_;rw [b]
 intro k v;refine gk ?_;refine ab (λh=>?_) λh=>?_
 .have t:k<l.length:=om;have g:=pV (λs:Bool×List nG=>[b9.a8 s.1 2 (s.2.map kL) .dm]) t;have x:IntKind.i64.wrap ((k:Int)+1)=((k+1:Nat):Int):=by grind [fq]
  have i:((l.take (k+1)).flatMap (·.2)).length=((l.take k).flatMap (·.2)).length+l[k].2.length:=by grind [List.take_succ_eq_append_getElem]
  have e:((l.take (k+1)).flatMap (·.2)).length<=1000000:=by
   grind [List.take_append_drop]
  have j:(l[k].2.map kL).length=l[k].2.length:=ap _;generalize l[k]=a at*
  conv=>whnf
  refine ⟨_,⟨om,g⟩,?_⟩
  conv=>whnf
  refine ⟨k+1,om,by grind,rfl,rfl,?_,rfl,rfl,rfl,rfl,rfl,?_,rfl,ae⟩
  .show gC.bg (b9.ax .i64 (IntKind.i64.wrap ((((l.take k).flatMap (·.2)).length:Int)+((a.2.map kL).length:Nat))))=gC.bg (b9.ax .i64 ((l.take (k+1)).flatMap (·.2)).length);grind [fq]
  .exact ix
 .obtain rfl:k=l.length:=om;rw [aN];generalize q:(l.flatMap (·.2)).length=N at*
  conv=>whnf
  refine ⟨⟨om,rfl,ji om dd⟩,?_⟩
  conv=>whnf
  have z:jM (N:Int).toNat (mB [b9.ax .i64 0, .cp []])=((List.replicate N J0).map kL).flatten:=by
   rw [aC,List.map_replicate];rfl
  rw [z];have e:∀ k,((l.take k).flatMap (·.2)).length<=N:=λk=>by
   grind [List.take_append_drop]
  refine iE.gY (λk:Nat=>[(.ct 3, .bg (.ax .i64 ((l.take k).flatMap (·.2)).length)),(.ct 6, .bg (.eP 2 0 2 N true)),(.ct 22, .bg (.a8 n 1 (l.map λs=>[b9.a8 s.1 2 (s.2.map kL) .dm]) .dm)),(.ct 23, .bg (.ax .i64 l.length)),(.ct 24, .bg (.ax .i64 k)),
    (.ay 2, .eY 216 (((((l.take k).flatMap (·.2))++List.replicate (N - ((l.take k).flatMap (·.2)).length) J0).map kL).flatten))]) 3
   (λk=>k<=l.length) (λk=>l.length - k) dd 0 (ar _) ⟨rfl,rfl,rfl,rfl,rfl,rfl,?_,af⟩ ?_
  .show gC.bg (b9.ax .i64 ((l.map λs=>[b9.a8 s.1 2 (s.2.map kL) .dm]).length:Nat))=_;rw [b]
  intro k v;have w:=e k;generalize d:(l.take k).flatMap (·.2)=D at*;have f:=tE (enc:=kL) (sz:=2) (λ_=>rfl) (D++List.replicate (N - D.length) J0);rw [au,List.length_replicate] at f;refine gk ?_;refine ab (λh=>?_) λh=>?_
  .have t:k<l.length:=om;have g:=pV (λs:Bool×List nG=>[b9.a8 s.1 2 (s.2.map kL) .dm]) t;have x:IntKind.i64.wrap ((k:Int)+1)=((k+1:Nat):Int):=by grind [fq]
   have i:(l.take (k+1)).flatMap (·.2)=D++l[k].2:=by grind [List.take_succ_eq_append_getElem]
   have c:=e (k+1);rw [i,au] at c;have j:(l[k].2.map kL).length=l[k].2.length:=ap _;have m:min l[k].2.length (N - D.length)=l[k].2.length:=om;generalize l[k]=a at*;have u:=ajg (enc:=kL) (sz:=2) (λ_=>rfl) D a.2 (List.replicate (N - D.length) J0) (by grind);have r:=tE (enc:=kL) (sz:=2) (λ_=>rfl) a.2
   conv=>whnf
   refine ⟨_,⟨om,g⟩,?_⟩
   conv=>whnf
   refine ⟨om,?_⟩
   conv=>whnf
   refine ⟨om,?_⟩
   conv=>whnf
   refine ⟨k+1,om,by grind,?_,rfl,rfl,rfl,rfl,rfl,rfl,rfl,?_,rfl,?_,rfl,ae⟩
   .show gC.bg (b9.ax .i64 (IntKind.i64.wrap ((D.length:Int)+((min (a.2.map kL).length (N - (D.length:Int).toNat):Nat):Int))))=gC.bg (b9.ax .i64 ((l.take (k+1)).flatMap (·.2)).length);rw [i,j,aC,m,fq om om,au];rfl
   .exact ix
   .show gC.eY _ (List.take (0+(D.length:Int).toNat*2) _++List.take (min (a.2.map kL).length (N - (D.length:Int).toNat)*2) (a.2.map kL).flatten++List.drop (0+(D.length:Int).toNat*2+min (a.2.map kL).length (N - (D.length:Int).toNat)*2) _)=gC.eY _ (((((l.take (k+1)).flatMap (·.2))++List.replicate (N - ((l.take (k+1)).flatMap (·.2)).length) J0).map kL).flatten);grind
  .obtain rfl:k=l.length:=om;rw [aN] at d
   conv=>whnf
   have p:N=D.length:=by rw [<-d,q]
   have o:N - D.length=0:=om;rw [o,List.replicate_zero,aH,d];rw [p];exact Hh (enc:=kL) (λ_=>rfl) (λ_=>rfl) rfl
theorem ajj (q:BL) (n:Bool) (l:List nG) (i:q.sy.al.length<=100000) (j:l.length<=100000):er prog 90 [.eN (Hb q), .a8 n 2 (l.map kL) .dm] (.eN (Hb (GS q l))):=by
 obtain ⟨⟨g,e⟩,o⟩:=q;have i:e.length<=100000:=i;have a:(e.map kL).length=e.length:=ap _;have f:(l.map kL).length=l.length:=ap _;have b:=JZ false [((⟨g,e⟩:gp nG).gg,e)] (ef 1 999) (by simp;omega);have c:=JZ false [((⟨g,e⟩:gp nG).gg,e),(n,l)] (ef 2 998) (by simp;omega);rw [cA,dH,aH] at b;rw [cA,cA,dH,aH] at c;unfold GS;refine fS func90 ?_
 conv=>whnf
 cases o with
 |true=>
  exact jf
 |false=>
 refine gI ?_;refine fz func158 ?_
 conv=>whnf
 rw [a,XP,f];have w:max (IntKind.i64.wrap (8 - (e.length:Int))) 0=((8 - e.length:Nat):Int):=by grind [fq]
 rw [w];have d:=JZ false [((⟨g,e⟩:gp nG).gg,e),(n,l.take (8 - e.length)),(false,[⟨9,[]⟩])] (ef 3 997) (by simp;omega);rw [cA,cA,cA,dH,aH] at d;have t:(l.map kL).take (8 - e.length)=(l.take (8 - e.length)).map kL:=cr.symm;rw [ai dl];refine ab (λh=>?_) λh=>?_
 .rw [ak (show 8 - e.length<l.length by omega)]
  conv=>whnf
  refine ⟨⟨om,om,rfl⟩,?_⟩
  conv=>whnf
  rw [aC,t];refine cx ?_;rw [aA];rfl
 .rw [ai (show ¬8 - e.length<l.length by omega)];exact fu
theorem ajk (q:BL) (a:q.sy.al.length<=100000):er prog 151 [.eN (Hb q), .ax .i64 q.sy.al.length] (.dn [.eN (Hb (wY q).1),gE 2 kL (wY q).2]):=by
 obtain ⟨⟨n,e⟩,o⟩:=q;have a:e.length<=100000:=a;have h:(e.map kL).length=e.length:=ap _;have c:max (e.length:Int) 0=e.length:=om;have m:min (e.length:Int) (e.length:Int)=e.length:=om;refine fS func151 ?_
 conv=>whnf
 rw [aih,XP];show (_/\_)/\_;rw [h,c,m];refine cx ?_;have d:(e.map kL).drop e.length=[]:=bM om;have t:(e.map kL).take e.length=e.map kL:=bj om;have f:=JZ false [((⟨n,e⟩:gp nG).gg,[])] (ef 1 999) (by simp);have b:=JZ false [((⟨n,e⟩:gp nG).gg,e)] (ef 1 999) (by simp;omega);rw [cA,dH,aH] at b;rw [aC,d];refine cx ?_;refine ⟨⟨om,by simp_all,rfl⟩,?_⟩
 conv=>whnf
 rw [aC,t];exact fu
def Hn (m:fX) (c:fG) (data:List UInt8) (nv:b9) (n:Int) (ev o:b9):List b9:=[gE 17 jB m.cy.fZ,gE 8 mD m.cy.ec, .ax .i64 m.jk, .ax .i64 m.ky,gE 2 mw m.iq,gE 4 jH m.iG, .ax .i64 m.jg,
 .ax .i64 0, .cp data,nv, .ax .i64 n,ev, .ax .i64 c.gD, .cp c.fR, .cp c.kE, .cp c.lS, .ax .i64 c.g7,o]
def Rf (m:fX) (c:fG) (data:List UInt8) (nv:b9) (n:Int) (ev o:b9):List (Go.Am.fQ×gC):=[(.ay 10, .dc 117 (Hn m c data nv n ev o))]
abbrev sG:b9:= .a8 true 1 [] .fW
abbrev J1:b9:= .a8 true 1 [] .dm
abbrev rP (m:fX) (c:fG):List (Go.Am.fQ×gC):=Rf m c [] sG 0 sG sG
abbrev Yg (m:fX) (c:fG) (o:e7):List (Go.Am.fQ×gC):=Rf m c [] J1 0 J1 (.a8 false 7 [gV o] .dm)
abbrev Yf (m:fX) (c:fG):List (Go.Am.fQ×gC):=Rf m c [] J1 0 J1 J1
theorem Ye (m:fX) (c:fG) (l:m.cy.fZ.al.length<=1048576):fF prog 134 [.c8 10 0] (eJ (rP m c)) 11 (gP 11 (λr es=>r= .gO (.dn [BU (nh m).1, .ax .i64 (nh m).2])/\es=rP m c)):=by
 have n:=aji m.jk m.ky;have e:(m.cy.fZ.al.map jB).length=m.cy.fZ.al.length:=ap _;unfold nh;generalize EC m.jk m.ky=S at*;cases S with
 |none=>
  refine fz func134 ?_;refine cx ?_;exact ⟨_,_,⟨rfl,rfl⟩,rfl,⟨rfl,rfl⟩,⟨rfl,rfl,trivial⟩⟩
 |some st=>
  dsimp only
  by_cases h:200<=m.cy.fZ.al.length
  .rw [ak h];refine fz func134 ?_;refine gI ?_;refine GC om ?_
   conv=>whnf
   exact ⟨_,_,⟨rfl,rfl⟩,rfl,⟨rfl,rfl⟩,⟨rfl,rfl,trivial⟩⟩
  .rw [ai h];refine fz func134 ?_;refine gI ?_;refine kD om ?_
   conv=>whnf
   exact ⟨_,_,⟨rfl,rfl⟩,rfl,⟨rfl,rfl⟩,⟨rfl,rfl,trivial⟩⟩
theorem ajl (m:fX) (c:fG) (o:e7) (d:l8 m.cy) (f:qf o):fF prog 156 [.c8 10 0,rc o] (eJ (rP m c)) 11
  (gP 11 (λr es=>r= .gO (.ax .i64 (jO m.cy o).2)/\es=if (jO m.cy o).2=0 then Yg {m with cy:=(jO m.cy o).1} c o else Yf m c)):=by
 have b:=Q7 d o f;generalize jO m.cy o=R at*;obtain ⟨g,e⟩:=R;refine fF.X2 10 ?_
 by_cases h:e=0
 .subst h;rw [ak rfl];refine fz func156 ?_
  conv=>whnf
  refine ⟨_,rfl,b,?_⟩
  conv=>whnf
  refine ⟨eI,?_⟩;refine kw ?_;refine ⟨rfl,?_⟩
  conv=>whnf
  refine ⟨ji (by simp_all) dd,?_⟩;refine cx ?_;exact ⟨_,_,rfl,_,_,⟨rfl,rfl⟩,rfl,⟨rfl,rfl⟩,⟨rfl,rfl,trivial⟩⟩
 .rw [ai h];refine fz func156 ?_;refine cx ?_;refine ⟨λa=>?_,λa=>absurd (by simpa using a) h⟩
  conv=>whnf
  exact ⟨_,_,rfl,_,_,⟨rfl,rfl⟩,rfl,⟨rfl,rfl⟩,⟨rfl,rfl,trivial⟩⟩
def AE (m:fX) (o:e7):Int:=if (nh m).2≠0 then (nh m).2 else (jO m.cy (pT o (nh m).1)).2
theorem M2 (m:fX) (c:fG) (o:e7) (d:l8 m.cy) (f:qf o):fF prog 136 [.c8 10 0,rc o] (eJ (rP m c)) 11
  (gP 11 (λr es=>r= .gO (.ax .i64 (AE m o))/\es=if AE m o=0 then Yg {m with cy:=(jO m.cy (pT o (nh m).1)).1,jk:=(nh m).1.iH} c (pT o (nh m).1) else Yf m c)):=by
 have n:=Ye m c (av d.zf dd);have a:=λs=>ajl m c (pT o s) d ⟨f.Aw,f.Qv,f.Qu,f.WV⟩
 unfold AE;generalize nh m=S at*;obtain ⟨s,e⟩:=S;have a:=a s;dsimp only at*;generalize j:jO m.cy (pT o s)=R at*;obtain ⟨g,i⟩:=R;dsimp only at*;refine fF.X2 10 ?_
 by_cases h:e=0
 .subst h;rw [ai dd]
  by_cases b:i=0
  .subst b;rw [ak rfl] at a ⊢;refine fz func136 ?_;refine j5 ?_;exact ⟨_,_,rfl,_,_,⟨rfl,rfl⟩,rfl,⟨rfl,rfl⟩,⟨rfl,rfl,trivial⟩⟩
  .rw [ai b] at a ⊢;refine fz func136 ?_;refine j5 ?_;refine ⟨λ_=>?_,λq=>absurd (by simpa using q) b⟩
   conv=>whnf
   exact ⟨_,_,rfl,_,_,⟨rfl,rfl⟩,rfl,⟨rfl,rfl⟩,⟨rfl,rfl,trivial⟩⟩
 .rw [ak h,ai h];refine fz func136 ?_;refine j5 ?_;refine ⟨λ_=>?_,λq=>absurd (by simpa using q) h⟩
  conv=>whnf
  exact ⟨_,_,rfl,_,_,⟨rfl,rfl⟩,rfl,⟨rfl,rfl⟩,⟨rfl,rfl,trivial⟩⟩
def fO (m:fX) (c:fG):iY:=⟨m,iL 0,c, .g6⟩
abbrev vf (d:iY):List (Go.Am.fQ×gC):=[(.ay 10, .dc 117 (QO d))]
def Yi (m:fX) (c:fG) (o:e7):iY:=⟨{m with cy:=(jO m.cy (pT o (nh m).1)).1,jk:=(nh m).1.iH},iL 0,c,⟨false,[pT o (nh m).1]⟩⟩
theorem J2 (m:fX) (c:fG) (o:e7):nU (fO m c) o=if AE m o=0 then (Yi m c o,0) else (fO m c,AE m o):=by
 unfold nU AE Yi;rw [show (fO m c).e8=m from rfl];generalize nh m=S;obtain ⟨s,e⟩:=S;dsimp only
 by_cases h:e=0
 .subst h;rw [ai (show ¬((0:Int)≠0) by decide),ai (show ¬((0:Int)≠0) by decide)];unfold rI;rw [show (fO m c).e8=m from rfl];generalize jO m.cy (pT o s)=R;obtain ⟨g,e⟩:=R;dsimp only
  by_cases h:e=0
  .subst h;rfl
  .simp [h]
 simp_all
theorem Yh (q:Bool) (l:List eF) (g:∀ n∈l,jv n.eM) (m:l.length<=1048576) (p:List UInt8) (hp:p.length<=1048576):
  er prog 132 [.a8 q 8 (ib l) .dm, .cp p] (.dn [.ax .i64 (nT l p).1.1, .cp (nT l p).1.2, .ax .i64 (nT l p).2]):=by
 have v:=G5 p hp;have c:=λs (e:kV p=some s)=>by have:=y7 (p:=p);rw [e] at this;exact this
 unfold nT;generalize kV p=x at*;cases x with
 |none=>
  refine fS func132 ?_;exact jf
 |some s=>
  have j:s.length<=16:=c s rfl;cases s with
  |nil=>
   refine fS func132 ?_;exact jf
  |cons a r=>
   dsimp only;have u:(k8 (a::r)).length=r.length+1:=by rw [Ay];rfl
   have t:(k8 (a::r)).take r.length=((a::r).dropLast).map nk:=by rw [List.dropLast_eq_take];show ((a::r).map _).take _=_;rw [<-cr];rfl
   have y:IntKind.i64.wrap (((k8 (a::r)).length:Int) - 1)=(r.length:Int):=by
    grind [fq]
   have z:=JG q false l (a::r).dropLast g m (by grind);have i:=JX g (a::r).dropLast;have k:=w7 _ i;have A:(k8 (a::r))[r.length]? =some [.cp ((a::r).getLast (by simp))]:=by
    have:(a::r)[r.length]? =some ((a::r).getLast (by simp)):=by
     grind
    show ((a::r).map _)[r.length]? =_;grind
   generalize (a::r).getLast (by simp)=w at*;generalize (a::r).dropLast=N at*;generalize jR l N=f at*;have o:∀ (R:(Int×List UInt8)×Int),R=(if f.2≠0 then ((0,[]),f.2) else if iy f.1=false then ((0,[]),81) else ((f.1,w),0))->er prog 132 [.a8 q 8 (ib l) .dm, .cp p] (.dn [.ax .i64 R.1.1, .cp R.1.2, .ax .i64 R.2]):=by
    intro R b;refine fS func132 ?_;refine gI ?_;rw [y];refine gI ?_;rw [aC,t];refine cx ?_;refine ⟨λh=>?_,λh=>?_⟩
    .have h:f.2≠0:=by simpa using h
     rw [ak h] at b;subst b
     conv=>whnf
    .have h:f.2=0:=by simpa using h
     rw [ai (by rw [h];decide)] at b;refine cx ?_;cases d:iy f.1 with
     |false=>
      rw [ak d] at b;subst b;exact jf
     |true=>
      rw [ai (by rw [d];decide)] at b;subst b;refine kw ?_;refine ⟨_,⟨om,by trivial⟩,?_⟩
      conv=>whnf
      refine ⟨eI,?_⟩
      conv=>whnf
   exact o _ rfl
theorem Yj {l:List eF} (i:∀ n∈l,jv n.eM) (p:List UInt8):jv (nT l p).1.1/\(nT l p).1.2.length<=p.length:=by
 have z:jv 0:=by unfold jv;decide
 unfold nT;cases h:kV p with
 |none=>simp_all
 |some a=>
  have s:=Wd h;grind [JX]
theorem Ho {l:List eF} (h:∀ n∈l,jv n.eM) (p:List UInt8):jv (kj l p).1:=by
 grind [kj,jv,JX]
theorem ajm (s:mJ) (f:Bool):jv (vH s f):=by
 grind [vH,m9,jv]
theorem ET {g:li} (h:l8 g):∀ n∈g.ec.al,jv n.eM:=λn a=>by have:=h.Q5 n a;exact ⟨om,om⟩
theorem Hp {g:li} (h:l8 g):g.ec.al.length<=1048576:=av h.ER dd
theorem Yk (m:fX) (c:fG) (t:l8 m.cy) (hp:c.fR.length<=1048576):fF prog 77 [.c8 10 0] (eJ (rP m c)) 11
  (gP 11 (λr es=>r= .gO (.ax .i64 (uq (fO m c)).2)/\es=vf (uq (fO m c)).1)):=by
 have N:=ET t;have k:=Hp t;have w:=Yh m.cy.ec.gg m.cy.ec.al N k c.fR hp;have g:=Yj N c.fR;have b:=λd s=>MG m.cy.ec.gg m.cy.ec.al d s N k
 have x:=Ye m c (av t.zf dd);have j:=λs=>ajh s (c.gD==1)
 have h:uq (fO m c)=if c.fR=[47] then (fO m c,194) else if (nT m.cy.ec.al c.fR).2≠0 then (fO m c,(nT m.cy.ec.al c.fR).2) else if (iB m.cy.ec.al (nT m.cy.ec.al c.fR).1.1 (nT m.cy.ec.al c.fR).1.2).isSome=true then (fO m c,190)
   else if (nh m).2≠0 then (fO m c,(nh m).2) else nU (fO m c) (nI 1 (vH (nh m).1 (c.gD==1)) (nT m.cy.ec.al c.fR).1.1 (nT m.cy.ec.al c.fR).1.2 []):=by
  trivial
 generalize uq (fO m c)=B at*;generalize nT m.cy.ec.al c.fR=A at*;obtain ⟨⟨d,l⟩,e⟩:=A;dsimp only at*;have b:=b d l;have i:qf (nI 1 (vH (nh m).1 (c.gD==1)) d l []):=⟨ajm _ _,g.1,av g.2 hp,ar _⟩;refine fF.rh 10 ?_
 by_cases f:c.fR=[47]
 .have v:=f;refine fz func77 ?_
  conv=>whnf
  refine ⟨λ_=>?_,λq=>absurd (ag q) (λq=>q f)⟩;have a:B=(fO m c,194):=by rw [h,ak f]
  subst a;exact kU
 rw [ai f] at h
 by_cases u:e=0
 .subst u;rw [ai (show ¬((0:Int)≠0) by decide)] at h;cases o:(iB m.cy.ec.al d l).isSome with
  |true=>
   rw [o] at b;refine fz func77 ?_
   conv=>whnf
   refine kD f ?_;refine cx ?_;have a:B=(fO m c,190):=by rw [h,ak o]
   subst a;exact kU
  |false=>
   rw [ai (by rw [o];decide)] at h;rw [o] at b
   by_cases n:(nh m).2=0
   .rw [ai (λq=>q n)] at h;rw [n] at x;have j:=j (nh m).1;refine fz func77 ?_
    conv=>whnf
    refine kD f ?_;refine j5 ?_;have a:B=nU (fO m c) (nI 1 (vH (nh m).1 (c.gD==1)) d l []):=h;rw [J2] at a;have p:=M2 m c (nI 1 (vH (nh m).1 (c.gD==1)) d l []) t (i)
    by_cases z:AE m (nI 1 (vH (nh m).1 (c.gD==1)) d l [])=0
    .rw [ak z] at a p;subst a;refine j5 ?_;rw [z];exact kU
    .rw [ai z] at a p;subst a;refine j5 ?_;exact kU
   .rw [ak n] at h;refine fz func77 ?_
    conv=>whnf
    refine kD f ?_;refine j5 ?_;refine ⟨λ_=>?_,λq=>absurd (by simpa using q) n⟩;have a:B=(fO m c,(nh m).2):=h;subst a;exact kU
 .rw [ak u] at h;refine fz func77 ?_
  conv=>whnf
  refine kD f ?_;refine cx ?_;refine ⟨λ_=>?_,λq=>absurd (by simpa using q) u⟩;have a:B=(fO m c,e):=h;subst a;exact kU
theorem ajp (m:fX) (c:fG) (k:l8 m.cy) (hp:c.fR.length<=1048576) (n:c.lS.length<=1048576):fF prog 78 [.c8 10 0] (eJ (rP m c)) 11
  (gP 11 (λr es=>r= .gO (.ax .i64 (uv (fO m c)).2)/\es=vf (uv (fO m c)).1)):=by
 have N:=ET k;have l:=Hp k;have t:=Hm m.cy.ec.gg m.cy.ec.al N l c.fR hp;have i:=Ho N c.fR;have b:=w7 _ i;have h:uv (fO m c)=if (kj m.cy.ec.al c.fR).2≠0 then (fO m c,(kj m.cy.ec.al c.fR).2) else if iy (kj m.cy.ec.al c.fR).1=true then (fO m c,82) else nU (fO m c) (nI 2 (kj m.cy.ec.al c.fR).1 0 [] c.lS):=rfl
 generalize uv (fO m c)=B at*;generalize kj m.cy.ec.al c.fR=A at*;obtain ⟨g,e⟩:=A;dsimp only at*;have f:qf (nI 2 g 0 [] c.lS):=⟨i,by show jv 0;unfold jv;decide,ar _,n⟩;refine fF.rh 10 ?_
 by_cases j:e=0
 .subst j;rw [ai (show ¬((0:Int)≠0) by decide)] at h;cases d:iy g with
  |true=>
   rw [d] at b;refine fF.wM jy m8 (fn:=f78) eI rfl eI rfl rfl ?_;refine cx ?_;have a:B=(fO m c,82):=by simp_all
   subst a;exact kU
  |false=>
   rw [ai (by rw [d];decide)] at h;rw [d] at b;refine fz func78 ?_;refine cx ?_;have a:B=nU (fO m c) (nI 2 g 0 [] c.lS):=h;rw [J2] at a;have p:=M2 m c (nI 2 g 0 [] c.lS) k (f)
   by_cases z:AE m (nI 2 g 0 [] c.lS)=0
   .rw [ak z] at a p;subst a;refine j5 ?_;rw [z];exact kU
   .rw [ai z] at a p;subst a;refine j5 ?_;exact kU
 .rw [ak j] at h;refine fz func78 ?_;refine cx ?_;refine ⟨λ_=>?_,λq=>absurd (by simpa using q) j⟩;have a:B=(fO m c,e):=h;subst a;exact kU
theorem ajn (m:fX) (c:fG) (E:l8 m.cy) (hp:c.fR.length<=1048576) (p:c.kE.length<=1048576):fF prog 80 [.c8 10 0] (eJ (rP m c)) 11
  (gP 11 (λr es=>r= .gO (.ax .i64 (ur (fO m c)).2)/\es=vf (ur (fO m c)).1)):=by
 have i:=ET E;have N:=Hp E;have K:=Hm m.cy.ec.gg m.cy.ec.al i N c.fR hp;have J:=Yh m.cy.ec.gg m.cy.ec.al i N c.kE p;have k:=Yj i c.kE;have F:=Ho i c.fR;have g:=λd s=>MG m.cy.ec.gg m.cy.ec.al d s i N
 have u:=λd=>JE m.cy.ec.gg m.cy.ec.al d i N
 have h:ur (fO m c)=if c.fR=[47]\/c.kE=[47] then (fO m c,194) else if (kj m.cy.ec.al c.fR).2≠0 then (fO m c,(kj m.cy.ec.al c.fR).2) else
   if (nT m.cy.ec.al c.kE).2≠0 then (fO m c,(nT m.cy.ec.al c.kE).2) else if (iB m.cy.ec.al (nT m.cy.ec.al c.kE).1.1 (nT m.cy.ec.al c.kE).1.2).isSome=true then (fO m c,190)
   else if (nT m.cy.ec.al c.kE).1.1=(kj m.cy.ec.al c.fR).1\/(mT m.cy.ec.al (nT m.cy.ec.al c.kE).1.1).contains (kj m.cy.ec.al c.fR).1=true then (fO m c,192)
   else nU (fO m c) (nI 1 (kj m.cy.ec.al c.fR).1 (nT m.cy.ec.al c.kE).1.1 (nT m.cy.ec.al c.kE).1.2 []):=rfl
 generalize ur (fO m c)=B at*;generalize nT m.cy.ec.al c.kE=A at*;generalize kj m.cy.ec.al c.fR=T at*;obtain ⟨⟨d,l⟩,e⟩:=A;obtain ⟨j,I⟩:=T;dsimp only at*;have g:=g d l;have u:=u d;have t:=GY (decide (mT m.cy.ec.al d=[])) (mT m.cy.ec.al d) j (Rd N);have n:qf (nI 1 j d l []):=⟨F,k.1,av k.2 p,ar _⟩;refine fF.rh 10 ?_
 by_cases f:c.fR=[47]
 .have x:=f;refine fF.wM jy m8 (fn:=f80) eI rfl eI rfl rfl ?_
  conv=>whnf
  refine ⟨λ_=>?_,λq=>absurd (ag q) (λq=>q f)⟩;refine cx ?_;have a:B=(fO m c,194):=by simp_all
  subst a;exact kU
 by_cases b:c.kE=[47]
 .have x:=f;refine fz func80 ?_
  conv=>whnf
  refine kD f ?_
  conv=>whnf
  refine ⟨λ_=>?_,λq=>absurd (ag q) (λq=>q b)⟩
  conv=>whnf
  have a:B=(fO m c,194):=by simp_all
  subst a;exact kU
 rw [ai (λq=>by simp_all)] at h
 by_cases y:I=0
 .subst y;rw [ai (show ¬((0:Int)≠0) by decide)] at h
  by_cases z:e=0
  .subst z;rw [ai (show ¬((0:Int)≠0) by decide)] at h;cases w:(iB m.cy.ec.al d l).isSome with
   |true=>
    rw [w] at g;refine fz func80 ?_
    conv=>whnf
    refine kD f ?_
    conv=>whnf
    refine kD b ?_;refine cx ?_;have a:B=(fO m c,190):=by rw [h,ak w]
    subst a;exact kU
   |false=>
    rw [ai (by rw [w];decide)] at h;rw [w] at g
    by_cases v:d=j
    .rw [ak (.inl v)] at h;refine fz func80 ?_
     conv=>whnf
     refine kD f ?_
     conv=>whnf
     refine kD b ?_;refine cx ?_;refine ⟨λ_=>?_,λq=>absurd v (by simpa using q)⟩;refine cx ?_;have a:B=(fO m c,192):=h;subst a;exact kU
    .cases D:(mT m.cy.ec.al d).contains j with
     |true=>
      rw [ak (.inr D)] at h;rw [D] at t;refine fz func80 ?_
      conv=>whnf
      refine kD f ?_
      conv=>whnf
      refine kD b ?_;refine cx ?_;refine ⟨λq=>absurd (eq_of_beq q) v,λ_=>?_⟩;refine cx ?_;have a:B=(fO m c,192):=h;subst a;exact kU
     |false=>
      rw [ai (λq=>by simp_all)] at h;rw [D] at t;refine fz func80 ?_
      conv=>whnf
      refine kD f ?_
      conv=>whnf
      refine kD b ?_;refine cx ?_;refine ⟨λq=>absurd (eq_of_beq q) v,λ_=>?_⟩;refine cx ?_;have a:B=nU (fO m c) (nI 1 j d l []):=h;rw [J2] at a;have o:=M2 m c (nI 1 j d l []) E (n)
      by_cases H:AE m (nI 1 j d l [])=0
      .rw [ak H] at a o;subst a;refine j5 ?_;rw [H];exact kU
      .rw [ai H] at a o;subst a;refine j5 ?_;exact kU
  .rw [ak z] at h;refine fz func80 ?_
   conv=>whnf
   refine kD f ?_
   conv=>whnf
   refine kD b ?_;refine cx ?_;refine ⟨λ_=>?_,λq=>absurd (by simpa using q) z⟩;have a:B=(fO m c,e):=h;subst a;exact kU
 .rw [ak y] at h;refine fz func80 ?_
  conv=>whnf
  refine kD f ?_
  conv=>whnf
  refine kD b ?_;refine cx ?_;refine ⟨λ_=>?_,λq=>absurd (by simpa using q) y⟩;have a:B=(fO m c,I):=h;subst a;exact kU
theorem ajo (m:fX) (c:fG) (u:l8 m.cy) (hp:c.fR.length<=1048576):fF prog 81 [.c8 10 0] (eJ (rP m c)) 11
  (gP 11 (λr es=>r= .gO (.ax .i64 (uu (fO m c)).2)/\es=vf (uu (fO m c)).1)):=by
 have i:=ET u;have N:=Hp u;have D:=Hm m.cy.ec.gg m.cy.ec.al i N c.fR hp;have w:=Ho i c.fR;have H:=G5 c.fR hp;have v:=λn (e:kV c.fR=some n)=>by have:=y7 (p:=c.fR);rw [e] at this;exact this
 have g:=λn (e:kV c.fR=some n)=>Wd e
 have h:uu (fO m c)=if c.fR=[47] then (fO m c,194) else if (kj m.cy.ec.al c.fR).2≠0 then (fO m c,(kj m.cy.ec.al c.fR).2) else
   match kV c.fR with|none=>(fO m c,194)|some []=>(fO m c,194)|some (s::r)=>nU (fO m c) (nI 1 (kj m.cy.ec.al c.fR).1 2 ((s::r).getLast (by simp)) []):=rfl
 generalize uu (fO m c)=B at*;generalize kj m.cy.ec.al c.fR=T at*;generalize kV c.fR=I at*;obtain ⟨j,x⟩:=T;dsimp only at*;refine fF.rh 10 ?_
 by_cases d:c.fR=[47]
 .have y:=d;refine fF.wM jy m8 (fn:=f81) eI rfl eI rfl rfl ?_
  conv=>whnf
  refine ⟨λ_=>?_,λq=>absurd (of_decide_eq_false q) (λq=>q d)⟩;have b:B=(fO m c,194):=by rw [h,ak d]
  subst b;exact kU
 rw [ai d] at h
 by_cases o:x=0
 .subst o;rw [ai (show ¬((0:Int)≠0) by decide)] at h;cases I with
  |none=>
   refine fz func81 ?_
   conv=>whnf
   refine kD d ?_;refine cx ?_;have b:B=(fO m c,194):=h;subst b;exact kU
  |some n=>
   have A:n.length<=16:=v n rfl;have g:=g n rfl;cases n with
   |nil=>
    refine fz func81 ?_
    conv=>whnf
    refine kD d ?_;refine cx ?_;have b:B=(fO m c,194):=h;subst b;exact kU
   |cons a r=>
    have F:(k8 (a::r)).length=r.length+1:=by rw [Ay];rfl
    have E:(k8 (a::r))[r.length]? =some [.cp ((a::r).getLast (by simp))]:=by
     have:(a::r)[r.length]? =some ((a::r).getLast (by simp)):=by
      grind
     show ((a::r).map _)[r.length]? =_;grind
    have l:=g _ (List.getLast_mem (show a::r≠[] by simp));have J:IntKind.i64.wrap (((k8 (a::r)).length:Int) - 1)=(r.length:Int):=by
     grind [fq]
    dsimp only at h;generalize (a::r).getLast (by simp)=k at*;have f:qf (nI 1 j 2 k []):=⟨w,by show jv 2;unfold jv;decide,av l hp,ar _⟩;refine fz func81 ?_
    conv=>whnf
    refine kD d ?_;refine gI ?_;rw [J];refine ⟨_,⟨om,by trivial⟩,?_⟩;have b:B=nU (fO m c) (nI 1 j 2 k []):=h;rw [J2] at b;have t:=M2 m c (nI 1 j 2 k []) u (f)
    by_cases z:AE m (nI 1 j 2 k [])=0
    .rw [ak z] at b t;subst b;refine j5 ?_;rw [z];exact kU
    .rw [ai z] at b t;subst b;refine j5 ?_;exact kU
 .rw [ak o] at h;refine fz func81 ?_
  conv=>whnf
  refine kD d ?_;refine cx ?_;refine ⟨λ_=>?_,λq=>absurd (by simpa using q) o⟩;have b:B=(fO m c,x):=h;subst b;exact kU
theorem Yl (i:Bool) (l:List eF) (id:Int) (b:∀ n∈l,jv n.eM) (a:l.length<=1048576):
  er prog 12 [.a8 i 8 (ib l) .dm, .ax .i64 id] (.dn [.eN (mD ((if gU l=true then jN l id else none).getD Js)), .eD (if gU l=true then jN l id else none).isSome]):=by
 have k:=EI i l b a;have p:=MF i l id a;refine fS func12 ?_;refine cx ?_;cases c:gU l with
 |false=>
  exact fu
 |true=>
  have h:=CY l id;rw [ak rfl];refine cx ?_;refine fF.kc (p c) rfl ?_;cases f:jN l id with
  |none=>
   rw [f] at h;rw [h];exact fu
  |some nd=>
   obtain ⟨_,_,e,d⟩:=tg f;have g:=BR e;rw [d] at g;rw [f,dJ] at h;rw [h];exact fu
structure Hq (l:List eF):Prop where
 B3:l.length<=200
 xc:∀ n∈l,jv n.eM
 Hr:∀ n∈l,n.iU.length<=1000
theorem Hq.M4 {l:List eF} (h:Hq l):l.length<=1048576:=av h.B3 dd
theorem ajs {N:Nat} {l:List eF} (h:∀ n∈l,n.iU.length<=N) (o:e7) (d:o.mI.length<=N):∀ n∈iF l o,n.iU.length<=N:=by
 intro n b;rcases Jq b with a|⟨_,a,_⟩
 .exact h n a
 .rw [a];have c:((jN l o.eO).getD (tj o.eO)).iU.length<=N:=by
   cases f:jN l o.eO with
   |none=>exact ar _
   |some y=>exact h y (tg f).1
  grind [mj]
theorem ajr {es:List oc} {l:List eF} (h:pe es l) (m:∀ e∈es,g4 e.gN=true):∀ n∈l,n.iU.length<=1000:=by
 induction h with
 |AD=>trivial
 |zd h o i=>
  exact ajs (i (λe a=>m e (bO _ a))) o (av (Q6 (m _ (cP _ (aw.2 rfl)))).1 dd)
theorem AF {g:li} (h:l8 g):Hq g.ec.al:=⟨h.ER,ET h,ajr h.qK h.B1⟩
structure tF (m:fX):Prop where
 rQ:l8 m.cy
 Ym:-1000000000<=m.jg/\m.jg<=1000000000
 M3:m.iq.al.length<=1000
 ajq:∀ s∈m.iq.al,Hq s.BN.al
 J3:m.iG.al.length<=1000
 Yn:∀ w∈m.iG.al,w.qe.sy.al.length<=1000
theorem Yo {m:fX} (h:tF m) {k:Int} {s:gp eF} (a:tw m k=some s):Hq s.al:=by
 unfold tw at a;split at a
 .cases a;exact AF h.rQ
 .cases f:m.iq.al.find? λs=>decide (s.lZ=k) with
  |none=>simp_all
  |some x=>rw [f] at a;cases a;exact h.ajq x (bY f)
def aju:Option (gp eF)->b9
 |none=> .dn [.a8 true 1 [] .fW, .ax .i64 191]
 |some s=> .dn [gE 8 mD s, .ax .i64 0]
theorem Yp (m:fX) (c:fG) (k:Int) (u:m.iq.al.length<=1000):fF prog 138 [.c8 10 0, .ax .i64 k] (eJ (rP m c)) 11 (gP 11 (λr es=>r= .gO (aju (tw m k))/\es=rP m c)):=by
 have e:(m.iq.al.map mw).length=m.iq.al.length:=ap _;unfold tw
 by_cases b:k=0
 .subst b;rw [ak rfl];refine fz func138 ?_;refine cx ?_;exact ⟨_,_,⟨rfl,rfl⟩,rfl,⟨rfl,rfl⟩,⟨rfl,rfl,trivial⟩⟩
 .rw [ai b];refine fz func138 ?_
  conv=>whnf
  refine ⟨λq=>absurd (eq_of_beq q) b,λ_=>?_⟩
  conv=>whnf
  refine iE.gY (λj:Nat=>[(.ay 10, .dc 117 (Hn m c [] sG 0 sG sG)),(.ct 1, .bg (.ax .i64 k)),(.ct 20, .bg (gE 2 mw m.iq)),(.ct 21, .bg (.ax .i64 m.iq.al.length)),(.ct 22, .bg (.ax .i64 j))]) 11
   (λj=>j<=m.iq.al.length/\∀ s∈m.iq.al.take j,decide (s.lZ=k)=false) (λj=>m.iq.al.length - j) dd 0 ⟨ar _,λs g=>by cases g⟩ ⟨rfl,rfl,rfl,rfl,rfl,rfl,?_,af⟩ ?_
  .show gC.bg (b9.ax .i64 ((m.iq.al.map mw).length:Nat))=_;rw [e]
  rintro j ⟨t,n⟩;refine gk ?_;refine ab (λh=>?_) λh=>?_
  .have l:j<m.iq.al.length:=om;have i:=pV mw l;have w:IntKind.i64.wrap ((j:Int)+1)=((j+1:Nat):Int):=by grind [fq]
   by_cases a:m.iq.al[j].lZ=k
   .have f:=JS (p:=λs:nH=>decide (s.lZ=k)) l n (aO a);rw [f];generalize m.iq.al[j]=s at*;refine cx ?_;refine ⟨λ_=>?_,λq=>absurd a (by simpa using q)⟩
    conv=>whnf
    exact ⟨_,_,⟨rfl,rfl⟩,rfl,⟨rfl,rfl⟩,⟨rfl,rfl,trivial⟩⟩
   .have o:=QQ (p:=λs:nH=>decide (s.lZ=k)) l n (aJ a);generalize m.iq.al[j]=s at*;refine cx ?_;refine ⟨λq=>absurd (eq_of_beq q) a,λ_=>?_⟩
    conv=>whnf
    refine ⟨j+1,⟨om,o⟩,by grind,rfl,rfl,rfl,rfl,rfl,rfl,rfl,rfl,?_,rfl,ae⟩;exact congrArg (λx=>gC.bg (b9.ax .i64 x)) w
  .have d:j=m.iq.al.length:=om;subst d;rw [aN] at n;rw [JT n]
   conv=>whnf
   exact ⟨_,_,⟨rfl,rfl⟩,rfl,⟨rfl,rfl⟩,⟨rfl,rfl,trivial⟩⟩
theorem ajv (m:fX) (c:fG) (j:tF m) (hp:c.fR.length<=1048576):fF prog 79 [.c8 10 0] (eJ (rP m c)) 11
  (gP 11 (λr es=>r= .gO (.ax .i64 (sC (fO m c)).2)/\es=vf (sC (fO m c)).1)):=by
 have u:=Yp m c c.g7 j.M3;have o:=λs v=>Yo j (k:=c.g7) (s:=s) v
 have h:sC (fO m c)=match tw m c.g7 with
   |none=>(fO m c,191)
   |some l=>if (kj l.al c.fR).2≠0 then (fO m c,(kj l.al c.fR).2) else if iy (kj l.al c.fR).1=true then (fO m c,82) else ({fO m c with kg:={iL 0 with BK:=(JA l.al (kj l.al c.fR).1).qZ}},0):=rfl
 generalize sC (fO m c)=B at*;generalize tw m c.g7=S at*;refine fF.rh 10 ?_;cases S with
 |none=>
  refine fz func79 ?_;refine j5 ?_;have b:B=(fO m c,191):=h;subst b;exact kU
 |some s=>
  have o:=o s rfl;obtain ⟨p,l⟩:=s;have t:=Hm (gp.gg ⟨p,l⟩) l o.xc o.M4 c.fR hp;have g:=Ho o.xc c.fR;have i:=w7 _ g;dsimp only at h;generalize kj l c.fR=A at*;obtain ⟨n,e⟩:=A;dsimp only at*;have w:=Yl (gp.gg ⟨p,l⟩) l n o.xc o.M4
  by_cases f:e=0
  .subst f;rw [ai (show ¬((0:Int)≠0) by decide)] at h;cases d:iy n with
   |true=>
    rw [d] at i;refine fz func79 ?_;refine j5 ?_;have b:B=(fO m c,82):=by simp_all
    subst b;exact kU
   |false=>
    rw [ai (by rw [d];decide)] at h;rw [d] at i;refine fz func79 ?_;refine j5 ?_;subst h;exact kU
  .rw [ak f] at h;refine fz func79 ?_;refine j5 ?_;refine ⟨λ_=>?_,λq=>absurd (by simpa using q) f⟩;have b:B=(fO m c,e):=h;subst b;exact kU
theorem ajt (m:fX) (c:fG) (p:tF m) (hp:c.fR.length<=1048576):fF prog 82 [.c8 10 0] (eJ (rP m c)) 11
  (gP 11 (λr es=>r= .gO (.ax .i64 (sB (fO m c)).2)/\es=vf (sB (fO m c)).1)):=by
 have x:=Yp m c c.g7 p.M3;have h:=λs y=>Yo p (k:=c.g7) (s:=s) y
 have b:sB (fO m c)=match tw m c.g7 with
   |none=>(fO m c,191)
   |some l=>if (kj l.al c.fR).2≠0 then (fO m c,(kj l.al c.fR).2) else if iy (kj l.al c.fR).1=false then (fO m c,81) else ({fO m c with kg:={iL 0 with nS:=⟨true,um l.al (kj l.al c.fR).1⟩}},0):=rfl
 generalize sB (fO m c)=B at*;generalize tw m c.g7=S at*;refine fF.rh 10 ?_;cases S with
 |none=>
  refine fz func82 ?_;refine j5 ?_;have f:B=(fO m c,191):=b;subst f;exact kU
 |some s=>
  have h:=h s rfl;obtain ⟨t,l⟩:=s;have u:=Hm (gp.gg ⟨t,l⟩) l h.xc h.M4 c.fR hp;have o:=Ho h.xc c.fR;have i:=w7 _ o;dsimp only at b;generalize kj l c.fR=A at*;obtain ⟨g,e⟩:=A;dsimp only at*;have v:=ahw (gp.gg ⟨t,l⟩) l g h.xc h.M4 (λn w=>av (h.Hr n w) dd);rw [show decide (um l g=[])=(true && (um l g).isEmpty) by grind] at v
  by_cases j:e=0
  .subst j;rw [ai (show ¬((0:Int)≠0) by decide)] at b;cases d:iy g with
   |false=>
    rw [d] at i;refine fz func82 ?_;refine j5 ?_;have f:B=(fO m c,81):=by simp_all
    subst f;exact kU
   |true=>
    rw [ai (by rw [d];decide)] at b;rw [d] at i;refine fz func82 ?_;refine j5 ?_;subst b;exact kU
  .rw [ak j] at b;refine fz func82 ?_;refine j5 ?_;refine ⟨λ_=>?_,λq=>absurd (by simpa using q) j⟩;have f:B=(fO m c,e):=b;subst f;exact kU
theorem ajw (m:fX) (c:fG):fF prog 87 [.c8 10 0] (eJ (rP m c)) 11 (gP 11 (λr es=>r= .gO (.ax .i64 0)/\es=vf (fO m c))):=by
 refine fF.rh 10 ?_;refine fz func87 ?_;exact kU
end Go.Proofs.YtffboamedcmpaaaGreatDoor
