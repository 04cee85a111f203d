import Derived.WalkSmall
import Derived.Test.YtffboamedcmpaaaGreatDoorRows
import Derived.Lib.Hide
import Derived.Laws.Bits128
import Derived.Deep.QuietTactic
import Derived.BigQuiet
import Derived.IntWalk
import Derived.WalkMore
import Derived.Test.YtffboamedcmpaaaGreatDoorAi
set_option linter.all false
set_option maxHeartbeats 4000000
set_option maxRecDepth 100000
namespace Go.Proofs.YtffboamedcmpaaaGreatDoor
open Gw
open Go.Am
def kL (e:nG):List b9:=[.ax .i64 e.agz, .cp e.agA]
def BW (l:List nG):List (List b9):=l.map kL
theorem ML (l:List nG):(BW l).length=l.length:=by simp [BW]
def uA {α:Type} (f:α->b9) (m:sx α):rD:=m.map λe=>(e.1, .cp e.2.1,f e.2.2)
theorem MM {α:Type} (f:α->b9) (k:List UInt8):∀ m:sx α,uZ (.cp k) (uA f m)=(oL k m).map f
 |[]=>rfl
 |e::m=>by
  show (match qC (.cp e.2.1) (.cp k) with|true=>some _|false=>uZ (.cp k) (uA f m))=_;rw [oL,MM f k m];simp only [qC]
  by_cases h:e.2.1=k
  .rw [aO h,ak h];rfl
  .rw [aJ h,ai h]
theorem QC {α:Type} (f:α->b9) (k:List UInt8) (n:α):∀ m:sx α,ug (.cp k) (f n) (uA f m)=(x5 k n m).map (uA f)
 |[]=>rfl
 |e::m=>by
  show (match qC (.cp e.2.1) (.cp k) with|true=>some _|false=>match ug (.cp k) (f n) (uA f m) with|some l=>some _|none=>none)=_;rw [x5,QC f k n m];simp only [qC]
  by_cases h:e.2.1=k
  .rw [aO h,ak h];rfl
  .rw [aJ h,ai h];cases x5 k n m<;>rfl
theorem JK {α:Type} (f:α->b9) (m:sx α):∀ e∈uA f m,sw .string e.2.1:=λe h=>by
 obtain ⟨x,_,rfl⟩:=aE.1 h;rfl
theorem Xi {α:Type} (f:α->b9) (x:Nat×sx α) (k:List UInt8) (n:α):Eo x.1 (uA f x.2) (.cp k) (f n) ((x5 k n x.2).map (uA f))= .jq (Ap x k n).1 (uA f (Ap x k n).2):=by
 unfold Ap;cases x5 k n x.2 with
 |some m=>rfl
 |none=>
  show Lb.jq (x.1+1) (uA f x.2++[_])=Lb.jq (x.1+1) (uA f (x.2++[_]));unfold uA;rw [aU];rfl
open Go.Proofs.Tryz Tryz
abbrev rO:jG->b9:=λt=> .eN (JI t)
theorem JL (T:TypeId) (r:Nat) (A:List nG) (t:nG):gC.dc T [b9.a8 (decide (A=[]) && false) 2 (BW A++[kL t]) (.hJ r)]=gC.dc T [b9.a8 (decide (A++[t]=[])) 2 (BW (A++[t])) (.hJ r)]:=by
 rw [cf,aJ (by simp)];grind [BW]
theorem JM (T:TypeId) (A:List nG) (t:nG):gC.eU T 2 ((BW A).length+1)=gC.eU T 2 (A++[t]).length:=by
 grind [ML]
abbrev MN (q b:Bool) (A B:List jG) (E:List nG) (S:Nat×sx jG):List (Am.fQ×gC):=
 [(.ct 7, .bg (.a8 q 3 (mv A) .dm)),(.ct 8, .bg (.a8 b 3 (mv B) .dm)),(.ct 9, .bg (.c8 7 0)),(.ct 10, .bg (.c8 10 0)),(.ct 11, .bg (.c8 13 0)),
  (.ay 7, .dc 74 [.a8 (decide (E=[])) 2 (BW E) (.hJ 8)]),(.eT 8, .eU 216 2 E.length),(.ay 10, .dc 142 [.eW 159 [] [.c8 7 0]]),
  (.ay 12, .iD (.jq S.1 (uA rO S.2))),(.ay 13, .dc 280 [.gi 12])]
def w9 (A B:List jG) (k:Nat):List nG:=((A.reverse.take k).filter λt=>!Aq B t).map λt=>⟨1,t.fM⟩
theorem ahz {A B:List jG} {k:Nat} (h:k<A.length):w9 A B (k+1)=if Aq B A[A.length - 1 - k]=true then w9 A B k else w9 A B k++[⟨1,A[A.length - 1 - k].fM⟩]:=by
 unfold w9;rw [aD (by simp_all),eh,aU,List.getElem_reverse];grind
theorem Xk (A B:List jG) (k:Nat):(w9 A B k).length<=A.length:=by
 grind [w9]
def w8 (A B:List jG) (k:Nat):List nG:=((B.take k).filter λt=>!Aq A t).map λt=>⟨2,t.fM⟩
theorem ahx {A B:List jG} {k:Nat} (h:k<B.length):w8 A B (k+1)=if Aq A B[k]=true then w8 A B k else w8 A B k++[⟨2,B[k].fM⟩]:=by
 grind [w8,List.take_succ_eq_append_getElem]
theorem Xj (A B:List jG) (k:Nat):(w8 A B k).length<=B.length:=by
 grind [w8]
def xa (A B:List jG) (k:Nat):List nG:=((B.take k).filter λt=>Jy A t).map λt=>⟨3,t.fM⟩
theorem ahB {A B:List jG} {k:Nat} (h:k<B.length):xa A B (k+1)=if Jy A B[k]=true then xa A B k++[⟨3,B[k].fM⟩] else xa A B k:=by
 grind [xa,List.take_succ_eq_append_getElem]
theorem ahA (A B:List jG) (k:Nat):(xa A B k).length<=B.length:=by
 grind [xa]
theorem ahy (W X:Bool) (a b:List eF) (dir:Int) (ha:∀ n∈a,jv n.eM) (hb:∀ n∈b,jv n.eM) (hal:a.length<=1000) (hbl:b.length<=1000) (has:∀ n∈a,n.iU.length<=1000) (L:∀ n∈b,n.iU.length<=1000):
  er prog 91 [.a8 W 8 (ib a) .dm, .a8 X 8 (ib b) .dm, .ax .i64 dir]
   (.a8 (decide (yS (jo a dir) (jo b dir)=[])) 2 (BW (yS (jo a dir) (jo b dir))) .dm):=by
 have hia:=MK W a dir ha om has;have hib:=MK X b dir hb om L;have hla:=MJ a dir;have hlb:=MJ b dir;generalize jo a dir=A at*;generalize jo b dir=B at*;have Y:A.length<=1000:=om;have Z:B.length<=1000:=om;have w:=EJ A;have t:=EJ B;refine er.Mz (VB.MA jy (fn:=f91) eI rfl eI rfl rfl ?_);refine j6 ?_;refine j6 ?_;refine cx ?_;generalize decide (A=[])=s;generalize decide (B=[])=r;refine j6 ?_;refine iE.Jc 7 216 2 rfl ?_;refine j6 ?_;refine j6 ?_;refine qu.Ja rfl ?_
 conv=>whnf
 refine j6 ?_;refine iE.gY (λk:Nat=>(.ct 36, .bg (.a8 r 3 (mv B) .dm))::(.ct 37, .bg (.ax .i64 B.length))::(.ct 38, .bg (.ax .i64 k))::MN s r A B [] (tu 0 (B.take k))) 14
  (λk=>k<=B.length) (λk=>B.length - k) dd 0 (ar _) ⟨rfl,rfl,?_,af⟩ ?_
 .show gC.bg (b9.ax .i64 (mv B).length)=_;rw [t]
 rintro k F;refine gk ?_;refine ⟨λh=>?_,λh=>?_⟩
 .have h:=ah h;have l:k<B.length:=om;have D:=BV l;have u:tu 0 (B.take (k+1))=Ap (tu 0 (B.take k)) B[k].fM B[k]:=by rw [aD l,WA]
  generalize hS:tu 0 (B.take k)=S at*;generalize K:tu 0 (B.take (k+1))=S' at*;refine cx ?_;generalize B[k]=i at*
  conv=>whnf
  refine qu.pu (kt:=9) (et:=60) (d:= .string) eI eI (.inl rfl) rfl rfl rfl rfl (JK rO _) ((x5 i.fM i S.2).map (uA rO)) (QC rO _ i _) ?_
  conv=>whnf
  refine ⟨k+1,l,by grind,rfl,rfl,rfl,rfl,?_,rfl,rfl,rfl,rfl,rfl,rfl,rfl,rfl,rfl,rfl,rfl,rfl,rfl,rfl,rfl,rfl,rfl,?_,af⟩
  .exact ix
  .rw [K,u];exact congrArg gC.iD (Xi rO S i.fM i)
 have h:=ag h;obtain rfl:k=B.length:=om;rw [aN];have m:=Wz 0 B;generalize tu 0 B=S at*
 conv=>whnf
 refine j6 ?_;refine fz func160 ?_
 conv=>whnf
 refine iE.Jb [(7, .a8 s 3 (mv A) .dm),(8, .a8 r 3 (mv B) .dm),(9, .c8 7 0),(10, .c8 10 0),(11, .c8 13 0)] ⟨rfl,rfl,rfl,rfl,rfl,rfl,rfl,rfl,rfl,rfl,trivial⟩ rfl rfl ?_;refine fz func216 ?_
 conv=>whnf
 have P:IntKind.i64.wrap ((A.length:Int) - 1)=((A.length:Int) - 1 - (0:Nat)):=by grind [fq]
 refine iE.gY (λk:Nat=>[(.ct 0, .bg (.gG 20)),(.ct 1, .bg (.c8 16 0)),(.ct 3, .bg (.ax .i64 ((A.length:Int) - 1 - k))),
  (.ay 7, .dc 74 [.a8 (decide (w9 A B k=[])) 2 (BW (w9 A B k)) (.hJ 8)]),(.eT 8, .eU 216 2 (w9 A B k).length),(.ay 10, .dc 142 [.eW 159 [] [.c8 7 0]]),
  (.ay 12, .iD (.jq S.1 (uA rO S.2))),(.ay 13, .dc 280 [.gi 12]),(.ay 16, .dc 55 [.a8 s 3 (mv A) .dm]),
  (.ay 20, .kn .ready none 144 [(7, .a8 s 3 (mv A) .dm),(8, .a8 r 3 (mv B) .dm),(9, .c8 7 0),(10, .c8 10 0),(11, .c8 13 0)] [49,50] (G2 f91 0).1 (G2 f91 0).2)]) 21
  (λk=>k<=A.length) (λk=>A.length - k) dd 0 (ar _) ⟨rfl,rfl,rfl,rfl,?_,af⟩ ?_
 .show gC.bg (b9.ax .i64 (IntKind.i64.wrap (((mv A).length:Nat) - 1)))=_;rw [w,P]
 rintro k F;refine gk ?_;refine ⟨λh=>?_,λh=>?_⟩
 .have h:=ah h;have l:k<A.length:=om;have N:(((A.length:Int) - 1 - k)).toNat=A.length - 1 - k:=om;have D:(mv A)[A.length - 1 - k]? =_:=BV (show A.length - 1 - k<A.length by omega);have c:=ahz (B:=B) l;have z:=Xk A B k;have Q:IntKind.i64.wrap ((A.length:Int) - 1 - k - 1)=((A.length:Int) - 1 - (k+1:Nat)):=by grind [fq]
  generalize U:w9 A B k=E at*;generalize e:w9 A B (k+1)=T at*;have j:=ML E;unfold Aq at c;have f:=m A[A.length - 1 - k].fM
  conv=>whnf
  refine ⟨_,⟨om,by rw [N];exact D⟩,?_⟩;generalize A[A.length - 1 - k]=i at*
  conv=>whnf
  refine F9.Jd jy m8 rfl rfl rfl (λlp=>?_)
  conv=>whnf
  refine qu.Bw jy (kt:=9) (et:=60) (d:= .string) eI eI rfl rfl eI rfl rfl (.inl rfl) rfl (JK rO _) ((oL i.fM S.2).map rO) (MM rO i.fM S.2) ?_;rw [f];cases g:BJ B i.fM with
  |none=>
   rw [g] at c;simp only [bA,cK] at c;rw [bV];refine cx ?_;refine fz func159 ?_
   conv=>whnf
   refine ⟨⟨j.symm,ji (by grind) dd⟩,?_⟩
   conv=>whnf
   refine ⟨k+1,l,by grind,rfl,rfl,rfl,rfl,?_,rfl,?_,rfl,?_,af⟩
   .show gC.bg (b9.ax .i64 (IntKind.i64.wrap ((A.length:Int) - 1 - k - 1)))=_;rw [Q]
   .rw [e,c];exact JL _ _ E ⟨1,i.fM⟩
   .rw [e,c];exact JM _ E ⟨1,i.fM⟩
  |some x=>
   rw [g] at c;rw [bz];refine cx ?_;refine ⟨λh=>?_,λh=>?_⟩
   .have h:x.iM≠i.iM:=by simpa using h
    simp only [aJ h,bA,cK] at c
    conv=>whnf
    refine fz func159 ?_
    conv=>whnf
    refine ⟨⟨j.symm,ji (by grind) dd⟩,?_⟩
    conv=>whnf
    refine ⟨k+1,l,by grind,rfl,rfl,rfl,rfl,?_,rfl,?_,rfl,?_,af⟩
    .show gC.bg (b9.ax .i64 (IntKind.i64.wrap ((A.length:Int) - 1 - k - 1)))=_;rw [Q]
    .rw [e,c];exact JL _ _ E ⟨1,i.fM⟩
    .rw [e,c];exact JM _ E ⟨1,i.fM⟩
   .have h:x.iM=i.iM:=by simpa using h
    simp only [aO h,du] at c
    conv=>whnf
    refine ⟨k+1,l,by grind,rfl,rfl,rfl,rfl,?_,rfl,?_,rfl,?_,af⟩
    .show gC.bg (b9.ax .i64 (IntKind.i64.wrap ((A.length:Int) - 1 - k - 1)))=_;rw [Q]
    .rw [e,c];rfl
    .rw [e,c];rfl
 have h:=ag h;obtain rfl:k=A.length:=om;have p:w9 A B A.length=Jw A B:=by
  grind [w9,Jw,List.length_reverse]
 rw [p];have y:=Xk A B A.length;rw [p] at y;generalize H:Jw A B=q at*
 conv=>whnf
 refine j6 ?_;refine qu.agP (kt:=9) (et:=60) eI rfl rfl rfl rfl rfl rfl ?_
 conv=>whnf
 refine j6 ?_;clear m;refine iE.gY (λk:Nat=>(.ct 72, .bg (.a8 s 3 (mv A) .dm))::(.ct 73, .bg (.ax .i64 A.length))::(.ct 74, .bg (.ax .i64 k))::MN s r A B q (tu S.1 (A.take k))) 14
  (λk=>k<=A.length) (λk=>A.length - k) dd 0 (ar _) ⟨rfl,rfl,?_,af⟩ ?_
 .show gC.bg (b9.ax .i64 (mv A).length)=_;rw [w]
 rintro k F;refine gk ?_;refine ⟨λh=>?_,λh=>?_⟩
 .have h:=ah h;have l:k<A.length:=om;have D:=BV l;have u:tu S.1 (A.take (k+1))=Ap (tu S.1 (A.take k)) A[k].fM A[k]:=by rw [aD l,WA]
  generalize hR:tu S.1 (A.take k)=R at*;generalize J:tu S.1 (A.take (k+1))=R' at*;refine cx ?_;generalize A[k]=i at*
  conv=>whnf
  refine qu.pu (kt:=9) (et:=60) (d:= .string) eI eI (.inl rfl) rfl rfl rfl rfl (JK rO _) ((x5 i.fM i R.2).map (uA rO)) (QC rO _ i _) ?_
  conv=>whnf
  refine ⟨k+1,l,by grind,rfl,rfl,rfl,rfl,?_,rfl,rfl,rfl,rfl,rfl,rfl,rfl,rfl,rfl,rfl,rfl,rfl,rfl,rfl,rfl,rfl,rfl,?_,af⟩
  .exact ix
  .rw [J,u];exact congrArg gC.iD (Xi rO R i.fM i)
 have h:=ag h;obtain rfl:k=A.length:=om;rw [aN];have m:=Wz S.1 A;generalize tu S.1 A=R at*
 conv=>whnf
 refine j6 ?_;refine iE.gY (λk:Nat=>(.ct 83, .bg (.a8 r 3 (mv B) .dm))::(.ct 84, .bg (.ax .i64 B.length))::(.ct 85, .bg (.ax .i64 k))::MN s r A B (q++w8 A B k) R) 14
  (λk=>k<=B.length) (λk=>B.length - k) dd 0 (ar _) ⟨rfl,rfl,?_,rfl,rfl,rfl,rfl,rfl,rfl,rfl,rfl,rfl,rfl,rfl,rfl,rfl,?_,rfl,?_,af⟩ ?_
 .show gC.bg (b9.ax .i64 (mv B).length)=_;rw [t]
 .rw [show w8 A B 0=[] from rfl,aH];rfl
 .rw [show w8 A B 0=[] from rfl,aH];rfl
 rintro k F;refine gk ?_;refine ⟨λh=>?_,λh=>?_⟩
 .have h:=ah h;have l:k<B.length:=om;have D:=BV l;have c:=ahx (A:=A) l;have z:=Xj A B k;have w1:IntKind.i64.wrap ((k:Int)+1)=((k+1:Nat):Int):=by grind [fq]
  generalize U:w8 A B k=E at*;generalize e:w8 A B (k+1)=T at*;have j:=ML (q++E);have I:(q++E).length<=2000:=by grind
  unfold Aq at c;have f:=m B[k].fM;refine cx ?_;generalize B[k]=i at*
  conv=>whnf
  refine qu.Bw jy (kt:=9) (et:=60) (d:= .string) eI eI rfl rfl eI rfl rfl (.inl rfl) rfl (JK rO _) ((oL i.fM R.2).map rO) (MM rO i.fM R.2) ?_;rw [f];cases g:BJ A i.fM with
  |none=>
   rw [g] at c;simp only [bA,cK] at c;rw [bV];refine cx ?_;refine fz func159 ?_
   conv=>whnf
   refine ⟨⟨j.symm,ji (by grind) dd⟩,?_⟩
   conv=>whnf
   refine ⟨k+1,l,by grind,rfl,rfl,rfl,rfl,?_,rfl,rfl,rfl,rfl,rfl,rfl,rfl,rfl,rfl,rfl,rfl,?_,rfl,?_,af⟩
   .exact ix
   .rw [e,c,<-aA];exact JL _ _ (q++E) ⟨2,i.fM⟩
   .rw [e,c,<-aA];exact JM _ (q++E) ⟨2,i.fM⟩
  |some x=>
   rw [g] at c;rw [bz];refine cx ?_;refine ⟨λh=>?_,λh=>?_⟩
   .have h:x.iM≠i.iM:=by simpa using h
    simp only [aJ h,bA,cK] at c
    conv=>whnf
    refine fz func159 ?_
    conv=>whnf
    refine ⟨⟨j.symm,ji (by grind) dd⟩,?_⟩
    conv=>whnf
    refine ⟨k+1,l,by grind,rfl,rfl,rfl,rfl,?_,rfl,rfl,rfl,rfl,rfl,rfl,rfl,rfl,rfl,rfl,rfl,?_,rfl,?_,af⟩
    .exact ix
    .rw [e,c,<-aA];exact JL _ _ (q++E) ⟨2,i.fM⟩
    .rw [e,c,<-aA];exact JM _ (q++E) ⟨2,i.fM⟩
   .have h:x.iM=i.iM:=by simpa using h
    simp only [aO h,du] at c
    conv=>whnf
    refine ⟨k+1,l,by grind,rfl,rfl,rfl,rfl,?_,rfl,rfl,rfl,rfl,rfl,rfl,rfl,rfl,rfl,rfl,rfl,?_,rfl,?_,af⟩
    .exact ix
    .rw [e,c];rfl
    .rw [e,c];rfl
 have h:=ag h;obtain rfl:k=B.length:=om;have o:w8 A B B.length=GQ A B:=by grind [w8,GQ]
 rw [o];have hcl:(q++GQ A B).length<=2000:=by
  rw [au,<-o];have:=Xj A B B.length;omega
 unfold yS;rw [H];generalize q++GQ A B=v at*
 conv=>whnf
 refine j6 ?_;refine iE.gY (λk:Nat=>(.ct 110, .bg (.a8 r 3 (mv B) .dm))::(.ct 111, .bg (.ax .i64 B.length))::(.ct 112, .bg (.ax .i64 k))::MN s r A B (v++xa A B k) R) 14
  (λk=>k<=B.length) (λk=>B.length - k) dd 0 (ar _) ⟨rfl,rfl,?_,rfl,rfl,rfl,rfl,rfl,rfl,rfl,rfl,rfl,rfl,rfl,rfl,rfl,?_,rfl,?_,af⟩ ?_
 .show gC.bg (b9.ax .i64 (mv B).length)=_;rw [t]
 .rw [show xa A B 0=[] from rfl,aH];rfl
 .rw [show xa A B 0=[] from rfl,aH];rfl
 rintro k F;refine gk ?_;refine ⟨λh=>?_,λh=>?_⟩
 .have h:=ah h;have l:k<B.length:=om;have D:=BV l;have c:=ahB (A:=A) l;have z:=ahA A B k;have w1:IntKind.i64.wrap ((k:Int)+1)=((k+1:Nat):Int):=by grind [fq]
  generalize U:xa A B k=E at*;generalize e:xa A B (k+1)=T at*;have j:=ML (v++E);have I:(v++E).length<=3000:=by grind
  unfold Jy at c;have f:=m B[k].fM;refine cx ?_;generalize B[k]=i at*
  conv=>whnf
  refine qu.Bw jy (kt:=9) (et:=60) (d:= .string) eI eI rfl rfl eI rfl rfl (.inl rfl) rfl (JK rO _) ((oL i.fM R.2).map rO) (MM rO i.fM R.2) ?_;rw [f];cases g:BJ A i.fM with
  |none=>
   rw [g] at c;simp only [bA,cK] at c;rw [bV];refine kw ?_;refine ⟨k+1,l,by grind,rfl,rfl,rfl,rfl,?_,rfl,rfl,rfl,rfl,rfl,rfl,rfl,rfl,rfl,rfl,rfl,?_,rfl,?_,af⟩
   .exact ix
   .rw [e,c];rfl
   .rw [e,c];rfl
  |some x=>
   rw [g] at c;rw [bz];refine cx ?_;refine ⟨λh=>?_,λh=>?_⟩
   .have h:x.iM=i.iM:=by simpa using h
    simp only [aO h,bo] at c
    conv=>whnf
    refine ⟨λh=>?_,λh=>?_⟩
    .have h:x.wW≠i.wW:=by simpa using h
     simp only [aJ h,Bool.not_false,du] at c
     conv=>whnf
     refine fz func159 ?_
     conv=>whnf
     refine ⟨⟨j.symm,ji (by grind) dd⟩,?_⟩
     conv=>whnf
     refine ⟨k+1,l,by grind,rfl,rfl,rfl,rfl,?_,rfl,rfl,rfl,rfl,rfl,rfl,rfl,rfl,rfl,rfl,rfl,?_,rfl,?_,af⟩
     .exact ix
     .rw [e,c,<-aA];exact JL _ _ (v++E) ⟨3,i.fM⟩
     .rw [e,c,<-aA];exact JM _ (v++E) ⟨3,i.fM⟩
    .have h:x.wW=i.wW:=by simpa using h
     simp only [aO h,Bool.not_true,bA,cK] at c
     conv=>whnf
     refine ⟨k+1,l,by grind,rfl,rfl,rfl,rfl,?_,rfl,rfl,rfl,rfl,rfl,rfl,rfl,rfl,rfl,rfl,rfl,?_,rfl,?_,af⟩
     .exact ix
     .rw [e,c];rfl
     .rw [e,c];rfl
   .have h:x.iM≠i.iM:=by simpa using h
    simp only [aJ h,cC,bA,cK] at c;refine kw ?_;refine ⟨k+1,l,by grind,rfl,rfl,rfl,rfl,?_,rfl,rfl,rfl,rfl,rfl,rfl,rfl,rfl,rfl,rfl,rfl,?_,rfl,?_,af⟩
    .exact ix
    .rw [e,c];rfl
    .rw [e,c];rfl
 have h:=ag h;obtain rfl:k=B.length:=om;have O:xa A B B.length=Jx A B:=by grind [xa,Jx]
 rw [O];generalize v++Jx A B=E3 at*
 conv=>whnf
 refine gk ?_;exact ⟨_,mR.fC _,mR.fC _⟩
open Go.RowKit Go.Am
theorem ahH (s:ByteArray) (c:Int) (w:World):Calls prog 303 #[.string s, .int .u8 c] w λe w'=>e= .returned (.int .i64 (Lib.indexByte s.data.toList c.toNat.toUInt8))/\w'=w:=by
 go_enter func303,ntmps303
 go_wp2
 rw [run_callFunc_extern func311 eI eI eI (e:=Extern.BytealgIndexByte.indexByte) eI];rw [Lib.run_indexByteString];simp only [Result.andThen];rw [Oper.upon_value]
 go_wp2
 go_ret
 trivial
theorem ahC (s:ByteArray) (w:World):Calls prog 241 #[.string s, .string ⟨#[47]⟩] w λe w'=>e= .returned (.int .i64 (s.data.toList.count 47:Nat))/\w'=w:=by
 go_enter func241,ntmps241
 go_wp2
 rw [run_callFunc_extern func279 eI eI eI (e:=Extern.BytealgCount.count) eI];rw [Lib.run_countString];simp only [Result.andThen];rw [Oper.upon_value]
 go_wp2
 go_ret
 trivial
theorem ahI (s:List UInt8):er prog 303 [.cp s, .ax .u8 47] (.ax .i64 (Lib.indexByte s 47)):=
 .D8 (pL (fn:=f303) eI rfl eI) rfl (λw _=>(ahH ⟨s.toArray⟩ 47 w).mono λ_ _ ⟨a,h⟩=>⟨a,h▸Below.refl _ _,h▸aq _⟩) (λ_ _=> .kS _ _)
theorem ahD (s:List UInt8):er prog 241 [.cp s, .cp [47]] (.ax .i64 (s.count 47:Nat)):=
 .D8 (pL (fn:=f241) eI rfl eI) rfl (λw _=>(ahC ⟨s.toArray⟩ w).mono λ_ _ ⟨a,h⟩=>⟨a,h▸Below.refl _ _,h▸aq _⟩) (λ_ _=> .kS _ _)
theorem ahG (s:List UInt8):er prog 280 [.cp s, .cp [47]] (.ax .i64 (Lib.indexByte s 47)):=by
 refine fS func280 ?_;refine cx ?_;refine ⟨λh=>?_,λ_=>?_⟩
 .conv=>whnf
  obtain rfl:[47]=s:=ah h;rfl
 refine cx ?_;refine ⟨47,⟨om,rfl⟩,?_⟩
 conv=>whnf
 refine fF.kc (ahI s) rfl ?_
 conv=>whnf
theorem ahJ (s:List UInt8):er prog 242 [.cp s, .cp [47]] (.ax .i64 (Lib.indexByte s 47)):=by
 refine fS func242 ?_
 conv=>whnf
 refine fF.kc (ahG s) rfl ?_
 conv=>whnf
def k8 (l:List (List UInt8)):List (List b9):=l.map λt=>[.cp t]
def uB (l:List (List UInt8)) (n:Nat):List b9:=l.map b9.cp++List.replicate n (b9.cp [])
theorem ahK (n:Nat):jM n [b9.cp []]=uB [] n:=by
 unfold jM uB;simp_all
theorem QD (l:List (List UInt8)) (n:Nat):(uB l n).length=l.length+n:=by simp [uB]
theorem Xl {l:List (List UInt8)} {i k:Nat} (x:List UInt8) (h:l.length=i) (a:0<k):(uB l k).take (0+i*1)++[b9.cp x]++(uB l k).drop (0+i*1+1)=uB (l++[x]) (k - 1):=by
 obtain ⟨k,rfl⟩:∃ j,k=j+1:=⟨k - 1,om⟩;subst h;have e:(l.map b9.cp).length=0+l.length*1:=by simp
 grind [uB,List.drop_of_length_le]
theorem ahF (s:List UInt8) (z:s.length<=1048576):er prog 206 [.cp s, .cp [47], .ax .i64 0, .ax .i64 (-1)] (.a8 false 1 (k8 (mi s)) .dm):=by
 refine fS func206 ?_;have w:=ahD s;have c:=List.count_le_length (a:=47) (l:=s);generalize v:s.count 47=N at w c;refine cx ?_;have A:IntKind.i64.wrap ((N:Int)+1)=(N:Int)+1:=fq om om;have B:IntKind.i64.wrap ((s.length:Int)+1)=(s.length:Int)+1:=fq om om;have n:min (IntKind.i64.wrap ((N:Int)+1)) (IntKind.i64.wrap ((s.length:Int)+1))=((N+1:Nat):Int):=by rw [A,B];omega
 refine ⟨⟨by grind,rfl,ji (by grind) dd⟩,?_⟩
 conv=>whnf
 refine iE.gY (X:=Nat×List (List UInt8)×List UInt8) (λx=>[(.ct 0, .bg (.cp x.2.2)),(.ct 1, .bg (.cp [47])),(.ct 2, .bg (.ax .i64 0)),(.ct 3, .bg (.ax .i64 (N:Nat))),(.ct 9, .bg (.eP 18 0 1 (N+1) true)),(.ct 10, .bg (.ax .i64 x.1)),
  (.ay 18, .eY 9 (uB x.2.1 (N+1 - x.1)))]) 19
  (λx=>x.1<=N/\x.2.1.length=x.1/\x.2.2.length<=1048576/\x.2.2.count 47=N - x.1/\mi s=x.2.1++mi x.2.2) (λx=>N - x.1) dd (0,[],s) ⟨ar _,rfl,z,v,rfl⟩
  ⟨rfl,rfl,rfl,rfl,rfl,rfl,?_,rfl,?_,rfl,rfl,rfl,?_,rfl,ae⟩ ?_
 .show gC.bg (b9.ax .i64 (IntKind.i64.wrap (min (IntKind.i64.wrap ((N:Int)+1)) (IntKind.i64.wrap ((s.length:Int)+1)) - 1)))=_;grind [fq]
 .show gC.bg (b9.eP 18 0 1 (min (IntKind.i64.wrap ((N:Int)+1)) (IntKind.i64.wrap ((s.length:Int)+1))).toNat true)=_;rw [n];rfl
 .show gC.eY _ (jM (min (IntKind.i64.wrap ((N:Int)+1)) (IntKind.i64.wrap ((s.length:Int)+1))).toNat [b9.cp []])=_;grind [ahK]
 rintro ⟨i,done,r⟩ ⟨o,p,q,u,d⟩;simp only at o p q u d;have y:=ahJ r;refine gk ?_;refine ab (λh=>?_) λh=>?_
 .obtain ⟨m,j⟩:=af0 (s:=r) om;obtain ⟨H,I,J⟩:=VW j;rw [j] at y;refine j5 ?_;have D:IntKind.i64.wrap ((m:Int)+0)=(m:Int):=fq om om;have E:IntKind.i64.wrap ((m:Int)+([47]:List UInt8).length)=((m+1:Nat):Int):=fq (by simp;omega) (by simp;omega)
  conv=>whnf
  rw [D];refine ⟨by grind,?_⟩;refine gI ?_;refine ⟨by grind [QD],?_⟩
  conv=>whnf
  rw [E];refine ⟨by grind,?_⟩
  conv=>whnf
  refine ⟨(i+1,done++[r.take m],r.drop (m+1)),⟨om,by simp_all,by grind,by grind,by simp_all⟩,by grind,rfl,rfl,rfl,rfl,rfl,rfl,rfl,rfl,rfl,rfl,?_,rfl,?_,rfl,ae⟩
  .show gC.bg (b9.ax .i64 (IntKind.i64.wrap ((i:Int)+1)))=gC.bg (b9.ax .i64 ((i+1:Nat):Int));grind [fq]
  .show gC.eY _ ((uB done (N+1 - i)).take (0+(i:Int).toNat*1)++[b9.cp (r.take (m:Int).toNat)]++(uB done (N+1 - i)).drop (0+(i:Int).toNat*1+1))=gC.eY _ (uB (done++[r.take m]) (N+1 - (i+1)));grind [Xl]
 .obtain rfl:i=N:=om;have b:=afZ (s:=r) om;rw [d,b];refine gI ?_;refine ⟨by grind [QD],?_⟩
  conv=>whnf
  have K:IntKind.i64.wrap ((i:Int)+1)=((i+1:Nat):Int):=fq om om;refine ⟨by grind,?_⟩
  conv=>whnf
  have f:(k8 (done++[r])).flatten=(done++[r]).map b9.cp:=by
   unfold k8;generalize done++[r]=l
   induction l with
   |nil=>rfl
   |cons a l k=>simp_all
  have g:(done++[r]).length=i+1:=by simp_all
  refine .CJ (t:=9) (cells:=uB (done++[r]) 0) ?_ ?_ ?_ ?_ ?_ ?_
  .show gC.eY _ ((uB done (i+1 - i)).take (0+(i:Int).toNat*1)++[b9.cp r]++(uB done (i+1 - i)).drop (0+(i:Int).toNat*1+1))=gC.eY _ _;grind [Xl]
  .grind [k8]
  .intro F e;obtain ⟨t,_,rfl⟩:=aE.1 e;rfl
  .grind [QD]
  .grind [uB,List.take_of_length_le]
  .rw [f];generalize done++[r]=l
   induction l with
   |nil=>rfl
   |cons a l k=>exact k
theorem ahL (s:List UInt8) (h:s.length<=1048576):er prog 130 [.cp s, .cp [47]] (.a8 false 1 (k8 (mi s)) .dm):=by
 refine fS func130 ?_
 conv=>whnf
 refine fF.kc (ahF s h) rfl ?_
 conv=>whnf
theorem ahE (s:List UInt8):er prog 129 [.cp s, .cp [47]] (.dn [.cp (if tc [47] s=true then s.drop 1 else s), .eD (tc [47] s)]):=by
 have h:=WQ s [47];have a:er prog 205 [.cp s, .cp [47]] (.dn [.cp (if tc [47] s=true then s.drop 1 else s), .eD (tc [47] s)]):=by
  refine fS func205 ?_;cases p:tc [47] s with
  |false=>
   rw [p] at h;exact fu
  |true=>
   rw [p] at h;have l:1<=s.length:=by grind [tc]
   refine cx ?_;refine ⟨by trivial,?_⟩;exact fu
 refine fS func129 ?_;exact jf
theorem ahM {l:List (List UInt8)} {k:Nat} (h:k<l.length):(k8 l)[k]? =some [.cp l[k]]:=by grind [k8]
theorem Ay (l:List (List UInt8)):(k8 l).length=l.length:=by simp [k8]
theorem ahN (n:Bool) (l:List (List UInt8)) (d:∀ t∈l,t.length<=1048576):er prog 131 [.a8 n 1 (k8 l) .dm] (.eD (CS l)):=by
 have c:=Ay l;refine fS func131 ?_;unfold CS
 conv=>whnf
 refine ⟨λh=>?_,λh=>?_⟩
 .have h:=ah h;rw [aJ (by omega:¬l.length<=16),cC]
  conv=>whnf
 have h:=ag h;rw [aO (by omega:l.length<=16),bo]
 conv=>whnf
 refine iE.gY (λk:Nat=>[(.ct 8, .bg (.a8 n 1 (k8 l) .dm)),(.ct 9, .bg (.ax .i64 (l.length:Nat))),(.ct 10, .bg (.ax .i64 k))])
  0 (λk=>k<=l.length/\(l.take k).all ta=true) (λk=>l.length - k) dd 0 ⟨ar _,rfl⟩ ⟨rfl,rfl,?_,af⟩ ?_
 .show gC.bg (b9.ax .i64 ((k8 l).length:Nat))=_;rw [c]
 rintro k ⟨g,a⟩;refine gk ?_;refine ab (λh=>?_) λh=>?_
 .have b:k<l.length:=om;have f:=WR l[k] (d _ (aI b))
  conv=>whnf
  refine ⟨_,⟨om,ahM b⟩,?_⟩;refine cx ?_;cases q:ta l[k] with
  |false=>
   have e:l.all ta=false:=by
    grind
   rw [e];exact jf
  |true=>
   conv=>whnf
   refine ⟨λh=>absurd h dd,λ_=>?_⟩
   conv=>whnf
   refine ⟨k+1,⟨om,by grind [List.take_succ_eq_append_getElem]⟩,by grind,rfl,rfl,rfl,rfl,?_,rfl,ae⟩;show gC.bg (b9.ax .i64 (IntKind.i64.wrap ((k:Int)+1)))=gC.bg (b9.ax .i64 ((k+1:Nat):Int));grind [fq]
 .obtain rfl:k=l.length:=om;rw [aN] at a;rw [a]
  conv=>whnf
theorem ahP (s:List UInt8):∀ t∈mi s,t.length<=s.length:=by
 induction s with
 |nil=>trivial
 |cons b l i=>
  grind [mi]
def QE (o:Option (List (List UInt8))):b9:=match o with
 |none=> .dn [.a8 true 1 [] .dm, .ax .i64 10]
 |some []=> .dn [.a8 true 1 [] .dm, .ax .i64 0]
 |some (x::l)=> .dn [.a8 false 1 (k8 (x::l)) .dm, .ax .i64 0]
theorem G5 (p:List UInt8) (hp:p.length<=1048576):er prog 76 [.cp p] (QE (kV p)):=by
 have c:=ahE p
 by_cases h:p=[47]
 .have e:kV p=some []:=by grind [kV]
  rw [e];refine fS func76 ?_
  conv=>whnf
  refine ⟨λ_=>?_,λk=>absurd h (ag k)⟩;exact fu
 have first:∀ b,tc [47] p=b->(b=false->kV p=none)->(b=true->∃ r,p=47::r)->er prog 76 [.cp p] (QE (kV p)):=by
  intro b d i j;rw [d] at c;cases b with
  |false=>
   rw [i rfl];refine fS func76 ?_
   conv=>whnf
   refine kD h ?_;exact fu
  |true=>
   obtain ⟨r,rfl⟩:=j rfl;have a:r.length<=1048576:=by grind
   have c:er prog 129 [.cp (47::r), .cp [47]] (.dn [.cp r, .eD true]):=c;have s:=ahL r a;have f:=ahN false (mi r) (λt m=>av (ahP r t m) a);have n:=af1 r;have e:kV (47::r)=if CS (mi r)=true then some (mi r) else none:=by
    grind [kV]
   rw [e];generalize mi r=l at s f n ⊢;cases g:CS l with
   |false=>
    rw [g] at f;rw [ai dd];refine fS func76 ?_
    conv=>whnf
    refine kD h ?_;exact fu
   |true=>
    rw [g] at f;rw [ak rfl];refine fS func76 ?_
    conv=>whnf
    refine kD h ?_;refine cx ?_;cases l with
    |nil=>trivial
    |cons x l=>rfl
 cases p with
 |nil=>exact first false rfl (λ_=>rfl) (λh=>by cases h)
 |cons b r=>
  by_cases d:b=47
  .exact first true (by grind [tc]) (λh=>by cases h) (λ_=>⟨r,by rw [d]⟩)
  .refine first false (by simp [tc,d]) (λ_=>?_) (λh=>by cases h)
   grind [kV]
theorem ahO (s:Option (List (List UInt8))):QE s= .dn [.a8 (decide (s.getD []=[])) 1 (k8 (s.getD [])) .dm, .ax .i64 (if s.isSome=true then 0 else 10)]:=by
 match s with
 |none=>rfl
 |some []=>rfl
 |some (x::l)=>rfl
theorem y7 {p:List UInt8}:((kV p).getD []).length<=16:=by
 unfold kV;grind [CS]
structure nP (B:Nat) (w w':World):Prop extends Go.RowKit.Below B w w' where
 Da:w.drawn<=w'.drawn
theorem nP.vP (B w):nP B w w:=⟨Go.RowKit.Below.refl B w,aq _⟩
theorem nP.MQ {B a b c} (h:nP B a b) (k:nP B b c):nP B a c:=⟨h.toBelow.trans k.toBelow,av h.Da k.Da⟩
theorem nP.MP {B a w w'} (h:nP B w w') (b:a<=B):nP a w w':=⟨h.toBelow.mono b,h.Da⟩
theorem nP.MO {B a w} (h:nP B a w):nP B a w.drew:=⟨h.toBelow.drew,av h.Da (aZ _)⟩
theorem nP.Az {B a w} (h:nP B a w) (b:B<=w.heap.size) (o):nP B a (w.alloc o):=⟨h.toBelow.alloc b o,h.Da⟩
theorem Xo {B a w} (h:nP B a w) (n):nP B a (w.drewN n):=⟨⟨h.os,h.tape,h.output,h.size,h.block⟩,av h.Da (Nat.le_add_right _ _)⟩
structure JN (w w':World) (row:Option Nat):Prop extends World.grownBy w w' row where
 Xn:w.drawn<=w'.drawn
theorem nP.Xm {B a w w' row} (h:nP B a w) (g:JN w w' row) (b:B<=w.heap.size) (r:∀ k,row=some k->B<=k):nP B a w':=⟨h.toBelow.grown g.togrownBy b r,av h.Da g.Xn⟩
theorem nP.G6 {B a w} (h:nP B a w):Go.RowKit.Below B a w/\a.drawn<=w.drawn:=⟨h.toBelow,h.Da⟩
open Go.RowKit
def uC (w:World) (base size:Nat) (v:Value) (n:Nat) (xs:List Value):Prop:=
 xs.length=n*size/\
 ((v= .slice none 0 0/\n=0)\/
  ∃ b o c,v= .slice (some ⟨b,o,none⟩) n c/\base<=b/\b<w.heap.size/\n<=c/\c<=maxLen/\
  (∀ j,j<c*size->(w.cell? ⟨b,o+j,none⟩).isSome=true/\w.frozen? ⟨b,o+j,none⟩=false)/\
  (∀ j u,xs[j]? =some u->w.cell? ⟨b,o+j,none⟩=some u))
theorem Xq (b off j):(⟨b,off,none⟩:Addr).add j=⟨b,off+j,none⟩:=by grind [Addr.add]
theorem uC.ahR {w w' base size n v xs} (h:uC w base size v n xs) (s:w.heap.size<=w'.heap.size)
  (d:∀ k,v.ownBlock=some k->w'.heap[k]? =w.heap[k]?):uC w' base size v n xs:=by
 refine ⟨h.1,?_⟩;rcases h.2 with a|⟨b,o,c,rfl,e,f,g,i,j,l⟩
 .exact .inl a
 .have m:=d b rfl;grind [World.cell?_of_block,World.frozen?_of_block]
theorem uC.QF {w base size n v xs} (h:uC w base size v n xs):∀ k,v.ownBlock=some k->base<=k/\k<w.heap.size:=by
 intro k a;rcases h.2 with ⟨rfl,_⟩|⟨b,o,c,rfl,d,e,_⟩
 .cases a
 .cases a;exact ⟨d,e⟩
theorem uC.ahQ {w w' base size n B v xs} (h:uC w base size v n xs) (b:nP B w w') (a:w.heap.size<=B):uC w' base size v n xs:=
 h.ahR b.size (λk c=>b.block k (aX (h.QF k c).2 a))
theorem uC.Xp {w base size n v xs} (h:uC w base size v n xs) (o):uC (w.alloc o) base size v n xs:=
 h.ahQ ((nP.vP _ _).Az (aq _) o) (aq _)
theorem Xt (b:Nat):∀ (vs:List Value) (o:Nat) (w:World) (k:Nat),k≠b->(w.setCells b o vs).heap[k]? =w.heap[k]?
 |[],_,_,_,_=>rfl
 |v::r,o,w,k,hk=>by
  rw [World.setCells,Xt b r (o+1) _ k hk];grind [Below.heap_setCell]
theorem QH (b:Nat):∀ (vs:List Value) (o:Nat) (w:World),(w.setCells b o vs).heap.size=w.heap.size
 |[],_,_=>rfl
 |v::r,o,w=>by rw [World.setCells,QH b r (o+1)];simp_all
theorem Xu (b:Nat):∀ (vs:List Value) (o:Nat) (w:World),JN w (w.setCells b o vs) (some b)
 |[],_,w=>⟨⟨rfl,rfl,rfl,aq _,λ_ _ _=>rfl⟩,aq _⟩
 |v::r,o,w=>by
  have h:=Xu b r (o+1) (w.setCell ⟨b,o,none⟩ v);rw [World.setCells];exact ⟨⟨h.os,h.tape,h.output,by rw [QH];simp_all,λk _ n=>by
   grind [Xt,Below.heap_setCell]⟩,h.Xn⟩
theorem ahT (b:Nat) (vs:List Value) (o:Nat) (w:World) (x:Addr) (h:(w.cell? x).isSome=true):((w.setCells b o vs).cell? x).isSome=true:=by
 induction vs generalizing o w with
 |nil=>exact h
 |cons v r i=>
  rw [World.setCells];refine i (o+1) _ ?_;obtain ⟨u,c⟩:=bN.1 h;obtain ⟨d,a⟩:=cell?_setCell_some (p:=⟨b,o,none⟩) (x:=v) c;rw [a];rfl
section
variable {P:Program}
theorem ahS (w:World) (base:Nat) (t tx ty e:TypeId) (i:TypeInfo) (z:Value) (size bytes:Nat) (T:P.underlying t=some (.slice e)) (N:P.info? e=some i) (Z:i.zero=some z)
  (B:i.size=size) (L:i.bytes=bytes) (W:z.cells.size=size)
  (v:Value) (n:Nat) (xs:List Value) (d:uC w base size v n xs) (x:Value) (m:Nat) (s:List Value) (E:Src P size tx x m s w)
  (h63:n+m<=maxLen) (y:(n+m)*bytes<=140737488355328) (q:base<=w.heap.size) (R:v= .slice none 0 0->0<m):
  ∃ X w',(Builtin.append_ #[t,tx] ty #[v,x]).run P w= .ok X w'/\uC w' base size X (n+m) (xs++s)/\JN w w' v.ownBlock/\(∃ a c,X= .slice (some a) (n+m) c):=by
 subst B;subst L;have l:(xs++s).length=(n+m)*i.size:=by rw [au,d.1,E.newsLen,cl]
 have g:((n+m:Nat):Int)<=9223372036854775807:=by grind [maxLen]
 have I:∀ (C:Nat),n+m<=C->C<=maxLen->uC (w.drew.alloc (.cells ((xs++s).toArray++Builtin.zeroCells z.cells (C - (n+m))) e)) base i.size (.slice (some ⟨w.heap.size,0,none⟩) (n+m) C) (n+m) (xs++s):=by
  intro C hC K;have hcs:((xs++s).toArray++Builtin.zeroCells z.cells (C - (n+m))).size=C*i.size:=by
   rw [Array.size_append,size_zeroCells,W,List.size_toArray,l,<-cl];congr 1;omega
  refine ⟨l, .inr ⟨w.heap.size,0,C,rfl,q,by simp_all,hC,K,λj F=>?_,λj u H=>?_⟩⟩
  .have h1:=World.cell?_alloc_mark w.drew ((xs++s).toArray++Builtin.zeroCells z.cells (C - (n+m))) e (0,0) (0+j);have h2:=World.frozen?_alloc_mark w.drew ((xs++s).toArray++Builtin.zeroCells z.cells (C - (n+m))) e 0 0 (0+j);simp_all
  .have h1:=World.cell?_alloc_mark w.drew ((xs++s).toArray++Builtin.zeroCells z.cells (C - (n+m))) e (0,0) (0+j);have e1:(w.drew).heap.size=w.heap.size:=rfl;grind
 have hgr:∀ o D,JN w (w.drew.alloc o) D:=λo D=>
  have h:=World.grownBy_alloc w.drew o D
  ⟨⟨h.os,h.tape,h.output,h.size,h.block⟩,aZ _⟩
 rcases d.2 with ⟨rfl,rfl⟩|⟨b,f,p,rfl,h3,h4,h5,h6,J,h8⟩
 .have U:xs=[]:=by have:=d.1;simpa using this
  subst U;have hm:=R rfl;have S:=run_append_grow_src (P:=P) w t tx ty e i z T N Z none 0 0 [] (by trivial) x m s E om g (growslice_fits om y);grind [grownCap_ge,grownCap_le_maxLen]
 .by_cases r:n+m<=p
  .have Q:s.length=m*i.size:=E.newsLen;have Y:n*i.size+s.length<=p*i.size:=by rw [Q,<-cl];exact bI _ r
   have S:=run_append_room_src (P:=P) w t tx ty e i T N b f n p x m s E r
    (λj F=>by rw [Nat.add_assoc];exact (J (n*i.size+j) om).1) (λj F=>by rw [Nat.add_assoc];exact (J (n*i.size+j) om).2)
   refine ⟨_,_,S,⟨l, .inr ⟨b,f,p,rfl,h3,by rw [QH];exact h4,r,h6,λj F=>?_,λj u H=>?_⟩⟩,Xu b _ _ _,_,_,rfl⟩
   .grind [World.frozen?_setCells,ahT]
   .by_cases F:j<xs.length
    .rw [World.cell?_setCells_out b _ _ _ _ (λ_ _=>Or.inl (by grind))];grind
    .rw [aW om] at H;have O:j - xs.length<s.length:=(aB.1 H).1;have h9:=World.cell?_setCells_in b s (f+n*i.size) w (λk hk=>by rw [Nat.add_assoc];exact (J (n*i.size+k) om).1) (j - xs.length) O;grind
  .have A:∀ j u,xs[j]? =some u->w.drew.cell? ((⟨b,f,none⟩:Addr).add j)=some u:=λj u H=>by
    rw [Xq];simp_all
   have S:=run_append_grow_src (P:=P) w t tx ty e i z T N Z (some ⟨b,f,none⟩) n p xs (run_firstCells_some w.drew i.size n ⟨b,f,none⟩ n p xs d.1 A) x m s E om g (growslice_fits om y);grind [grownCap_ge,grownCap_le_maxLen]
theorem Xx {w ops r} {o:Oper} {a Q} (q:o.guard=none) (s x t tx)
  (L:o.op= .call {callee:= .builtin .append,args:=#[s,x],argTypes:=#[t,tx]})
  (base e i z size bytes) (R:P.underlying t=some (.slice e)) (J:P.info? e=some i) (S:i.zero=some z)
  (f:i.size=size) (l:i.bytes=bytes) (B:z.cells.size=size)
  (v n xs) (p:a.eval s=v) (g:uC w base size v n xs) (D m b) (A:a.eval x=D) (O:Src P size tx D m b w)
  (k:n+m<=maxLen) (y:(n+m)*bytes<=140737488355328) (d:base<=w.heap.size) (u:v= .slice none 0 0->0<m)
  (h:∀ j w',uC w' base size j (n+m) (xs++b)->JN w w' v.ownBlock->(∃ a c,j= .slice (some a) (n+m) c)->wpList P ops Q r (a.put o.dst j) w'):wpList P ops Q (o::r) a w:=by
 refine wpList_plain q λK I=>?_
 obtain ⟨j,w',N,E,F,H⟩:=ahS (P:=P) w base t tx o.type e i z size bytes R J S f l B v n xs g D m b O k y d u;unfold Oper.wp execOp;simp only [L,resolve,invoke,builtin,Sem.run_bind,Sem.run_pure,Result.andThen_ok,List.map_toArray,bp,cJ,p,A,N];exact I _ _ (h j w' E F H)
end
def ya (l:List UInt8):List Value:=l.map λc=>Value.int .u8 (c.toNat:Int)
theorem QG (l):(ya l).length=l.length:=by simp [ya]
theorem Xs (a b):ya (a++b)=ya a++ya b:=by simp [ya]
theorem Xr {P} (w src dst e s) (n:P.underlying src=some .string) (i:P.underlying dst=some (.slice e)) (k:P.underlying e=some (.int .u8)) (h:s.size<=maxLen) (base) (f:base<=w.heap.size):
  ∃ W v,(convert src dst (.string s)).run P w= .ok v W/\nP w.heap.size w W/\uC W base 1 v s.size (ya s.data.toList)/\(∃ c,v= .slice (some ⟨w.heap.size,0,none⟩) s.size c):=by
 have g:=grownCap_ge w s.size 0 e;have m:=grownCap_le_maxLen w s.size 0 e h;have z:s.data.size=s.size:=rfl;have o:(bytesRow s (grownCap w s.size 0 e)).size=grownCap w s.size 0 e:=by
  grind [bytesRow]
 refine ⟨_,_,run_bytes_of_string w src dst e s n i k,((nP.vP _ _).MO).Az (aq _) _,⟨by grind [QG], .inr ⟨w.heap.size,0,_,rfl,f,?_,g,m,λj b=>?_,λj u q=>?_⟩⟩,_,rfl⟩
 .simp_all
 .have d:(w.drew).heap.size=w.heap.size:=rfl;have a:=World.cell?_alloc_mark w.drew (bytesRow s (grownCap w s.size 0 e)) e ((bytesRow s (grownCap w s.size 0 e)).size,(bytesRow s (grownCap w s.size 0 e)).size+1) (0+j);have p:=World.frozen?_alloc_mark w.drew (bytesRow s (grownCap w s.size 0 e)) e (bytesRow s (grownCap w s.size 0 e)).size ((bytesRow s (grownCap w s.size 0 e)).size+1) (0+j);grind
 .have d:(w.drew).heap.size=w.heap.size:=rfl;have a:=World.cell?_alloc_mark w.drew (bytesRow s (grownCap w s.size 0 e)) e ((bytesRow s (grownCap w s.size 0 e)).size,(bytesRow s (grownCap w s.size 0 e)).size+1) (0+j);rw [d] at a;rw [a,bZ];have b:j<s.size:=by
   grind [QG]
  rw [bytesRow_at s _ j b];grind [ya]
theorem Xw {P} (w src dst e base v n l) (s:P.underlying src=some (.slice e)) (f:P.underlying e=some (.int .u8)) (d:P.underlying dst=some .string) (h:uC w base 1 v n (ya l)):
  (convert src dst v).run P w= .ok (.string ⟨l.toArray⟩) w:=by
 have g:n=l.length:=by have:=h.1;grind [QG]
 subst g;rcases h.2 with ⟨rfl,a⟩|⟨b,o,c,rfl,i,j,k,m,p,q⟩
 .have:l=[]:=aR a;subst this;exact run_convert_bytes_nil w src e s f 0 0 dst d
 grind [run_convert_bytes_back,Xq,ya]
theorem Xv {P w tx e} (k:P.underlying tx=some (.slice e)) (b c u) (h:u.oneCell'=true) (a:w.cell? ⟨b,0,none⟩=some u):Src P 1 tx (.slice (some ⟨b,0,none⟩) 1 c) 1 [u] w:=by
 grind [Src.ofSlice,Addr.add]
theorem ahV {P:Program} (w:World) (src e dst t:TypeId) (s:P.underlying src=some (.slice e)) (a:P.underlying e=some (.int .u8)) (h:P.underlying dst=some .string) (n:List Int) (c:Nat):
  (convert src dst (.slice (some ⟨w.heap.size,0,none⟩) n.length c)).run P (w.alloc (.cells (n.map (Value.int .u8)).toArray t))= .ok (.string (strOfNums n)) (w.alloc (.cells (n.map (Value.int .u8)).toArray t)):=by
 refine run_convert_bytes_arg _ src e s a w.heap.size 0 n.length c n rfl ?_ dst h;intro i b;simp [bH,aj b]
theorem ahU {a b:ByteArray}:(a.toList==b.toList)=true↔a.data.toList=b.data.toList:=by
 rw [Lib.toList_data,Lib.toList_data,dC]
theorem QI {w:World} {c:Array Value} {t:TypeId} {n i:Nat} {v:Value} (h:n=w.heap.size) (a:c[i]? =some v):(w.alloc (.cells c t)).cell? ⟨n,i,none⟩=some v:=by
 subst h;simpa using a
theorem QJ (n):UInt8.ofNat (n % 256)=UInt8.ofNat n:=by
 apply jY.1;simp [UInt8.toNat_ofNat']
theorem Xy (a b:Nat) (h:a<9223372036854775808) (c:b<9223372036854775808):bits .or .i64 (a:Int) (b:Int)=((a|||b:Nat):Int):=by
 have x:a|||b<2^63:=Nat.or_lt_two_pow om om
 show IntKind.i64.wrap ((BitVec.ofInt 64 (a:Int)|||BitVec.ofInt 64 (b:Int)).toNat:Int)=_;grind [IntWalk.i64_in]
theorem Xz (n c:Nat) (a:n<=72057594037927935) (h:c<128):bits .or .i64 ((n:Int)*128) (c:Int)=((n*128+c:Nat):Int):=by
 rw [show (n:Int)*128=((n*128:Nat):Int) from om,Xy _ _ om om];congr 1;have:=Nat.two_pow_add_eq_or_of_lt (i:=7) (b:=c) om n;grind
theorem ahX (d:Nat) (h:d<128):bits .or .i64 (d:Int) 128=((d+128:Nat):Int):=by
 rw [show (128:Int)=((128:Nat):Int) from rfl,Xy _ _ om om];congr 1;have:=Nat.two_pow_add_eq_or_of_lt (i:=7) (b:=d) om 1;grind
theorem ahZ (n:Nat) (hn:n<9223372036854775808) (w:World):
  Calls prog 162 #[.int .i64 (n:Int)] w λe w'=>e= .returned (.int .i64 (o9 n))/\w=w':=by
 have hd:decide ((n:Int)<0)=false:=aJ om;have hs:o9 n=px 9 n:=rfl;have HS:=Lib.hid hs;clear hs;have hb:n<128^9:=om;have HB:=Lib.hid hb;clear hb
 go_enter func162,ntmps162
 go_wp2_with fail
 go_loop [0,3] (λx s=>∃ m f k:Nat,x= .int .i64 m/\s= .int .i64 k/\m<9223372036854775808/\k+f=10/\1<=k/\m<128^f/\px 9 n=px f m+k - 1) (λx _=>(intOf x).toNat)
 case atStart=>exact ⟨n,9,1,rfl,rfl,hn,rfl,om,HB.out,om⟩
 case round=>
  obtain ⟨m,f,k,rfl,rfl,hm,hkf,hk,hmf,he⟩:=hrel;have HE:=Lib.hid he;have HMF:=Lib.hid hmf;clear he hmf
  by_cases hlt:m<128
  .go_wp2_with fail
   go_ret
   refine ⟨?_,rfl⟩;have:px f m=1:=by cases f<;>simp [px,hlt]
   rw [HS.out,HE.out,this,show 1+k - 1=k from by omega];rfl
  .obtain ⟨g,rfl⟩:∃ g,f=g+1:=by
    refine ⟨f - 1,?_⟩;grind [HMF.out]
   go_wp2_with fail
   go_round
   case rel=>
    refine ⟨m / 128,g,k+1,by go_num,by go_num,om,om,om,?_,?_⟩
    .grind [HMF.out]
    grind [HE.out,px]
   grind [intOf]
def MR (w:World) (v:Value) (z:List Int):Prop:=
 (z=[]/\∃ a c,v= .slice a 0 c)\/∃ b o c,v= .slice (some ⟨b,o,none⟩) z.length c/\b<w.heap.size/\∀ i,i<z.length->w.cell? ⟨b,o+i,none⟩=some (.int .i64 (z.getD i 0))
def sF (s:ByteArray) (z:List Int):List UInt8:=s.data.toList++mU (z.map Int.toNat)
theorem XA (s a) (h:∀ z∈a,0<=z/\z<9223372036854775808):(sF s a).length<=s.size+9*a.length:=by
 unfold sF;rw [au];have b:s.data.toList.length=s.size:=rfl;rw [b];have:(mU (a.map Int.toNat)).length<=9*a.length:=by
  induction a with
  |nil=>simp [mU]
  |cons z a i=>
   have e:mU ((z::a).map Int.toNat)=gh z.toNat++mU (a.map Int.toNat):=rfl;rw [e,au];have d:=h z (by simp);have:=i (λy c=>h y (by simp [c]));rw [C0 z.toNat om];have:=GL z.toNat om;grind
 omega
def yb (s:ByteArray) (a:List Int):Value:=if a.all (λz=>decide (0<=z))=true then .tuple #[.string ⟨(sF s a).toArray⟩, .int .i64 0] else .tuple #[.string ⟨#[]⟩, .int .i64 40]
theorem ahW:(prog.info? 5).map (λi=>(i.zero,i.size,i.bytes))=some (some (.int .u8 0),1,1):=by kernel_rfl
theorem ahY (s:ByteArray) (zs:List Int) (hz:∀ z∈zs,z<9223372036854775808) (hsz:s.size+9*zs.length<1000000000) (v:Value) (w:World) (hv:MR w v zs) (hne:zs≠[]):
  Calls prog 93 #[.string s,v] w λe w'=>e= .returned (yb s zs)/\nP w.heap.size w w':=by
 rcases hv with ⟨h,_⟩|⟨b,off,cap,rfl,hb,hc⟩
 .exact absurd h hne
 clear hne;obtain ⟨i0,hi,hz0,hz1,hz2⟩:=info_parts ahW;obtain ⟨w1,v1,hcv,hb1,hown,hv1⟩:=Xr (P:=prog) w 9 126 5 s underlying9 underlying126 underlying5 (by unfold maxLen;omega) w.heap.size (aq _);have HC:=Lib.hid hc;have HZ:=Lib.hid hz;have HOWN:=Lib.hid hown;have HINFO:=Lib.hid (⟨hi,hz0,hz1,hz2⟩:_/\_/\_/\_);clear hc hz hown hv1 hi hz0 hz1 hz2
 go_enter func93,ntmps93
 go_wp2_with fail
 go_loopw [6,16] (λo i wr=>∃ k:Nat,k<=zs.length/\i= .int .i64 k/\uC wr w.heap.size 1 o (sF s (zs.take k)).length (ya (sF s (zs.take k)))/\nP w.heap.size w wr/\∀ z∈zs.take k,0<=z) (λ_ i _=>zs.length - (intOf i).toNat)
 case atStart=>exact ⟨0,ar _,rfl,by simpa [sF,mU] using HOWN.out,hb1,by simp⟩
 case round=>
  obtain ⟨k,hk,rfl,ho,hbr,hpos⟩:=hrel;have HO:=Lib.hid ho;have HPOS:=Lib.hid hpos;clear ho hpos
  by_cases hlt:k<zs.length
  .have hcell:wr.cell? ⟨b,off+k,none⟩=some (.int .i64 (zs.getD k 0)):=(hbr.cell (p:=⟨b,off+k,none⟩) hb).trans (HC.out k hlt);have hzk:=HZ.out (zs.getD k 0) (by simp_all)
   by_cases hneg:0<=zs.getD k 0
   .obtain ⟨n,hn⟩:=de hneg;rw [hn] at hcell hzk;have hn0:n<9223372036854775808:=om;clear hneg;have HN:=Lib.hid hn;clear hn hzk
    go_wp2_with fail
    refine (ahZ n hn0 _).mono ?_;rintro e w' ⟨rfl,rfl⟩;have hs1:=Mr n;have hs9:=GL n hn0;have HSD:=Lib.hid (agu n om);generalize o9 n=sz at*;have hps:∀ i,i<=sz->(sF s (zs.take k)++uk n sz i).length<=1000000000:=by
     intro i hi;have h1:=XA s (zs.take k) (λz hz=>⟨HPOS.out z hz,HZ.out z (cX hz)⟩);grind [uk]
    have HPS:=Lib.hid hps;clear hps
    go_wp2_with fail
    generalize hP:sF s (zs.take k)=P at*;have HP:=Lib.hid hP;clear hP;obtain ⟨wo,rfl⟩:∃ wo:World,wo=wr:=⟨_,rfl⟩
    go_loopw [6,25] (λo i wr=>∃ j:Nat,j<=sz/\i= .int .i64 j/\uC wr w.heap.size 1 o (P++uk n sz j).length (ya (P++uk n sz j))/\nP w.heap.size w wr) (λ_ i _=>sz - (intOf i).toNat)
    case atStart=>grind [uk,HO.out]
    case round=>
     obtain ⟨j,hj,rfl,hoj,hbj⟩:=hrel;have HOJ:=Lib.hid hoj;clear hoj
     by_cases hjt:j<sz
     .have hlen:=HPS.out j hj;obtain ⟨c,hc⟩:∃ c:UInt8,UInt8.ofNat (CZ n sz j)=c:=⟨_,rfl⟩;have hdl:n / 128^(sz - 1 - j) % 128<128:=jU _ om;have hand:bits .and .i64 ((n:Int) / 2^(7*(sz - 1 - j))) 127=((n / 128^(sz - 1 - j) % 128:Nat):Int):=by
       grind [i64_and127,Int.pow_mul]
      have hdigs:=Qj n sz j;rw [hc] at hdigs;have HDG:=Lib.hid hdigs
      by_cases hjl:j+1<sz
      .have hcn:c.toNat=n / 128^(sz - 1 - j) % 128+128:=by
        grind [CZ,UInt8.toNat_ofNat']
       generalize n / 128^(sz - 1 - j) % 128=d at*;have hor:bits .or .i64 (d:Int) 128=(c.toNat:Int):=by rw [ahX d hdl,hcn]
       have hcl:=ca c;clear hcn hc hdigs;have hba:w.heap.size<=(wr.alloc (.cells #[.int .u8 (c.toNat:Int)] 5)).heap.size:=by rw [World.size_alloc];have:=hbj.size;omega
       have h63:(P++uk n sz j).length+1<=maxLen:=by unfold maxLen;omega
       have hby:((P++uk n sz j).length+1)*1<=140737488355328:=om;have HBA:=Lib.hid (And.intro hba (And.intro h63 hby));clear hba h63 hby
       go_wp2_with (at_builtin;refine Xx rfl _ _ 126 126 rfl w.heap.size 5 i0 (.int .u8 0) 1 1 underlying126 HINFO.out.1 HINFO.out.2.1 HINFO.out.2.2.1 HINFO.out.2.2.2 rfl _ _ _ rfl (HOJ.out.Xp _) _ 1 [.int .u8 c.toNat] rfl (Xv underlying126 wr.heap.size 1 _ rfl (QI rfl rfl)) HBA.out.2.1 HBA.out.2.2 HBA.out.1 (λ_=>Nat.one_pos) ?_;intro v' w2 hown' hgr' hform;have HO':=Lib.hid hown';have HG':=Lib.hid hgr';clear hown' hgr' hform)
       go_roundw
       case rel=>
        refine ⟨j+1,om,by go_num,?_,(hbj.Az (by have:=hbj.size;omega) _).Xm HG'.out HBA.out.1 (λk hk=>(HOJ.out.QF k hk).1)⟩;rw [HDG.out,<-aA,Xs,au];exact HO'.out
       case measure=>simp [intOf];omega
      .have hcn:c.toNat=n / 128^(sz - 1 - j) % 128:=by
        grind [CZ,UInt8.toNat_ofNat']
       rw [<-hcn] at hand;have hcl:=ca c;clear hcn hc hdigs;have hba:w.heap.size<=(wr.alloc (.cells #[.int .u8 (c.toNat:Int)] 5)).heap.size:=by rw [World.size_alloc];have:=hbj.size;omega
       have h63:(P++uk n sz j).length+1<=maxLen:=by unfold maxLen;omega
       have hby:((P++uk n sz j).length+1)*1<=140737488355328:=om;have HBA:=Lib.hid (And.intro hba (And.intro h63 hby));clear hba h63 hby
       go_wp2_with (at_builtin;refine Xx rfl _ _ 126 126 rfl w.heap.size 5 i0 (.int .u8 0) 1 1 underlying126 HINFO.out.1 HINFO.out.2.1 HINFO.out.2.2.1 HINFO.out.2.2.2 rfl _ _ _ rfl (HOJ.out.Xp _) _ 1 [.int .u8 c.toNat] rfl (Xv underlying126 wr.heap.size 1 _ rfl (QI rfl rfl)) HBA.out.2.1 HBA.out.2.2 HBA.out.1 (λ_=>Nat.one_pos) ?_;intro v' w2 hown' hgr' hform;have HO':=Lib.hid hown';have HG':=Lib.hid hgr';clear hown' hgr' hform)
       go_roundw
       case rel=>
        refine ⟨j+1,om,by go_num,?_,(hbj.Az (by have:=hbj.size;omega) _).Xm HG'.out HBA.out.1 (λk hk=>(HOJ.out.QF k hk).1)⟩;rw [HDG.out,<-aA,Xs,au];exact HO'.out
       case measure=>simp [intOf];omega
     .obtain rfl:j=sz:=om
      go_wp2_with fail
      go_roundw
      case rel=>
       have e:sF s (zs.take (k+1))=P++uk n j j:=by
        grind [HSD.out,HP.out,List.take_succ_eq_append_getElem,sF,agt,HN.out]
       refine ⟨k+1,om,by go_num,?_,hbj,?_⟩
       .rw [e];exact HOJ.out
       .have h:=HN.out;rw [bH,aj hlt] at h;simp only [Option.getD_some] at h;intro z hz;rw [aD hlt,aF] at hz;rcases hz with hz|hz
        .exact HPOS.out z hz
        simp_all
      case measure=>simp [intOf];omega
   .have hres:yb s zs= .tuple #[.string ⟨#[]⟩, .int .i64 40]:=by
     grind [yb,List.getElem_mem]
    have HR:=Lib.hid hres;clear hres;generalize zs.getD k 0=z at*;have hz0:z<0:=om;clear hneg
    go_wp2_with fail
    go_ret2
    exact ⟨by rw [HR.out];rfl,hbr⟩
  .obtain rfl:k=zs.length:=om;have ho:=HO.out;rw [aN] at ho;have hsv:=Xw (P:=prog) wr 126 9 5 w.heap.size _ _ _ underlying126 underlying5 underlying9 ho;clear ho;have hres:yb s zs= .tuple #[.string ⟨(sF s zs).toArray⟩, .int .i64 0]:=by
    unfold yb;rw [ak];rw [bi];intro z hz;exact aO (HPOS.out z (by simp_all))
   have HR:=Lib.hid hres;clear hres
   go_wp2_with fail
   go_ret2
   exact ⟨by rw [HR.out];rfl,hbr⟩
theorem XC (s:ByteArray) (hsz:s.size<1000000000) (ao:Option Addr) (cap:Nat) (w:World):
  Calls prog 93 #[.string s, .slice ao 0 cap] w λe w'=>e= .returned (yb s [])/\nP w.heap.size w w':=by
 obtain ⟨w1,v1,hcv,hb1,hown,hv1⟩:=Xr (P:=prog) w 9 126 5 s underlying9 underlying126 underlying5 (by unfold maxLen;omega) w.heap.size (aq _);have hsv:=Xw (P:=prog) w1 126 9 5 w.heap.size v1 _ _ underlying126 underlying5 underlying9 hown;clear hown hv1
 go_enter func93,ntmps93
 go_wp2_with fail
 go_loopw [6,16] (λo i wr=>o=v1/\i= .int .i64 0/\wr=w1) (λ_ _ _=>0)
 case atStart=>trivial
 case round=>
  obtain ⟨rfl,rfl,rfl⟩:=hrel
  go_wp2_with fail
  go_ret2
  refine ⟨?_,hb1⟩;simp [yb,sF,mU]
theorem XB (s a) (i:∀ z∈a,z<9223372036854775808) (d:s.size+9*a.length<1000000000) (v w) (f:MR w v a):
  Calls prog 93 #[.string s,v] w λe w'=>e= .returned (yb s a)/\nP w.heap.size w w':=by
 by_cases h:a=[]
 .subst h;rcases f with ⟨_,g,c,rfl⟩|⟨b,o,c,rfl,_⟩
  .grind [XC]
  grind [XC]
 grind [ahY]
def AA (s:ByteArray):Value:=
 match lI s.data.toList with
 |none=> .tuple #[.int .i64 0, .string ⟨#[]⟩, .int .i64 40]
 |some (n,u)=> .tuple #[.int .i64 (n:Int), .string (s.extract u s.size), .int .i64 0]
theorem QK {s} (h:lI s.data.toList=none):AA s= .tuple #[.int .i64 0, .string ⟨#[]⟩, .int .i64 40]:=by
 unfold AA;rw [h]
theorem XE {s} {n u:Nat} (h:lI s.data.toList=some (n,u)):AA s= .tuple #[.int .i64 (n:Int), .string (s.extract u s.size), .int .i64 0]:=by
 unfold AA;rw [h]
theorem ah0 (s:ByteArray) (k:Nat) (h:k<s.size):s.data.toList.drop k=s[k]::s.data.toList.drop (k+1):=by
 rw [aY (by simpa using h)];rfl
theorem XF (s:ByteArray) (hs:s.size<1000000000000) (w:World):
  Calls prog 224 #[.string s] w λe w'=>e= .returned (AA s)/\nP w.heap.size w w':=by
 go_enter func224,ntmps224
 go_wp2_with fail
 go_step3
 go_wp2_with fail
 go_step3
 go_wp2_with fail
 go_loop [5,6,11] (λx u i=>∃ k n:Nat,k<=s.size/\x= .int .i64 n/\u= .int .i64 0/\i= .int .i64 k/\n<9223372036854775808/\lI s.data.toList=q8 n k (s.data.toList.drop k)) (λ_ _ i=>s.size - (intOf i).toNat)
 case atStart=>exact ⟨0,0,Nat.zero_le _,rfl,rfl,rfl,om,rfl⟩
 case round=>
  obtain ⟨k,n,hk,rfl,rfl,rfl,hn,ht⟩:=hrel;have HT:=Lib.hid ht;clear ht
  by_cases hlt:k<s.size
  .have HD:=Lib.hid (ah0 s k hlt);have hcl:=ca s[k]
   by_cases hstop:(k=0/\s[k].toNat=128)\/72057594037927935<n
   .have hres:AA s= .tuple #[.int .i64 0, .string ⟨#[]⟩, .int .i64 40]:=by
     apply QK;rw [HT.out,HD.out];exact Wp _ _ _ _ hstop
    have HR:=Lib.hid hres;clear hres
    by_cases h1:k=0/\s[k].toNat=128
    .have hk0:((k:Int)==0)=true:=by rw [h1.1];rfl
     have hc0:((s[k].toNat:Int)==128)=true:=by rw [h1.2];rfl
     clear hstop h1
     go_wp2_with fail
     go_ret3
     exact ⟨by rw [HR.out];rfl,nP.vP _ _⟩
    .have hg:(((k:Int)==0)=true/\((s[k].toNat:Int)==128)=false)\/((k:Int)==0)=false:=by
      rw [dC,cL,cL];omega
     have hn0:72057594037927935<n:=by rcases hstop with h|h;exact absurd h h1;exact h
     clear hstop h1;rcases hg with ⟨hk0,hc0⟩|hk0
     all_goals
      go_wp2_with fail
      go_ret3
      exact ⟨by rw [HR.out];rfl,nP.vP _ _⟩
   .have hg:(((k:Int)==0)=true/\((s[k].toNat:Int)==128)=false)\/((k:Int)==0)=false:=by
     rw [dC,cL,cL];omega
    have hn0:n<=72057594037927935:=om
    by_cases hlast:s[k].toNat<128
    .have hres:AA s= .tuple #[.int .i64 ((n*128+s[k].toNat:Nat):Int), .string (s.extract (k+1) s.size), .int .i64 0]:=by
      apply XE;rw [HT.out,HD.out];exact Qk _ _ _ _ hstop hlast
     have HR:=Lib.hid hres;have hor:=Xz n s[k].toNat hn0 hlast;have hu0:((k:Int)+1==0)=false:=by rw [cL];omega
     clear hstop hres;rcases hg with ⟨hk0,hc0⟩|hk0
     all_goals
      go_wp2_with fail
      have hlo:(0:Int)<=(k:Int)+1:=om;have hhi:(k:Int)+1<=(s.size:Int):=om;have htn:((k:Int)+1).toNat=k+1:=om
      go_quiet (fail)
      go_wp2_with fail
      rw [Exit.noGoto_ret]
      go_ret3
      exact ⟨by rw [HR.out];rfl,Xo (nP.vP _ _) _⟩
    .have hstep:=Ql _ _ _ (s.data.toList.drop (k+1)) hstop hlast;have HS:=Lib.hid hstep;have hor:=Xz n (s[k].toNat % 128) hn0 om;have hand:bits .and .i64 (s[k].toNat:Int) 127=((s[k].toNat % 128:Nat):Int):=by rw [i64_and127];rfl
     have hdd:s[k].toNat % 128<128:=om;clear hstop hstep;generalize s[k].toNat % 128=d at*;rcases hg with ⟨hk0,hc0⟩|hk0
     all_goals
      go_wp2_with fail
      go_round
      case rel=>exact ⟨k+1,n*128+d,om,by go_num,rfl,by go_num,om,by rw [HT.out,HD.out,HS.out]⟩
      case measure=>simp [intOf];omega
  .have hres:AA s= .tuple #[.int .i64 0, .string ⟨#[]⟩, .int .i64 40]:=by
    apply QK;rw [HT.out,List.drop_eq_nil_of_le (by simp;omega)];rfl
   have HR:=Lib.hid hres;clear hres
   go_wp2_with fail
   go_ret3
   exact ⟨by rw [HR.out];rfl,nP.vP _ _⟩
theorem XD (s:ByteArray) (u a b:Nat):(s.extract u s.size).extract a b=s.extract (u+a) (u+b):=by
 apply WideShapes.bytes_inj;rw [Lib.extract_data,Lib.extract_data,Lib.extract_data];have h:s.data.toList.length=s.size:=rfl;rw [bj (l:=List.drop u _) (by rw [aV,h];omega),cD,show u+b - (u+a)=b - a from by omega]
def BX (s:ByteArray):Value:=
 match uw s.data.toList with
 |none=> .tuple #[.string ⟨#[]⟩, .string ⟨#[]⟩, .int .i64 40]
 |some (n,u)=> .tuple #[.string (s.extract u (u+n)), .string (s.extract (u+n) s.size), .int .i64 0]
theorem ah2 (s:ByteArray) (hs:s.size<1000000000000) (w:World):
  Calls prog 177 #[.string s] w λe w'=>e= .returned (BX s)/\nP w.heap.size w w':=by
 have H1:=Lib.hid (XF s hs w);cases ht:lI s.data.toList with
 |none=>
  have hres:BX s= .tuple #[.string ⟨#[]⟩, .string ⟨#[]⟩, .int .i64 40]:=by
   unfold BX uw;rw [ht]
  have HR:=Lib.hid hres;rw [QK ht] at H1;clear hres ht
  go_enter func177,ntmps177
  go_wp2_with fail
  refine H1.out.mono ?_;rintro e w1 ⟨rfl,hb1⟩
  go_wp2_with fail
  go_ret3
  exact ⟨by rw [HR.out];rfl,hb1⟩
 |some p=>
  obtain ⟨n,u⟩:=p;have hb:=Jt _ _ _ _ _ om ht;have hlen:s.data.toList.length=s.size:=rfl;rw [hlen] at hb;have hxs:(s.extract u s.size).size=s.size - u:=by rw [ByteArray.size_extract];omega
  rw [XE ht] at H1
  by_cases hfit:n+u<=s.size
  .have hres:BX s= .tuple #[.string (s.extract u (u+n)), .string (s.extract (u+n) s.size), .int .i64 0]:=by
    unfold BX uw;rw [ht];simp only;rw [hlen,if_pos hfit]
   have HR:=Lib.hid hres;clear hres ht hlen;have HX:=Lib.hid hxs;generalize hX:s.extract u s.size=X at*;have HXX:=Lib.hid hX;have hn:n<=X.size:=by rw [HX.out];omega
   have hni:(n:Int)<=(X.size:Int):=om;have hn0:(0:Int)<=(n:Int):=om;clear hX hxs
   go_enter func177,ntmps177
   go_wp2_with fail
   refine H1.out.mono ?_;rintro e w1 ⟨rfl,hb1⟩
   go_wp2_with fail
   go_quiet (fail)
   go_wp2_with fail
   go_ret3
   refine ⟨?_,Xo hb1 _⟩;rw [HR.out];have hsz:u+X.size=s.size:=by rw [HX.out];omega
   have hXX:=HXX.out;subst hXX;have e1:=XD s u 0 n;have e2:=XD s u n (s.extract u s.size).size;rw [hsz] at e2;rw [cI] at e1;rw [<-e1,<-e2];rfl
  .have hres:BX s= .tuple #[.string ⟨#[]⟩, .string ⟨#[]⟩, .int .i64 40]:=by
    unfold BX uw;rw [ht];simp only;rw [hlen,ai hfit]
   have HR:=Lib.hid hres;have hlt:s.size - u<n:=om;clear hres ht hlen;generalize s.extract u s.size=X at*
   go_enter func177,ntmps177
   go_wp2_with fail
   refine H1.out.mono ?_;rintro e w1 ⟨rfl,hb1⟩
   go_wp2_with fail
   go_ret3
   exact ⟨by rw [HR.out];rfl,hb1⟩
def QL (b t:ByteArray):ByteArray:=⟨(nF b.data.toList t.data.toList).toArray⟩
theorem ah1 (w b c z) (h:b<w.heap.size) (a:w.cell? ⟨b,0,none⟩=some (.int .i64 z)):MR w (.slice (some ⟨b,0,none⟩) 1 c) [z]:=
 .inr ⟨b,0,c,rfl,h,λi d=>by match i,d with|0,_=>simpa using a⟩
theorem ah3 (b t:ByteArray) (hs:b.size+t.size<900000000) (w:World):
  Calls prog 112 #[.string b, .string t] w λe w'=>e= .returned (.string (QL b t))/\nP w.heap.size w w':=by
 have h1:=XB b [(t.size:Int)] (by intro z hz;rw [aw] at hz;omega) (by simp;omega);have hp:yb b [(t.size:Int)]= .tuple #[.string ⟨(sF b [(t.size:Int)]).toArray⟩, .int .i64 0]:=by
  unfold yb;rw [ak (by simp)]
 rw [hp] at h1;have hl:=XA b [(t.size:Int)] (by intro z hz;rw [aw] at hz;omega);have hfin:QL b t=⟨(sF b [(t.size:Int)]).toArray⟩++t:=by
  apply WideShapes.bytes_inj;rw [ByteArray.data_append,Array.toList_append];simp [QL,nF,sF,mU]
 have hP:(⟨(sF b [(t.size:Int)]).toArray⟩:ByteArray).size<=b.size+9:=by
  show (sF b [(t.size:Int)]).toArray.size<=_;rw [List.size_toArray];exact hl
 generalize (⟨(sF b [(t.size:Int)]).toArray⟩:ByteArray)=P at*;have HF:=Lib.hid hfin;have H1:=Lib.hid h1;clear hfin h1 hp hl
 go_enter func112,ntmps112
 go_wp2_with fail
 refine (H1.out _ _ (ah1 _ _ _ _ (by simp) (QI rfl rfl))).mono ?_;rintro e w1 ⟨rfl,hb1⟩
 go_wp2_with fail
 go_ret
 exact ⟨by rw [HF.out];rfl,((nP.vP _ _).Az (aq _) _).MQ (hb1.MP (by simp))⟩
end Go.Proofs.YtffboamedcmpaaaGreatDoor
