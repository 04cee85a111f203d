import Derived.Test.YtffboamedcmpaaaGreatDoorCh
import Derived.Test.YtffboamedcmpaaaGreatDoorCi
set_option linter.all false
set_option maxHeartbeats 4000000
set_option maxRecDepth 100000
namespace Go.Proofs.YtffboamedcmpaaaGreatDoor
open Gw
open Go.Am
def yr (nl nw:Bool) (w:eD):List ae:=[.aa .i64 w.aW.bE, .ai w.aW.jy.data.toList, .ag nl 2 (w.aW.cH.map hU) .av, .aa .i64 w.cV, .aa .i64 w.IS, .aa .i64 w.cQ, .aa .i64 w.kK, .aa .i64 w.gf, .aa .i64 w.FO,
 .ag nw 1 (gJ w.cD) .av, .aE w.nD, .aa .i64 w.gp, .aa .i64 w.oX, .aa .i64 w.mS]
def iY (nl nw:Bool) (w:eD):ae:= .aK (yr nl nw w)
theorem By (n:Nat) (h:n<=1000000):aC Tryz.prog 61 [.aa .i64 n] (.aa .i64 (n / 4:Nat)):=by
 refine bK Tryz.func61 ?_
 conv=>whnf
 grind [bj]
theorem Jr (n q:Nat) (h:n<=1000000) (hq:q<=1000000):aC Tryz.prog 64 [.aa .i64 n, .aa .i64 q] (.aa .i64 (if q % 2=1 then n / 4 else 0:Nat)):=by
 refine bK Tryz.func64 ?_;have e:((q:Int)).tmod 2=(q % 2:Nat):=by trivial
 conv=>whnf
 rw [e];refine ⟨λh1=>?_,λh1=>?_⟩
 ·have h1:q % 2=1:=by
   grind
  rw [if_pos h1]
  conv=>whnf
  refine bz.eV (By n h) rfl ?_
  conv=>whnf
 ·have h1:¬q % 2=1:=by
   grind
  rw [if_neg h1];exact bm
theorem Na (n:Nat) (h:n<=1000000):aC Tryz.prog 63 [.aa .i64 n] (.aa .i64 (2*(n / 4):Nat)):=by
 refine bK Tryz.func63 ?_
 conv=>whnf
 refine bz.eV (By n h) rfl ?_
 conv=>whnf
 grind [bj]
theorem Ng (n:Nat) (h:n<=65536):aC Tryz.prog 175 [.aa .i64 n] (.ai (tK n)):=by
 refine bK Tryz.func175 ?_
 conv=>whnf
 have hw:IntKind.i64.wrap ((n:Int)*16)=((n*16:Nat):Int):=by grind [bj]
 rw [hw];refine ⟨⟨om,rfl,dG om dd⟩,?_⟩
 conv=>whnf
 refine ⟨tK n,?_,?_⟩
 ·show 0+((n*16:Nat):Int).toNat<=(eB ((n*16:Nat):Int).toNat [ae.aa .u8 0]).length/\((eB ((n*16:Nat):Int).toNat [ae.aa .u8 0]).drop 0).take ((n*16:Nat):Int).toNat=_;rw [Lu,Int.toNat_natCast];exact Ig (by simp)
 conv=>whnf
theorem T5 (b:Nat):[]++iv ([(b:Int)].map Int.toNat)=bW b:=by simp [iv]
theorem T3 (b:Nat) (st:List UInt8) (hb:b<=1000001) (hs:st.length<=1000):aC Tryz.prog 59 [.aa .i64 b, .ai st] (.aw [.ai (gr b st), .aa .i64 0]):=by
 have h1:=F8 [] false [(b:Int)] (by simp;omega) (by simp);rw [T5 b] at h1;have h3:=oW (n:=b) om;have h2:=Dv (bW b) st om;have h4:=IW hb hs;refine bK Tryz.func59 ?_;refine ak ?_;refine ⟨λh=>?_,λ_=>?_⟩
 ·have h:=of_decide_eq_true h;have h5:(jA (bW b) st).length<=1100:=h4;omega
 exact bm
def Nc (o:Option (Nat×List UInt8)):ae:=match o with
 |none=> .aw [.aa .i64 0, .ai [], .aE false]
 |some (b,st)=> .aw [.aa .i64 b, .ai st, .aE true]
theorem ady (s:List UInt8) (q:Nat) (hs:s.length<=1048576):aC Tryz.prog 222 [.ai s, .aa .i64 q] (Nc (wE s q)):=by
 have h1:=T2 s (q:Int) hs;unfold wE;have hb:∀ p k,lY s (q:Int)=some (p,k)->p.length<=40000:=λp k h=>(zq.1 (Bd h).1).2.2
 refine bK Tryz.func222 ?_;refine ak ?_;rcases ht:lY s (q:Int) with _|⟨p,k⟩
 ·simp only [Jo];exact bm
 have hpl:=hb p k ht;simp only [Jo];refine ak ?_;have h2:=F9 p om;unfold IV;refine ak ?_;unfold pS;rcases hv:gI p with _|⟨b,u⟩
 ·simp only;exact bm
 simp only;have hbb:=(Dm p 0 0 b u om hv).2.2;refine ak ?_;refine ⟨λh=>?_,λh=>?_⟩
 ·have h:=of_decide_eq_true h;have hx:∀ (st rest:List UInt8),¬(rest=[]/\1<=b/\b<=1000001):=λst rest hh=>by omega
  refine ak ?_;rcases qw (p.drop u) with _|⟨st,rest⟩
  ·rfl
  ·simp only;rw [if_neg (hx st rest)];rfl
 have h:=of_decide_eq_false h
 conv=>whnf
 refine ⟨λh3=>?_,λh3=>?_⟩
 ·have h3:=of_decide_eq_true h3;have hx:∀ (st rest:List UInt8),¬(rest=[]/\1<=b/\b<=1000001):=λst rest hh=>by omega
  conv=>whnf
  rcases qw (p.drop u) with _|⟨st,rest⟩
  ·rfl
  ·simp only;rw [if_neg (hx st rest)];rfl
 have h3:=of_decide_eq_false h3;have h4:=Du (p.drop u) (by rw [List.length_drop];omega);rw [M5] at h4;refine ak ?_;rcases qw (p.drop u) with _|⟨st,rest⟩
 ·simp only;exact bm
 simp only;refine ak ?_;refine ⟨λh5=>?_,λh5=>?_⟩
 ·have h5:¬rest=[]:=by simpa using h5
  rw [if_neg (λh=>h5 h.1)];exact bm
 ·have h5:rest=[]:=by simpa using h5
  rw [if_pos ⟨h5,om,om⟩];exact bm
def Jq (o:Option (Nat×Nat×List UInt8)):ae:=match o with
 |none=> .aw [.aa .i64 0, .aa .i64 0, .ai []]
 |some (q,b,st)=> .aw [.aa .i64 q, .aa .i64 b, .ai st]
def DF (o:Option (Nat×Nat×List UInt8)):Nat:=match o with|none=>0|some x=>x.1
def M7 (o:Option (Nat×Nat×List UInt8)):Nat:=match o with|none=>0|some x=>x.2.1
def M8 (o:Option (Nat×Nat×List UInt8)):List UInt8:=match o with|none=>[]|some x=>x.2.2
theorem ado (o:Option (Nat×Nat×List UInt8)):Jq o= .aw [.aa .i64 (DF o), .aa .i64 (M7 o), .ai (M8 o)]:=by
 cases o<;>rfl
def qD (s0 s1:List UInt8) (i:Nat):Option (Nat×Nat×List UInt8):=if i=0 then none else if i=1 then qx s0 0 else IT (qx s0 0) (qx s1 1)
theorem adx {s:List UInt8} {i:Nat} (h:∀ q,1<=q->q<=200->q % 2=i->wE s q=none):qx s i=none:=by
 rcases hs:qx s i with _|⟨q,b,st⟩
 ·rfl
 grind [Mh]
theorem ads {s0 s1:List UInt8} {i:Nat} (hi:i<2) (h:qx (if i=0 then s0 else s1) i=none):qD s0 s1 (i+1)=qD s0 s1 i:=by
 have:i=0\/i=1:=om;rcases this with rfl|rfl
 ·trivial
 ·rw [if_neg dd] at h;simp only [qD,h];cases qx s0 0<;>rfl
theorem adt {s0 s1:List UInt8} {i q b:Nat} {st:List UInt8} (hi:i<2) (hq:1<=q) (h:qx (if i=0 then s0 else s1) i=some (q,b,st)):qD s0 s1 (i+1)=if DF (qD s0 s1 i)<q then some (q,b,st) else qD s0 s1 i:=by
 have:i=0\/i=1:=om;rcases this with rfl|rfl
 ·grind [qD,DF]
 ·rw [if_neg dd] at h;simp only [qD,h];rcases qx s0 0 with _|x
  ·simp [IT,DF];omega
  trivial
theorem adr {d:dL}:qD (pK d 0 (fb d)) (pK d (fb d) (fb d)) 2=yb d:=rfl
theorem adp (nil:Bool) (d:dL) (hc:ef d=true) (hl:d.cH.length<=1048576):aC Tryz.prog 171 [j6 nil d] (Jq (yb d)):=by
 obtain ⟨z1,z2,_,_⟩:=mr hc;have hr0:=M1 nil d 0 (fb d) (by unfold jJ;omega) (by unfold jJ;omega) (by unfold jJ fb;omega) hl;have hr1:=M1 nil d (fb d) (fb d) (by unfold jJ;omega) (by unfold jJ fb;omega) (by unfold jJ fb;omega) hl;have hl0:(pK d 0 (fb d)).length<=1048576:=by
  grind [IY,fb]
 have hl1:(pK d (fb d) (fb d)).length<=1048576:=by
  grind [IY,fb]
 rw [<-adr];have hso:=λq (h:q<=1000000)=>Jr (d.bE.toNat) q om h
 have hss:=By (d.bE.toNat) om;have hsz:fb d=d.bE.toNat / 4:=rfl;rw [hsz] at hr0 hr1 hl0 hl1 ⊢;obtain ⟨N,hN⟩:∃ N:Nat,d.bE=(N:Int):=⟨d.bE.toNat,om⟩;generalize pK d 0 _=s0 at*;generalize pK d _ _=s1 at*;generalize A8 d _ _=e0 at hr0;generalize A8 d _ _=e1 at hr1;rw [hN,Int.toNat_natCast] at hr0 hr1 hso hss;obtain ⟨size,firm,loose⟩:=d;simp only at hN;subst hN;have hr0:aC Tryz.prog _ [.aK [.aa .i64 (N:Int), .ai firm.data.toList, .ag nil 2 (loose.map hU) .av],_,_] _:=hr0;have hr1:aC Tryz.prog _ [.aK [.aa .i64 (N:Int), .ai firm.data.toList, .ag nil 2 (loose.map hU) .av],_,_] _:=hr1;show aC Tryz.prog _ [.aK [.aa .i64 (N:Int), .ai firm.data.toList, .ag nil 2 (loose.map hU) .av]] _;rw [ado];refine bK Tryz.func171 ?_
 conv=>whnf
 refine db.cK (λi:Nat=>[(.aj 1, .ah (.ar 0 0)),(.aj 5, .ah (.aa .i64 (DF (qD s0 s1 i)))),(.aj 6, .ah (.aa .i64 (M7 (qD s0 s1 i)))),(.aj 7, .ah (.ai (M8 (qD s0 s1 i)))),(.aj 15, .ah (.aa .i64 i)),
  (.af 0, .au 44 [.aa .i64 (N:Int), .ai firm.data.toList, .ag nil 2 (loose.map hU) .av])]) 1 (λi=>i<=2) (λi=>2 - i) dd 0 dd
  ⟨rfl,rfl,rfl,rfl,rfl,rfl,rfl,rfl,rfl,rfl,rfl,rfl,trivial⟩ ?_
 rintro i hi;refine cn ?_;refine ⟨λh=>?_,λh=>?_⟩
 ·have h:=of_decide_eq_true h;have hi2:i<2:=om
  conv=>whnf
  refine ⟨_,rfl,hso i om,?_⟩;refine ak ?_;obtain ⟨s,e,hs,hsl,hread⟩:∃ s e,s=(if i=0 then s0 else s1)/\s.length<=1048576/\aC Tryz.prog 172 [.aK [.aa .i64 (N:Int), .ai firm.data.toList, .ag nil 2 (loose.map hU) .av], .aa .i64 ((if i % 2=1 then N / 4 else 0:Nat):Int), .aa .i64 ((N / 4:Nat):Int)] (.aw [.ai s, .aa .i64 (e:Nat)]):=by
   have:i=0\/i=1:=om;rcases this with rfl|rfl
   ·exact ⟨s0,e0,rfl,hl0,hr0⟩
   ·exact ⟨s1,e1,rfl,hl1,hr1⟩
  refine ak ?_;have hfk:=ads (s0:=s0) (s1:=s1) hi2;have hfn:=λq b st=>adt (s0:=s0) (s1:=s1) (q:=q) (b:=b) (st:=st) hi2
  rw [<-hs] at hfk hfn;refine db.cK (λk:Nat=>[(.aj 1, .ah (.ar 0 0)),(.aj 5, .ah (.aa .i64 (DF (qD s0 s1 i)))),(.aj 6, .ah (.aa .i64 (M7 (qD s0 s1 i)))),(.aj 7, .ah (.ai (M8 (qD s0 s1 i)))),(.aj 15, .ah (.aa .i64 i)),(.aj 8, .ah (.aa .i64 i)),(.aj 9, .ah (.ai s)),(.aj 11, .ah (.aa .i64 (k+1:Nat))),
   (.af 0, .au 44 [.aa .i64 (N:Int), .ai firm.data.toList, .ag nil 2 (loose.map hU) .av])]) 1 (λk=>k<=200/\∀ q,1<=q->q<=k->q % 2=i->wE s q=none) (λk=>200 - k) dd 0 ⟨dd,λq h1 h2=>om⟩
   ⟨rfl,rfl,rfl,rfl,rfl,rfl,rfl,rfl,rfl,rfl,rfl,rfl,rfl,rfl,rfl,rfl,rfl,rfl,trivial⟩ ?_
  rintro k ⟨hk,hno⟩;have hw1:IntKind.i64.wrap (((k+1:Nat):Int)+1)=((k+1+1:Nat):Int):=by grind [bj]
  have hwi:IntKind.i64.wrap ((i:Int)+1)=((i+1:Nat):Int):=by grind [bj]
  have hmod:(((k+1:Nat):Int)).tmod 2=((k+1) % 2:Nat):=by trivial
  have hmark:=ady s (k+1) hsl;refine cn ?_;refine ⟨λh2=>?_,λh2=>?_⟩
  ·have h2:=of_decide_eq_true h2
   conv=>whnf
   rw [hmod];refine ⟨λh3=>?_,λh3=>?_⟩
   ·have h3:(k+1) % 2≠i:=by
     grind
    conv=>whnf
    refine ⟨k+1,⟨om,λq h4 h5 h6=>?_⟩,by grind,rfl,rfl,rfl,rfl,rfl,rfl,rfl,rfl,rfl,rfl,rfl,rfl,rfl,rfl,?_,rfl,rfl,rfl,trivial⟩
    ·grind
    ·show bs.ah (ae.aa .i64 (IntKind.i64.wrap (((k+1:Nat):Int)+1)))=_;rw [hw1]
   ·have h3:(k+1) % 2=i:=by
     grind
    refine ak ?_;rcases hm:wE s (k+1) with _|⟨b,st⟩
    ·simp only [Nc];refine iV ?_;refine ⟨k+1,⟨om,λq h4 h5 h6=>?_⟩,by grind,rfl,rfl,rfl,rfl,rfl,rfl,rfl,rfl,rfl,rfl,rfl,rfl,rfl,rfl,?_,rfl,rfl,rfl,trivial⟩
     ·grind
     ·show bs.ah (ae.aa .i64 (IntKind.i64.wrap (((k+1:Nat):Int)+1)))=_;rw [hw1]
    ·have hin:=hfn (k+1) b st om (Mh.2 ⟨om,om,h3,hm⟩);simp only [Nc];refine ak ?_;refine ⟨λh4=>?_,λh4=>?_⟩
     ·have h4:=of_decide_eq_true h4;rw [if_pos om] at hin
      conv=>whnf
      refine ⟨i+1,om,by grind,rfl,rfl,?_,rfl,?_,rfl,?_,rfl,?_,rfl,rfl,rfl,trivial⟩
      ·rw [hin];rfl
      ·rw [hin];rfl
      ·rw [hin];rfl
      ·exact dh
     ·have h4:=of_decide_eq_false h4;rw [if_neg om] at hin
      conv=>whnf
      refine ⟨i+1,om,by grind,rfl,rfl,?_,rfl,?_,rfl,?_,rfl,?_,rfl,rfl,rfl,trivial⟩
      ·rw [hin];rfl
      ·rw [hin];rfl
      ·rw [hin];rfl
      ·exact dh
  ·have h2:=of_decide_eq_false h2;have hin:=hfk (adx λq h4 h5 h6=>hno q h4 om h6)
   conv=>whnf
   refine ⟨i+1,om,by grind,rfl,rfl,?_,rfl,?_,rfl,?_,rfl,?_,rfl,rfl,rfl,trivial⟩
   ·rw [hin];rfl
   ·rw [hin];rfl
   ·rw [hin];rfl
   ·exact dh
 ·have h:=of_decide_eq_false h;obtain rfl:i=2:=om
  conv=>whnf
theorem Bz {c0 c1 a2 b2 c3 c4 c5 c6 c7 c8 a9 b9 c10 c11 c12 c13:ae} (h2:iL a2 b2) (h9:iL a9 b9):iL (.aK [c0,c1,a2,c3,c4,c5,c6,c7,c8,a9,c10,c11,c12,c13]) (.aK [c0,c1,b2,c3,c4,c5,c6,c7,c8,b9,c10,c11,c12,c13]):=
 iL.np (.aX (.bw _) (.aX (.bw _) (.aX h2 (.aX (.bw _) (.aX (.bw _) (.aX (.bw _) (.aX (.bw _) (.aX (.bw _) (.aX (.bw _) (.aX h9 (.aX (.bw _) (.aX (.bw _) (.aX (.bw _) (.aX (.bw _) .fa))))))))))))))
theorem Jp {a b c d:ae} (h1:iL a b) (h2:iL c d):iL (.aw [a,c]) (.aw [b,d]):=iL.ml (.aX h1 (.aX h2 .fa))
def M9 (size:Int):ae:= .aw [iY true true (oY size).1, .aa .i64 ((oY size).2:Nat)]
theorem adw (size:Int):∃ N:Nat,N<=65536/\(lV size).bE=(N:Int)/\ef (lV size)=true/\(lV size).cH=[]:=by
 refine ⟨(min (max size 0) 65536).toNat,om,by grind [lV],?_,rfl⟩;have h:=aaw (min (max size 0) 65536).toNat om ⟨(List.replicate ((min (max size 0) 65536).toNat*16) (0:UInt8)).toArray⟩ (by show ((List.replicate ((min (max size 0) 65536).toNat*16) (0:UInt8)).toArray).size=_;simp);grind [lV]
theorem adB (size:Int):aC Tryz.prog 29 [.aa .i64 size] (M9 size):=by
 unfold M9 oY;obtain ⟨N,hN,hs,hc,hlo⟩:=adw size;have h1:=ac9 size;have hmk:=T3 1 [] dd dd;have hpk:=Gf 1 (gr 1 []);have hmay:=Si (q:=1) (b:=1) (st:=[]) dd dd dd dd;have hmay:ka 1 (gr 1 [])=true:=hmay;have e1:wy 1 (gr 1 [])=jl 1 1 []:=by trivial
 have e2:wA 1 (gr 1 [])=0:=by trivial
 rw [e1,e2] at hpk;have hlen:(jl 1 1 []).length=16:=dd;have hss:=By N om;have hst:=Na N om;have hso:=Jr N 1 om dd;have hsz:fb (lV size)=N / 4:=by grind [fb]
 have hso2:oZ (lV size) 1=N / 4:=by trivial
 have hst2:gF (lV size)=2*(N / 4):=by grind [gF]
 rw [hsz,hso2,hst2];generalize lV size=d at*;have hwr:=TW true d (N / 4:Nat) (ew (jl 1 1 [])) (λ_=>hlo) (by grind [jJ]) (by unfold jJ;omega) (by rw [hlo];decide) (by trivial);rw [aa2] at hwr;have hgood:=λ(h:1<=N / 4)=>yc hc (N / 4) 1 (jl 1 1 []) hlen om
 have hfl:(N / 4:Nat)>=1->aC Tryz.prog 118 [j6 false (jZ d ((N / 4:Nat):Int) (ew (jl 1 1 [])))] (j6 true (lF (jZ d ((N / 4:Nat):Int) (ew (jl 1 1 []))))):=λh=>by
  obtain ⟨_,g2,g3,g4⟩:=hgood h;have:=TS false (jZ d ((N / 4:Nat):Int) (ew (jl 1 1 []))) (λh=>by cases h) (by grind [jJ]) (by simp_all);rw [if_pos g3] at this;exact this
 have hwe:(N / 4:Nat)>=1->ri d ((N / 4:Nat):Int) (ew (jl 1 1 []))=0:=λh=>(hgood h).1
 have hq:IntKind.i64.wrap (((jl 1 1 []).length:Int).tdiv 16)=1:=by rw [hlen];decide
 generalize jZ d _ (ew (jl 1 1 []))=D at*;generalize ri d _ (ew (jl 1 1 []))=we at*;generalize jl 1 1 []=ms at*;clear hgood e1;obtain ⟨size',firm,loose⟩:=d;simp only at hs hlo;subst hs hlo;have hwr:aC Tryz.prog 117 [.aK [.aa .i64 (N:Int), .ai firm.data.toList, .ag true 2 [] .av], .aa .i64 (N / 4:Nat), .ai ms] _:=hwr;have h1:aC Tryz.prog _ [.aa .i64 size] (.aK [.aa .i64 (N:Int), .ai firm.data.toList, .ag true 2 [] .av]):=h1;refine cU Tryz.func29 ?_;refine ak ?_;rw [hq];rw [hlen];refine ⟨λh=>?_,λh=>?_⟩
 ·have h:=of_decide_eq_true h;rw [if_pos om]
  conv=>whnf
  exact Jp (Bz (.eR _ _ _) (.eR _ _ _)) (.bw _)
 have h:=of_decide_eq_false h;rw [if_neg om];have hfl:=hfl om;rw [hwe om,if_pos rfl] at hwr
 conv=>whnf
 refine ⟨_,rfl,hst,?_⟩
 conv=>whnf
 refine ⟨aG,aG,?_⟩;refine bn Tryz.func62 ?_;refine ak ?_;refine .inr ⟨aG,aG,?_⟩;refine bn Tryz.func116 ?_;refine ak ?_;refine bn Tryz.func65 ?_;refine ak ?_;exact Jp (Bz (.bw _) (.eR _ _ _)) (.bw _)
def M6 (nl nw:Bool) (w:eD) (p:List UInt8):ae:= .aw [iY nl (if 40000<p.length\/1000000<w.cQ then nw else false) (ot w p).1, .aa .i64 ((ot w p).2.1:Nat), .aa .i64 ((ot w p).2.2:Nat)]
theorem adn (nl nw:Bool) (w:eD) (p:List UInt8) (hn:w.cQ<=1000001) (hl:w.cD.length<=1000001):aC Tryz.prog 126 [iY nl nw w, .ai p] (M6 nl nw w p):=by
 unfold M6 ot;have hel:=zJ w.cD;refine cU Tryz.func126 ?_
 conv=>whnf
 refine ⟨λh=>?_,λh=>?_⟩
 ·have h:=of_decide_eq_true h;rw [if_pos (.inl om),if_pos (.inl om)];exact bm
 have h:=of_decide_eq_false h
 conv=>whnf
 refine ⟨λh2=>?_,λh2=>?_⟩
 ·have h2:=of_decide_eq_true h2;rw [if_pos (.inr om),if_pos (.inr om)];exact bm
 have h2:=of_decide_eq_false h2;rw [if_neg om,if_neg om]
 conv=>whnf
 refine ⟨⟨om,om,rfl⟩,?_⟩;have htk:List.take (((gJ w.cD).length:Nat):Int).toNat (gJ w.cD)=gJ w.cD:=by grind [List.take_length]
 have hsn:gJ (w.cD++[p])=gJ w.cD++[[.ai p]]:=by simp [gJ]
 conv=>whnf
 rw [htk];refine ⟨dG (by grind) dd,?_⟩
 conv=>whnf
 rw [bj (x:=(w.cQ:Int)+1) om om];refine iL.mj ?_;show ae.aw [ae.aK [.aa .i64 w.aW.bE, .ai w.aW.jy.data.toList, .ag nl 2 (w.aW.cH.map hU) .av, .aa .i64 w.cV, .aa .i64 w.IS, .aa .i64 ((w.cQ:Int)+1), .aa .i64 w.kK, .aa .i64 w.gf, .aa .i64 w.FO,
  .ag (nw && false) 1 (gJ w.cD++[[.ai p]]) .av, .aE w.nD, .aa .i64 w.gp, .aa .i64 w.oX, .aa .i64 w.mS], .aa .i64 w.cQ, .aa .i64 0]=ae.aw [iY nl false _,_,_]
 grind [iY,yr]
theorem adq (nil:Bool) (els:List (List ae)) (hn:nil=true->els=[]) (hl:els.length<=4294967296):aC Tryz.prog 107 [.ag nil 1 els .av] (.ag nil 1 els .av):=by
 refine cU Tryz.func107 ?_
 conv=>whnf
 refine ⟨λh=>?_,λh=>?_⟩
 ·conv=>whnf
  grind [iL.eR]
 ·conv=>whnf
  refine ⟨dG (by simpa using hl) dd,?_⟩
  conv=>whnf
  grind [iL.bw]
theorem Nd {w:eD} (h:je w) (nl:Bool) (hn:nl=true->w.aW.cH=[]) (hl:w.aW.cH.length<=1000000):aC Tryz.prog 118 [j6 nl w.aW] (j6 true (lF w.aW)):=by
 have h0:=h.zt;have h1:=h.zu;have:=TS nl w.aW hn (by unfold jJ;omega) om;rw [if_pos h.pO] at this;exact this
def Gg (nw:Bool) (w:eD):ae:=iY true nw (kb w)
theorem Nb {w:eD} (h:je w) (nl nw:Bool) (hn:nl=true->w.aW.cH=[]) (hl:w.aW.cH.length<=1000000):aC Tryz.prog 125 [iY nl nw w] (Gg nw w):=by
 have hfl:=Nd h nl hn hl;have hb:=h.x8;have hx:=h.sw;have hmk:=h.wC;unfold Gg kb;generalize lF w.aW=D at*;refine cU Tryz.func125 ?_
 conv=>whnf
 refine bn Tryz.func62 ?_
 conv=>whnf
 refine bn Tryz.func65 ?_;refine ak ?_;refine ⟨λh1=>?_,λh1=>?_⟩
 ·have h1:w.gp≠0:=by
   simp_all
  rw [if_neg h1];obtain ⟨k2,k3,k4⟩:=hmk h1;refine ak ?_;rw [bj (x:=(w.oX:Int) - 1) om om,show max (w.gf:Int) ((w.oX:Int) - 1)=((max w.gf (w.oX - 1):Nat):Int) by omega];exact iL.bw _
 ·have h1:w.gp=0:=by simpa using h1
  rw [if_pos h1];exact bm
theorem Js {w:eD} (h:je w):∃ N:Nat,w.aW.bE=(N:Int)/\N<=1000/\fb w.aW=N / 4/\gF w.aW=2*(N / 4)/\∀ q,oZ w.aW q=if q % 2=1 then N / 4 else 0:=by
 have h0:=h.zt;have h1:=h.zu;have hs:fb w.aW=w.aW.bE.toNat / 4:=rfl;refine ⟨w.aW.bE.toNat,om,om,hs,?_,λq=>?_⟩
 ·trivial
 trivial
theorem Gh (nl:Bool) (d:dL) (hc:ef d=true) (hn:nl=true->d.cH=[]) (hl:d.cH.length<=1000000) (a k:Nat) (s:List UInt8) (hk:s.length=16*k) (h:((a+k:Nat):Int)<=d.bE):
  aC Tryz.prog 117 [j6 nl d, .aa .i64 a, .ai s] (.aw [j6 false (jZ d (a:Int) (ew s)), .aa .i64 0]):=by
 obtain ⟨z1,z2,_,_⟩:=mr hc;have h1:=yc hc a k s hk h;have h2:=TW nl d (a:Int) (ew s) hn (by unfold jJ;omega) (by unfold jJ;omega) om (by rw [Mf];omega);rw [h1.1,if_pos rfl] at h2;exact h2
def Nf (nl nw:Bool) (w:eD):ae:= .aw [iY (if w.gp≠2 then nl else false) nw (mv w).1, .aa .i64 ((mv w).2:Nat)]
theorem adz {w:eD} (h:je w) (nl nw:Bool) (hn:nl=true->w.aW.cH=[]) (hnw:nw=true->w.cD=[]) (hl:w.aW.cH.length<=1000000):aC Tryz.prog 128 [iY nl nw w] (Nf nl nw w):=by
 obtain ⟨N,e1,e2,e3,e4,e5⟩:=Js h;have hck:=DD nl w.aW (by grind [jJ]) om;rw [h.pO] at hck;have hst:=Na N om;rw [<-e1] at hst;have hz:=Ng (N - 2*(N / 4)) om;have hwr:=Gh nl w.aW h.pO hn hl (2*(N / 4)) (N - 2*(N / 4)) (tK (N - 2*(N / 4))) (zw _) om;have hcl:=adq nw (gJ (w.cD.drop w.mS)) (λe=>by grind [gJ]) (by grind [zJ,h.sw,h.x8]);have hsz:w.aW.bE.toNat - 2*(N / 4)=N - 2*(N / 4):=om;have hbig:=h.x8;have hnx:=h.sw;have hmk:=h.wC;have hsq:=h.IP;have hel:=zJ w.cD;unfold Nf mv;rw [e4,hsz];generalize jZ w.aW _ _=D at*;refine cU Tryz.func128 ?_
 conv=>whnf
 refine ⟨λh1=>?_,λh1=>?_⟩
 ·have h1:w.gp≠2:=by
   grind
  rw [if_pos h1,if_pos h1];exact bm
 have h1:w.gp=2:=by
  grind
 obtain ⟨k2,k3,k4⟩:=hmk om;rw [if_neg om,if_neg om];refine ak ?_;refine bn Tryz.func62 ?_;refine ak ?_;refine ⟨show 0<=min (max (w.mS:Int) 0) ((gJ w.cD).length:Int)/\(min (max (w.mS:Int) 0) ((gJ w.cD).length:Int)).toNat<=(gJ w.cD).length from ⟨om,om⟩,?_⟩;have hcl2:aC Tryz.prog 107 [.ag nw 1 ((gJ w.cD).drop (min (max (w.mS:Int) 0) ((gJ w.cD).length:Int)).toNat) .av] (.ag nw 1 (gJ (w.cD.drop w.mS)) .av):=by
  rw [show (min (max (w.mS:Int) 0) ((gJ w.cD).length:Int)).toNat=w.mS by omega];have:(gJ w.cD).drop w.mS=gJ (w.cD.drop w.mS):=by unfold gJ;rw [List.map_drop]
  rw [this];exact hcl
 conv=>whnf
 refine ⟨_,rfl,hcl2,?_⟩
 conv=>whnf
 refine ⟨aG,?_⟩
 conv=>whnf
 have hsub:IntKind.i64.wrap (w.aW.bE - ((2*(N / 4):Nat):Int))=((N - 2*(N / 4):Nat):Int):=by grind [bj]
 rw [hsub];refine ak ?_;refine .inr ⟨aG,aG,?_⟩;refine bn Tryz.func116 ?_
 conv=>whnf
 refine bz.eV hwr rfl ?_;refine iV ?_;refine ⟨aG,?_⟩
 conv=>whnf
 rw [bj (x:=(w.cV:Int)+1) om om,bj (x:=(w.oX:Int) - 1) om om];refine iL.mj ?_;show ae.aw [ae.aK [.aa .i64 D.bE, .ai D.jy.data.toList, .ag false 2 (D.cH.map hU) .av, .aa .i64 ((w.cV:Int)+1), .aa .i64 w.oX, .aa .i64 w.cQ, .aa .i64 (2*(N / 4):Nat), .aa .i64 (max (w.gf:Int) ((w.oX:Int) - 1)), .aa .i64 w.FO,
  .ag nw 1 (gJ (w.cD.drop w.mS)) .av, .aE true, .aa .i64 0, .aa .i64 0, .aa .i64 0], .aa .i64 0]=ae.aw [iY false nw _,_]
 rw [show max (w.gf:Int) ((w.oX:Int) - 1)=((max w.gf (w.oX - 1):Nat):Int) by omega];rfl
theorem T4 {w:eD} (h:je w) (nl:Bool) (hn:nl=true->w.aW.cH=[]) (hl:w.aW.cH.length<=1000000):
  ef (gP w).aW=true/\(gP w).aW.bE=w.aW.bE/\((if w.nD=true then true else nl)=true->(gP w).aW.cH=[])/\(gP w).aW.cH.length<=1000000:=by
 obtain ⟨h1,h3⟩:=h.Me;grind [h1.pO,gP,IU h.pO]
theorem adv {n:Nat} {p:List UInt8} (hn:n<=1000001) (hp:p.length<=400):fG (jk n p)<=50:=by
 have h1:=oW (n:=n) om;have h2:=oW (n:=p.length) om;have h3:=FK (lW n p);have h4:(lW n p).length=(bW n).length+((bW p.length).length+p.length):=by grind [lW]
 grind [oW,IN,fG]
theorem adu {n:Nat} {p:List UInt8} (hn:n<=1000001) (hp:p.length<=1200):fG (jk n p)<=100:=by
 have h1:=oW (n:=n) om;have h2:=oW (n:=p.length) om;have h3:=FK (lW n p);have h4:(lW n p).length=(bW n).length+((bW p.length).length+p.length):=by grind [lW]
 grind [oW,IN,fG]
def Bx (w:eD) (s:List UInt8):Bool:=decide (w.gp=0) && (decide (w.cV<200) && decide ((jl (w.cV+1) w.cQ s).length / 16<=fb w.aW))
def tU (nl nw:Bool) (w:eD) (s:List UInt8):ae:= .aw [iY (if Bx w s=true then false else nl) nw (jz w s).1, .aa .i64 ((jz w s).2:Nat)]
theorem adA {w:eD} (h:je w) (nl nw:Bool) (s:List UInt8) (hs:s.length<=1000) (hn:nl=true->w.aW.cH=[]) (hl:w.aW.cH.length<=1000000):aC Tryz.prog 127 [iY nl nw w, .ai s] (tU nl nw w s):=by
 obtain ⟨N,e1,e2,e3,e4,e5⟩:=Js h;have hsq:=h.IP;have hsq1:=h.Md;have hbig:=h.x8;have hnx:=h.sw;have hmt:=T3 w.cQ s om hs;have hpk:=Gf ((w.cV+1:Nat):Int) (gr w.cQ s);have hmay:=Si (q:=w.cV+1) (b:=w.cQ) (st:=s) om om om hs;have q1:wy ((w.cV+1:Nat):Int) (gr w.cQ s)=jl (w.cV+1) w.cQ s:=by unfold wy;rw [if_pos hmay,Int.toNat_natCast];rfl
 have q2:wA ((w.cV+1:Nat):Int) (gr w.cQ s)=0:=by grind [wA]
 rw [q1,q2] at hpk;have hss:=By N om;have hso:=Jr N (w.cV+1) om om;rw [<-e1] at hss hso;rw [<-e5] at hso;have hlen:=FQ (w.cV+1) w.cQ s;have hdiv:(jl (w.cV+1) w.cQ s).length / 16=wD (w.cV+1) w.cQ s:=by rw [hlen];omega
 have hfl:=Nd h nl hn hl;obtain ⟨p1,p2,p3,p4⟩:=T4 h nl hn hl;have hroom:=FR w.aW (w.cV+1);have hwr:=λ(hr:wD (w.cV+1) w.cQ s<=N / 4)=>Gh (if w.nD=true then true else nl) (gP w).aW p1 p3 p4 (oZ w.aW (w.cV+1)) (wD (w.cV+1) w.cQ s) (jl (w.cV+1) w.cQ s) hlen om
 have hml:(jl (w.cV+1) w.cQ s).length<=10000:=by
  have h9:=adu (n:=w.cV+1) (p:=gr w.cQ s) om (by have:=IW (b:=w.cQ) (st:=s) om hs;omega);rw [hlen];show 16*fG (jk (w.cV+1) (gr w.cQ s))<=10000;omega
 have hel:=zJ w.cD;rw [<-p2] at hso;have hR1:w.gp≠0->tU nl nw w s= .aw [iY nl nw w, .aa .i64 140]:=λh1=>by
  grind [tU,jz,Bx]
 have hR2:w.gp=0->200<=w.cV->tU nl nw w s= .aw [iY nl nw w, .aa .i64 193]:=λh1 h2=>by
  unfold tU jz Bx;grind
 have hR3:w.gp=0->¬200<=w.cV->N / 4<wD (w.cV+1) w.cQ s->tU nl nw w s= .aw [iY nl nw w, .aa .i64 120]:=λh1 h2 h3=>by
  unfold tU jz Bx;grind
 have hR4:w.gp=0->¬200<=w.cV->¬N / 4<wD (w.cV+1) w.cQ s->tU nl nw w s= .aw [iY false nw {gP w with aW:=jZ (gP w).aW (oZ w.aW (w.cV+1)) (ew (jl (w.cV+1) w.cQ s)),gp:=1,oX:=w.cQ,mS:=w.cD.length}, .aa .i64 0]:=λh1 h2 h3=>by
  unfold tU jz Bx;grind
 generalize tU nl nw w s=RV at*;have hse:gP w=if w.nD=true then {w with aW:=lF w.aW,nD:=false} else w:=rfl
 generalize jl (w.cV+1) w.cQ s=ms at*;generalize wD (w.cV+1) w.cQ s=k at*;generalize oZ w.aW (w.cV+1)=so at*;refine cU Tryz.func127 ?_
 conv=>whnf
 refine ⟨λh1=>?_,λh1=>?_⟩
 ·have h1:w.gp≠0:=by
   simp_all
  rw [hR1 h1];exact bm
 have h1:w.gp=0:=by simpa using h1
 conv=>whnf
 refine ⟨λh2=>?_,λh2=>?_⟩
 ·have h2:=of_decide_eq_true h2;rw [hR2 h1 om];exact bm
 have h2:=of_decide_eq_false h2;refine ak ?_;have hw1:IntKind.i64.wrap ((w.cV:Int)+1)=((w.cV+1:Nat):Int):=by grind [bj]
 rw [hw1];refine ak ?_;have hq:IntKind.i64.wrap ((ms.length:Int).tdiv 16)=(k:Nat):=by grind [bj]
 rw [hq];refine ⟨λh3=>?_,λh3=>?_⟩
 ·have h3:=of_decide_eq_true h3;rw [hR3 h1 om om];exact bm
 have h3:=of_decide_eq_false h3;rw [hR4 h1 om om];have hwr:=hwr om
 conv=>whnf
 refine bn Tryz.func62 ?_
 conv=>whnf
 refine bn Tryz.func204 ?_
 conv=>whnf
 refine ⟨λhd=>?_,λhd=>?_⟩
 ·rw [hse,if_pos hd] at hwr hso;rw [if_pos hd] at hwr;rw [hse,if_pos hd]
  conv=>whnf
  refine bn Tryz.func65 ?_
  conv=>whnf
  refine bz.eV hfl rfl ?_
  conv=>whnf
  rw [hw1];refine ⟨_,rfl,hso,?_⟩
  conv=>whnf
  refine .inr ⟨aG,aG,?_⟩;refine bn Tryz.func116 ?_;refine ak ?_;rw [hel];exact iL.bw _
 ·have hd':¬w.nD=true:=by rw [hd];simp
  rw [hse,if_neg hd'] at hwr hso;rw [if_neg hd'] at hwr;rw [hse,if_neg hd']
  conv=>whnf
  rw [hw1];refine ak ?_;refine .inr ⟨aG,aG,?_⟩;refine bn Tryz.func116 ?_;refine ak ?_;rw [hel];exact iL.bw _
def wT (d:dL):ae:= .aw [iY (decide ((iX d).x9≠0)) true (iX d).tJ, .ai (iX d).ya, .ag (decide ((iX d).kJ=[])) 1 (gJ (iX d).kJ) .av, .aa .i64 ((iX d).x9:Nat)]
theorem adD (nl:Bool) (d:dL) (hn:nl=true->d.cH=[]) (hsz:jJ d.bE) (hl:d.cH.length<=900000):aC Tryz.prog 102 [j6 nl d] (wT d):=by
 have hck:=DD nl d hsz om;have hR1:ef d=false->wT d= .aw [iY true true De, .ai [], .ag true 1 [] .av, .aa .i64 140]:=λh=>by
  unfold wT iX;rw [if_pos h];rfl
 have hR2:ef d=true->yb d=none->wT d= .aw [iY true true De, .ai [], .ag true 1 [] .av, .aa .i64 140]:=λh h2=>by
  unfold wT iX;rw [if_neg (by rw [h];simp),h2];rfl
 have hR3:∀ q b st,ef d=true->yb d=some (q,b,st)->wT d= .aw [iY false true (IX d q b st).tJ, .ai st, .ag (decide ((lG (k9 d) b).1=[])) 1 (gJ (lG (k9 d) b).1) .av, .aa .i64 0]:=λq b st h h2=>by
  unfold wT iX;rw [if_neg (by rw [h];simp),h2];rfl
 generalize wT d=RV at*;have hbp:=λhc=>adp nl d hc om
 have hbb:=λhc q b st=>Sf (d:=d) hc (q:=q) (b:=b) (st:=st)
 refine cU Tryz.func102 ?_;refine ak ?_;cases hc:ef d with
 |false=>
  rw [hR1 hc];refine ak ?_;exact iL.ml (.aX (Bz (.eR _ _ _) (.eR _ _ _)) (.aX (.bw _) (.aX (.bw _) (.aX (.bw _) .fa))))
 |true=>
 have hbp:=hbp hc;refine ak ?_;rcases hb:yb d with _|⟨q,b,st⟩
 ·rw [hR2 hc hb];simp only [Jq];refine ak ?_;exact iL.ml (.aX (Bz (.eR _ _ _) (.eR _ _ _)) (.aX (.bw _) (.aX (.bw _) (.aX (.bw _) .fa))))
 have hRV:=hR3 q b st hc hb;obtain ⟨q1,q2,b1,b2,_⟩:=hbb hc q b st hb;obtain ⟨z1,z2,_,_⟩:=mr hc;have hstp:=Na d.bE.toNat om;rw [show ((d.bE.toNat:Nat):Int)=d.bE by omega] at hstp;have hst:gF d=2*(d.bE.toNat / 4):=rfl;rw [<-hst] at hstp;have hsl:=Be d;have hrd:=M1 nl d (gF d) (d.bE - gF d) hsz (by unfold jJ;omega) (by unfold jJ;omega) om;have hreg:pK d (gF d) (d.bE - gF d)=k9 d:=rfl;have hrl:=Sk hc;have hall:=adj (k9 d) (b:Int) (by rw [hrl];omega);obtain ⟨ab1,ab2,_,_⟩:=Se (L4 (k9 d) (b:Int));rw [hrl] at ab1;rw [hreg] at hrd;have hcl:=TR nl (d.cH.map hU) (λe=>by rw [hn e];rfl) (by grind);have hend:gF d+(lG (k9 d) b).2<=d.bE.toNat:=om;have hz1:=Ng (d.bE.toNat - (gF d+(lG (k9 d) b).2)) om;have hz2:=Ng (fb d) (by unfold fb;omega);have hw1:=Gh nl d hc hn om (gF d+(lG (k9 d) b).2) (d.bE.toNat - (gF d+(lG (k9 d) b).2)) _ (zw _) om;obtain ⟨v1,v2,v3,v4⟩:=yc hc (gF d+(lG (k9 d) b).2) (d.bE.toNat - (gF d+(lG (k9 d) b).2)) _ (zw _) om;have hrm:=FR d (q+1);have hw2:=Gh false _ v3 (λe=>by cases e) (by rw [v4];omega) (oZ d (q+1)) (fb d) _ (zw _) (by rw [v2];omega);have hso:=Jr d.bE.toNat (q+1) om om;have hss:=By d.bE.toNat om;rw [show ((d.bE.toNat:Nat):Int)=d.bE by omega] at hso hss;have hso2:(if (q+1) % 2=1 then d.bE.toNat / 4 else 0)=oZ d (q+1):=rfl;have hss2:d.bE.toNat / 4=fb d:=rfl;rw [hso2] at hso;rw [hss2] at hss;unfold IX at hRV;clear hR1 hR2 hR3 hbb hb;generalize lG (k9 d) b=AL at ab1 ab2 hend hz1 hw1 hw2 hall v1 v2 v3 v4 hRV;obtain ⟨recs,sec⟩:=AL;simp only at ab1 ab2 hend hz1 hw1 hw2 hRV;generalize hsta:gF d=sta at hstp hst hsl hrd hreg ab1 hend hz1 hw1 hw2 v1 v2 v3 v4 hrm hRV;generalize oZ d (q+1)=so at hw2 hrm hso hso2 hRV;generalize fb d=ss at hz2 hw2 hrm hss hss2 hRV;generalize k9 d=reg at hrd hreg hrl hall ab1 ab2 hRV;generalize A8 d _ _=re at hrd;subst hRV;have hwb:IntKind.i64.wrap ((b:Int)+((gJ recs).length:Int))=((b+recs.length:Nat):Int):=by grind [zJ,bj]
 have hwe:IntKind.i64.wrap ((sta:Int)+(sec:Int))=((sta+sec:Nat):Int):=by grind [bj]
 have hwq:IntKind.i64.wrap ((q:Int)+1)=((q+1:Nat):Int):=by grind [bj]
 have hwn:IntKind.i64.wrap (((b+recs.length:Nat):Int) - 1)=((b+recs.length - 1:Nat):Int):=by grind [bj]
 have hws:IntKind.i64.wrap (d.bE - (sta:Int))=d.bE - (sta:Int):=bj om om;have hwz:IntKind.i64.wrap (d.bE - ((sta+sec:Nat):Int))=((d.bE.toNat - (sta+sec):Nat):Int):=by grind [bj]
 simp only [Jq]
 conv=>whnf
 refine ⟨λh=>?_,λ_=>?_⟩
 ·exfalso;simp_all
 refine ak ?_;rw [hws];refine ak ?_;rw [hwb,hwe];refine bn Tryz.func62 ?_;refine ak ?_;have hz1':=hz1;rw [<-hwz] at hz1';refine ak ?_;refine .inr ⟨aG,aG,?_⟩;refine bn Tryz.func116 ?_;refine ak ?_;have hso':=hso;rw [<-hwq] at hso';refine ak ?_;refine .inr ⟨aG,aG,?_⟩;refine bn Tryz.func116 ?_;refine ak ?_;rw [hwn];exact iL.ml (.aX (Bz (.bw _) (.eR _ _ _)) (.aX (.bw _) (.aX (.bw _) (.aX (.bw _) .fa))))
def oz (w:eD) (k:Nat):List UInt8:=sn (w.cD.take k) ((w.gf+1:Nat):Int)
theorem T9 (w:eD) {k:Nat} (hk:k<w.cD.length):oz w (k+1)=oz w k++iW (w.gf+1+k) w.cD[k]:=by
 unfold oz;rw [List.take_succ_eq_append_getElem hk,R0,List.length_take,show min k w.cD.length=k by omega];grind [sn]
theorem T8 (w:eD) (hw:∀ p∈w.cD,p.length<=200) (hn:w.gf+w.cD.length<=1000000):∀ k,k<=w.cD.length->(oz w k).length<=800*k
 |0,_=>by simp [oz,sn]
 |k+1,hk=>by
  have h1:=T8 w hw hn k om;have hp:=hw _ (List.getElem_mem (show k<w.cD.length by omega));have h2:=adv (n:=w.gf+1+k) (p:=w.cD[k]) om om;have h3:=Db (w.gf+1+k) w.cD[k];grind [T9]
def vd (nl nw:Bool) (w:eD):ae:= .aw [iY (if (j1 w).2=0/\w.cD≠[] then false else nl) (if (j1 w).2=0/\w.cD≠[] then true else nw) (j1 w).1, .aa .i64 ((j1 w).2:Nat)]
theorem T7 {l:List (List UInt8)} {k:Nat} (hk:k<l.length):(gJ l)[k]? =some [.ai l[k]]:=by grind [gJ]
theorem adC {w:eD} (h:je w) (nl nw:Bool) (hn:nl=true->w.aW.cH=[]) (hl:w.aW.cH.length<=900000):aC Tryz.prog 124 [iY nl nw w] (vd nl nw w):=by
 obtain ⟨N,e1,e2,e3,e4,e5⟩:=Js h;have hbig:=h.x8;have hnx:=h.sw;have hb1:=h.Sa;have hrm:=h.FN;have hwts:=h.Dd;have hel:=zJ w.cD;have hsl:=T8 w hwts om;have hfl:=Nd h nl hn om;obtain ⟨p1,p2,p3,p4⟩:=T4 h nl hn om;have hall:ou w=oz w w.cD.length:=by grind [oz,ou]
 have hlen:=Sn w;have hwr:=λ(hr:w.kK+rj w.cD (w.gf+1)<=N)=>Gh (if w.nD=true then true else nl) (gP w).aW p1 p3 p4 w.kK (rj w.cD (w.gf+1)) (ou w) hlen (by rw [p2,e1];omega)
 have hR1:w.gp≠0->vd nl nw w= .aw [iY nl nw w, .aa .i64 140]:=λh1=>by
  grind [j1,vd]
 have hR2:w.gp=0->N<w.kK+rj w.cD (w.gf+1)->vd nl nw w= .aw [iY nl nw w, .aa .i64 120]:=λh1 h2=>by
  have e:j1 w=(w,120):=by unfold j1;grind
  grind [vd]
 have hR3:w.gp=0->¬N<w.kK+rj w.cD (w.gf+1)->w.cD=[]->vd nl nw w= .aw [iY nl nw w, .aa .i64 0]:=λh1 h2 h3=>by
  have e:j1 w=(w,0):=by unfold j1;grind
  grind [vd]
 have hR4:w.gp=0->¬N<w.kK+rj w.cD (w.gf+1)->¬w.cD=[]->vd nl nw w= .aw [iY false true {gP w with aW:=jZ (gP w).aW w.kK (ew (ou w)),kK:=w.kK+rj w.cD (w.gf+1),gf:=w.cQ - 1,cD:=[]}, .aa .i64 0]:=λh1 h2 h3=>by
  have hd:(ou w).length / 16=rj w.cD (w.gf+1):=by rw [hlen];omega
  have e:j1 w=({gP w with aW:=jZ (gP w).aW w.kK (ew (ou w)),kK:=w.kK+rj w.cD (w.gf+1),gf:=w.cQ - 1,cD:=[]},0):=by
   unfold j1;grind
  grind [vd]
 generalize vd nl nw w=RV at*;have hse:gP w=if w.nD=true then {w with aW:=lF w.aW,nD:=false} else w:=rfl
 refine cU Tryz.func124 ?_
 conv=>whnf
 refine ⟨λh1=>?_,λh1=>?_⟩
 ·have h1:w.gp≠0:=by
   simp_all
  rw [hR1 h1];exact bm
 have h1:w.gp=0:=by simpa using h1
 conv=>whnf
 refine db.Rg 6 5 rfl ?_;refine db.cK (λk:Nat=>[(.aj 1, .ah (.ar 0 0)),(.aj 2, .ah (.ar 1 0)),(.aj 4, .ah (.ar 6 0)),(.aj 17, .ah (.ag nw 1 (gJ w.cD) .av)),(.aj 18, .ah (.aa .i64 w.cD.length)),(.aj 19, .ah (.aa .i64 k)),
  (.af 0, .au 47 (yr nl nw w)),(.af 1, .au 47 [.aa .i64 0, .ai [], .ag true 1 [] .bR, .aa .i64 0, .aa .i64 0, .aa .i64 0, .aa .i64 0, .aa .i64 0, .aa .i64 0, .ag true 1 [] .bR, .bo, .aa .i64 0, .aa .i64 0, .aa .i64 0]),
  (.af 6, .au 128 [if k=0 then .bU else .ar 6 0, .ag (decide (oz w k=[])) 1 (eu (oz w k)) (.cO 11)]),(.aJ 11, .aN 5 1 (oz w k).length)])
  12 (λk=>k<=w.cD.length) (λk=>w.cD.length - k) dd 0 (Nat.zero_le _) ⟨rfl,rfl,rfl,rfl,rfl,rfl,rfl,rfl,?_,rfl,rfl,rfl,rfl,rfl,rfl,rfl,rfl,rfl,rfl,rfl,trivial⟩ ?_
 ·show bs.ah (ae.aa .i64 (gJ w.cD).length)=_;rw [hel]
 rintro k hk;have hsk:=hsl k hk;refine cn ?_;refine ⟨λh2=>?_,λh2=>?_⟩
 ·have h2:=of_decide_eq_true h2;have hlt:k<w.cD.length:=om;have hgt:=T7 hlt;have hpl:=hwts _ (List.getElem_mem hlt);have hsu:=T9 w hlt;have hsk1:=hsl (k+1) hlt;have hpk:=Gf ((w.gf+1+k:Nat):Int) w.cD[k];have hmay:ka ((w.gf+1+k:Nat):Int) w.cD[k]=true:=zq.2 ⟨om,om,om⟩;have q1:wy ((w.gf+1+k:Nat):Int) w.cD[k]=iW (w.gf+1+k) w.cD[k]:=by grind [wy]
  have q2:wA ((w.gf+1+k:Nat):Int) w.cD[k]=0:=by grind [wA]
  rw [q1,q2] at hpk;have hw1:IntKind.i64.wrap (IntKind.i64.wrap ((w.gf:Int)+1)+(k:Int))=((w.gf+1+k:Nat):Int):=by rw [bj (x:=(w.gf:Int)+1) om om,bj om om];omega
  rw [<-hw1] at hpk;generalize iW (w.gf+1+k) w.cD[k]=P at*;refine ak ?_;refine bn Tryz.func44 ?_
  conv=>whnf
  refine bz.Rb (lC (fn:=Tryz.f95) aG rfl aG) rfl (by grind) Tv ?_
  conv=>whnf
  rw [hsu,List.length_append] at hsk1;refine ⟨⟨(jY _).symm,⟨by grind [jY],by grind [jY]⟩⟩,?_⟩
  conv=>whnf
  refine ⟨k+1,om,by grind,rfl,rfl,rfl,rfl,rfl,rfl,rfl,rfl,rfl,rfl,?_,rfl,rfl,rfl,rfl,rfl,?_,rfl,?_,rfl,trivial⟩
  ·exact dh
  ·show bs.au _ [ae.ar 6 0,ae.ag (decide (oz w k=[]) && (P.map λc=>[ae.aa .u8 c.toNat]).isEmpty) 1 (eu (oz w k)++P.map λc=>[ae.aa .u8 c.toNat]) (.cO 11)]=bs.au _ [if k+1=0 then ae.bU else ae.ar 6 0,ae.ag (decide (oz w (k+1)=[])) 1 (eu (oz w (k+1))) (.cO 11)];rw [hsu,if_neg (Nat.succ_ne_zero k),eu,eu,List.map_append];have e3:decide (oz w k++P=[])=(decide (oz w k=[]) && (P.map λc=>[ae.aa .u8 c.toNat]).isEmpty):=by
    rw [Bool.eq_iff_iff];simp
   rw [e3]
  ·show bs.aN _ 1 ((eu (oz w k)).length+(P.map λc=>[ae.aa .u8 c.toNat]).length)=bs.aN _ 1 (oz w (k+1)).length;grind [jY]
 ·have h2:=of_decide_eq_false h2;obtain rfl:k=w.cD.length:=om;rw [<-hall] at hsk ⊢
  conv=>whnf
  refine bn Tryz.func203 ?_
  conv=>whnf
  have hq:IntKind.i64.wrap (((eu (ou w)).length:Int).tdiv 16)=(rj w.cD (w.gf+1):Nat):=by grind [jY,bj]
  have hs:IntKind.i64.wrap (w.aW.bE - (w.kK:Int))=w.aW.bE - (w.kK:Int):=bj om om;generalize rj w.cD (w.gf+1)=S at*;refine ⟨λh3=>?_,λh3=>?_⟩
  ·have h3:=of_decide_eq_true h3;rw [hq,hs] at h3;rw [hR2 h1 om];exact bm
  have h3:=of_decide_eq_false h3;rw [hq,hs] at h3
  conv=>whnf
  refine ⟨λh4=>?_,λh4=>?_⟩
  ·have h4:w.cD=[]:=by
    simp_all
   rw [hR3 h1 om h4];exact bm
  have h4:¬w.cD=[]:=by
   simp_all
  rw [hR4 h1 om h4];have hwr:=hwr om;have hwe:IntKind.i64.wrap ((w.kK:Int)+IntKind.i64.wrap (((eu (ou w)).length:Int).tdiv 16))=((w.kK+S:Nat):Int):=by grind [bj]
  have hwn:IntKind.i64.wrap ((w.cQ:Int) - 1)=((w.cQ - 1:Nat):Int):=by grind [bj]
  conv=>whnf
  refine bn Tryz.func62 ?_
  conv=>whnf
  refine bn Tryz.func204 ?_
  conv=>whnf
  refine ⟨λhd=>?_,λhd=>?_⟩
  ·rw [hse,if_pos hd] at hwr;rw [if_pos hd] at hwr;rw [hse,if_pos hd]
   conv=>whnf
   refine bn Tryz.func65 ?_;refine ak ?_;refine .inl ⟨_,_,_,CN.Rk (e:=5) (lC (fn:=Tryz.f45) aG rfl aG) (s:=ou w) rfl rfl (λe=>decide_eq_true e) (λ_=>MO) (λh0=>MP (ou w) h0 om),rfl,?_⟩
   conv=>whnf
   refine .inr ⟨aG,aG,?_⟩;refine bn Tryz.func116 ?_;refine ak ?_;rw [hwe,hwn];exact Jp (Bz (.bw _) (.eR _ _ _)) (.bw _)
  ·have hd':¬w.nD=true:=by rw [hd];simp
   rw [hse,if_neg hd'] at hwr;rw [if_neg hd'] at hwr;rw [hse,if_neg hd']
   conv=>whnf
   refine .inl ⟨_,_,_,CN.Rk (e:=5) (lC (fn:=Tryz.f45) aG rfl aG) (s:=ou w) rfl rfl (λe=>decide_eq_true e) (λ_=>MO) (λh0=>MP (ou w) h0 om),rfl,?_⟩
   conv=>whnf
   refine .inr ⟨aG,aG,?_⟩;refine bn Tryz.func116 ?_;refine ak ?_;rw [hwe,hwn];exact Jp (Bz (.bw _) (.eR _ _ _)) (.bw _)
theorem T6 {w:eD} (h:je w) (nl:Bool) (p:List UInt8) (hp:p.length<=1000) (hn:nl=true->w.aW.cH=[]) (hl:w.aW.cH.length<=900000):
  aC Tryz.prog 106 [j6 nl w.aW, .ai p] (j6 true (jO w.aW (ew p)))/\
  aC Tryz.prog 102 [j6 true (jO w.aW (ew p))] (wT (jO w.aW (ew p))):=by
 have h0:=h.zt;have h1:=h.zu;obtain ⟨a1,a2,a3⟩:=Sh h.pO (ew p);have hc:=ac5 nl w.aW (ew p) hn (by unfold jJ;omega) om (by rw [Mf];omega);rw [if_pos h.pO] at hc;exact ⟨hc,adD true (jO w.aW (ew p)) (λ_=>a3) (by grind [jJ]) (by rw [a3];decide)⟩
theorem adE (n:Nat) (h:n<9223372036854775808):(bW n).length<=9:=by
 have h1:=Ts n h;have h2:=Dl n h;have h3:(MN n).size=(bW n).length:=rfl;omega
theorem Ua (zs:List Nat) (h:∀ z∈zs,z<9223372036854775808):(iv zs).length<=9*zs.length:=by
 induction zs with
 |nil=>simp [iv]
 |cons z zs ih=>
  grind [adE,iv]
theorem adF (o:aH) (b:List UInt8) (hp:0<=o.gg/\o.gg<134217856) (hb:b.length<=100000000) (hn:o.j4.length<=1048576):aC Tryz.prog 330 [mV o, .ai b] (.ai (jA (b++iv [o.gg.toNat]) o.j4)):=by
 have h1:=F8 b false [o.gg] (λz hz=>by grind) (by simp;omega);have h2:=Dv (b++iv [o.gg.toNat]) o.j4 (by
  have:=Ua [o.gg.toNat] (λz hz=>by grind);grind)
 refine bK Tryz.func330 ?_;exact dC
theorem adG (o:aH) (b:List UInt8) (hb:b.length<=100000000) (hn:o.j3.length<=1048576):aC Tryz.prog 332 [mV o, .ai b] (.ai (jA b o.j3)):=by
 have h2:=Dv b o.j3 om;refine bK Tryz.func332 ?_;exact dC
theorem Ub (b:List UInt8) (o:aH) (hf:lZ o) (hb:b.length<=10000000):aC Tryz.prog 43 [.ai b,mV o] (.aw [.ai (zx b o), .aa .i64 (zy o)]):=by
 have h0:=Bv o hf;unfold zx zy;cases hc:cJ o with
 |false=>
  rw [hc] at h0;rw [if_neg dd,if_neg dd];refine bK Tryz.func43 ?_;exact dC
 |true=>
  rw [hc] at h0;obtain ⟨b1,b2,b3,b4,b5⟩:=Di hc;rw [if_pos rfl,if_pos rfl];have h1:=F8 b false [o.aT.dg,o.aT.dS,o.fc,o.aY] (λz hz=>by
   grind) (by simp;omega)
  have h2:=MT o;have hm:(iv ([o.aT.dg,o.aT.dS,o.fc,o.aY].map Int.toNat)).length<=36:=Ua _ (λz hz=>by
   grind)
  have hh:Dj o=iv ([o.aT.dg,o.aT.dS,o.fc,o.aY].map Int.toNat):=rfl;unfold wR at h2
  by_cases k1:o.fc=1
  ·rw [if_pos k1] at h2;have h3:=adF o (b++iv ([o.aT.dg,o.aT.dS,o.fc,o.aY].map Int.toNat)) b5 (by grind) hf.MR;have hbytes:b++dM o=jA (b++iv ([o.aT.dg,o.aT.dS,o.fc,o.aY].map Int.toNat)++iv [o.gg.toNat]) o.j4:=by
    grind [dM,jA]
   refine bK Tryz.func43 ?_
   conv=>whnf
   refine bz.eV h0 rfl ?_
   conv=>whnf
   refine ⟨λh=>absurd h dd,λ_=>?_⟩
   conv=>whnf
   refine bz.eV h1 rfl ?_
   conv=>whnf
   refine bz.eV h2 rfl ?_
   conv=>whnf
   refine ⟨330,aG,bz.eV h3 rfl ?_⟩
   conv=>whnf
   rw [hbytes]
  ·have k2:o.fc=2:=om;rw [if_neg k1,if_pos k2] at h2;have h3:=adG o (b++iv ([o.aT.dg,o.aT.dS,o.fc,o.aY].map Int.toNat)) (by grind) hf.TD;have hbytes:b++dM o=jA (b++iv ([o.aT.dg,o.aT.dS,o.fc,o.aY].map Int.toNat)) o.j3:=by
    grind [dM,jA]
   refine bK Tryz.func43 ?_
   conv=>whnf
   refine bz.eV h0 rfl ?_
   conv=>whnf
   refine ⟨λh=>absurd h dd,λ_=>?_⟩
   conv=>whnf
   refine bz.eV h1 rfl ?_
   conv=>whnf
   refine bz.eV h2 rfl ?_
   conv=>whnf
   refine ⟨332,aG,bz.eV h3 rfl ?_⟩
   conv=>whnf
   rw [hbytes]
end Go.Proofs.YtffboamedcmpaaaGreatDoor
namespace Gw
def tV (o:aH) (rest:List UInt8):Option (aH×List UInt8):=if cJ o=true then some (o,rest) else none
def mW (mk:List UInt8->aH) (rest:List UInt8):Option (aH×List UInt8):=match Go.Proofs.YtffboamedcmpaaaGreatDoor.pL rest with
 |none=>none
 |some (n,u)=>tV (mk ((rest.drop u).take n)) (rest.drop (u+n))
def yu (c r n p:Nat) (rest:List UInt8):Option (aH×List UInt8):=mW (λt=>⟨⟨c,r⟩,1,n,p,t,[]⟩) rest
def tW (c r n:Nat) (rest:List UInt8):Option (aH×List UInt8):=match gI rest with|none=>none|some (p,u)=>yu c r n p (rest.drop u)
def vh (c r k n:Nat) (rest:List UInt8):Option (aH×List UInt8):=
 if k=1 then tW c r n rest else mW (λt=>⟨⟨c,r⟩,k,n,0,[],t⟩) rest
def wW (c r k:Nat) (rest:List UInt8):Option (aH×List UInt8):=match gI rest with|none=>none|some (n,u)=>vh c r k n (rest.drop u)
def wV (c r:Nat) (rest:List UInt8):Option (aH×List UInt8):=match gI rest with|none=>none|some (k,u)=>wW c r k (rest.drop u)
def wU (c:Nat) (rest:List UInt8):Option (aH×List UInt8):=match gI rest with|none=>none|some (r,u)=>wV c r (rest.drop u)
def kO (rest:List UInt8):Option (aH×List UInt8):=match gI rest with|none=>none|some (c,u)=>wU c (rest.drop u)
end Gw
namespace Go.Proofs.YtffboamedcmpaaaGreatDoor
open Gw
open Go.Am
def adK (x:Option (aH×List UInt8)):ae:=match x with
 |none=> .aw [.aK [.aa .i64 0, .aa .i64 0, .aa .i64 0, .aa .i64 0, .aa .i64 0, .ai [], .ai []], .ai [], .aa .i64 50]
 |some (o,rest)=> .aw [mV o, .ai rest, .aa .i64 0]
theorem adI (o:aH) (h:o.fc=1):wR o= .cm 287 (mV o):=by unfold wR;rw [if_pos h]
theorem adJ (o:aH) (h1:¬o.fc=1) (h2:o.fc=2):wR o= .cm 288 (mV o):=by unfold wR;rw [if_neg h1,if_pos h2]
theorem adH (o:aH) (h1:¬o.fc=1) (h2:¬o.fc=2):wR o= .cq:=by unfold wR;rw [if_neg h1,if_neg h2]
theorem Ud {s:List UInt8} (h:gI s=none):pS s= .aw [.aa .i64 0, .ai [], .aa .i64 40]:=by unfold pS;rw [h]
theorem Ue {s:List UInt8} {n u:Nat} (h:gI s=some (n,u)):pS s= .aw [.aa .i64 (n:Int), .ai (s.drop u), .aa .i64 0]:=by unfold pS;rw [h]
theorem Uc {s:List UInt8} {n u:Nat} (h:gI s=some (n,u)):n<9223372036854775808:=(Dm s 0 0 n u om h).2.2
def adL (b:List UInt8) (x:List Nat×List UInt8):Prop:=x.2.length<=1048576/\(∀ n∈x.1,n<9223372036854775808)/\match x.1 with
 |[]=>kO b=kO x.2
 |[c]=>kO b=wU c x.2
 |[c,r]=>kO b=wV c r x.2
 |[c,r,k]=>kO b=wW c r k x.2
 |[c,r,k,n]=>kO b=vh c r k n x.2
 |_=>False
def adM (c r n:Nat) (ans:Option (aH×List UInt8)) (x:List Nat×List UInt8):Prop:=x.2.length<=1048576/\(∀ n∈x.1,n<9223372036854775808)/\match x.1 with
 |[]=>ans=tW c r n x.2
 |[p]=>ans=yu c r n p x.2
 |_=>False
theorem Nh (b:List UInt8) (hb:b.length<=1048576):aC Tryz.prog 104 [.ai b] (adK (kO b)):=by
 refine bK Tryz.func104 ?_
 conv=>whnf
 refine bn Tryz.func176 ?_
 conv=>whnf
 refine db.cK (X:=List Nat×List UInt8) (λx=>[(.aj 0, .ah (.ai x.2)),(.aj 11, .ah (.aL 11 0 1 4 false)),(.aj 12, .ah (.aa .i64 4)),(.aj 13, .ah (.aa .i64 x.1.length)),
  (.af 0, .au 130 [.aa .i64 0, .aa .i64 0, .aa .i64 0, .aa .i64 0, .aa .i64 0, .ai [], .ai []]),
  (.af 3, .au 130 [.aa .i64 (x.1.getD 0 0:Nat), .aa .i64 (x.1.getD 1 0:Nat), .aa .i64 (x.1.getD 2 0:Nat), .aa .i64 (x.1.getD 3 0:Nat), .aa .i64 0, .ai [], .ai []]),
  (.af 11, .au 308 [.ar 3 0, .ar 3 1, .ar 3 2, .ar 3 3])]) 12 (adL b) (λx=>4 - x.1.length) dd ([],b) ⟨hb,(λn hn=>by cases hn),rfl⟩
  ⟨rfl,rfl,rfl,rfl,rfl,rfl,rfl,rfl,rfl,rfl,rfl,rfl,rfl,rfl,trivial⟩ ?_
 rintro ⟨nums,rest⟩ ⟨hl,hn,hI⟩;simp only at hl hn hI;have hv:=F9 rest om;refine cn ?_
 by_cases h4:nums.length<4
 ·have hz4:IntKind.i64.wrap ((nums.length:Int)+1)=((nums.length+1:Nat):Int):=by rw [bj om om];rfl
  rcases nums with _|⟨c,_|⟨r,_|⟨k,_|⟨n,l⟩⟩⟩⟩
  all_goals first|(exfalso;simp only [List.length_cons] at h4;omega)|skip
  all_goals
   cases ht:gI rest with
   |none=>
    have e:kO b=none:=Eq.trans hI (by simp only [kO,wU,wV,wW,ht]);rw [Ud ht] at hv;rw [e];refine mq ?_;refine ⟨by simp,?_⟩;refine cC ?_;exact dC
   |some nu=>
    obtain ⟨y,u⟩:=nu;have hy:=Uc ht;rw [Ue ht] at hv;refine mq ?_;refine ⟨by simp,?_⟩;refine cC ?_;refine cC ?_;refine ⟨(_++[y],rest.drop u),⟨by show (rest.drop u).length<=_;rw [List.length_drop];omega,λz hz=>(List.mem_append.1 hz).elim (hn z) λh=>List.mem_singleton.1 h▸hy,Eq.trans hI (by simp only [kO,wU,wV,wW,ht];try rfl)⟩,by show 4 - _<4 - _;simp,rfl,rfl,rfl,rfl,rfl,rfl,congrArg (λn=>bs.ah (.aa .i64 n)) hz4,rfl,rfl,rfl,rfl,rfl,rfl,rfl,trivial⟩
 match nums,hn,hI with
 |[],_,_|[_],_,_|[_,_],_,_|[_,_,_],_,_=>exact absurd (by simp) h4
 |[c,r,k,n],hn,hI=>
  have hcb:=hn c (by simp);have hrb:=hn r (by simp);have hkb:=hn k (by simp);have hnb:=hn n (by simp);refine mq ?_;have hk0:=MT ⟨⟨c,r⟩,k,n,0,[],[]⟩;have hI:kO b=vh c r k n rest:=hI;rw [hI]
  by_cases k1:k=1
  ·subst k1;rw [adI _ (show ((1:Nat):Int)=1 from rfl)] at hk0;unfold vh;rw [if_pos rfl];refine cC ?_;refine bn Tryz.func176 ?_
   conv=>whnf
   refine db.cK (X:=List Nat×List UInt8) (λx=>[(.aj 0, .ah (.ai x.2)),(.aj 11, .ah (.aL 38 0 1 1 false)),(.aj 12, .ah (.aa .i64 1)),(.aj 13, .ah (.aa .i64 x.1.length)),
    (.af 0, .au 130 [.aa .i64 0, .aa .i64 0, .aa .i64 0, .aa .i64 0, .aa .i64 0, .ai [], .ai []]),
    (.af 3, .au 130 [.aa .i64 c, .aa .i64 r, .aa .i64 (1:Nat), .aa .i64 n, .aa .i64 (x.1.getD 0 0:Nat), .ai [], .ai []]),
    (.af 38, .au 308 [.ar 3 4])]) 39 (adM c r n (tW c r n rest)) (λx=>1 - x.1.length) dd ([],rest) ⟨hl,(λn hn=>by cases hn),rfl⟩
    ⟨rfl,rfl,rfl,rfl,rfl,rfl,rfl,rfl,rfl,rfl,rfl,rfl,rfl,rfl,trivial⟩ ?_
   generalize tW c r n rest=ans;rintro ⟨ps,rs⟩ ⟨hl2,hn2,hI2⟩;simp only at hl2 hn2 hI2;have hv2:=F9 rs om;refine cn ?_
   match ps,hn2,hI2 with
   |[],hn2,hI2=>
    have hI2:ans=tW c r n rs:=hI2;refine mq ?_;refine ⟨by simp,?_⟩
    conv=>whnf
    cases ht:gI rs with
    |none=>
     have e:ans=none:=by rw [hI2];unfold tW;rw [ht]
     rw [Ud ht] at hv2;rw [e];exact dC
    |some nu=>
     obtain ⟨y,u⟩:=nu;have hy:=Uc ht;rw [Ue ht] at hv2;refine bz.eV hv2 rfl ?_
     conv=>whnf
     refine ⟨λh=>absurd h dd,λ_=>?_⟩
     conv=>whnf
     refine ⟨([y],rs.drop u),⟨by show (rs.drop u).length<=_;rw [List.length_drop];omega,λz hz=>?_,?_⟩,by show 1 - _<1 - _;simp,rfl,rfl,rfl,rfl,rfl,rfl,?_,rfl,rfl,rfl,rfl,rfl,rfl,rfl,trivial⟩
     ·have hz:z∈[y]:=hz;rw [List.mem_singleton.1 hz];exact hy
     ·show ans=yu c r n y (rs.drop u);rw [hI2];unfold tW;rw [ht]
     ·show bs.ah (ae.aa .i64 (IntKind.i64.wrap ((([]:List Nat).length:Int)+1)))=_;rw [bj (by simp) (by simp)];rfl
   |[p],hn2,hI2=>
    have hpb:=hn2 p (by simp);have hI2:ans=yu c r n p rs:=hI2;rw [hI2];unfold yu;refine mq ?_;have htx:=Du rs om;cases hx:pL rs with
    |none=>
     have e:mW (λt=>⟨⟨c,r⟩,1,n,p,t,[]⟩) rs=none:=by unfold mW;rw [hx]
     have ev:pg rs= .aw [.ai [], .ai [], .aa .i64 40]:=by unfold pg;rw [hx]
     rw [ev] at htx;rw [e];exact dC
    |some mu=>
     obtain ⟨m,u⟩:=mu;have ev:pg rs= .aw [.ai ((rs.drop u).take m), .ai (rs.drop (u+m)), .aa .i64 0]:=by unfold pg;rw [hx]
     have htl:((rs.drop u).take m).length<=1048576:=by rw [List.length_take,List.length_drop];omega
     have e:mW (λt=>⟨⟨c,r⟩,1,n,p,t,[]⟩) rs=tV ⟨⟨c,r⟩,1,n,p,((rs.drop u).take m),[]⟩ (rs.drop (u+m)):=by unfold mW;rw [hx]
     rw [ev] at htx;rw [e];have hck:=Bv ⟨⟨c,r⟩,1,n,p,((rs.drop u).take m),[]⟩ ⟨by unfold dX;simp only;omega,by unfold dX;simp only;omega,htl,by simp⟩;refine cC ?_;unfold tV;cases hc:cJ ⟨⟨c,r⟩,1,n,p,((rs.drop u).take m),[]⟩ with
     |false=>
      rw [hc] at hck;rw [if_neg dd];exact dC
     |true=>
      rw [hc] at hck;rw [if_pos rfl];exact dC
   |_::_::_,hn2,hI2=>exact hI2.elim
  ·have k1':¬(k:Int)=1:=om;unfold vh;rw [if_neg k1]
   by_cases k2:(k:Int)=2
   ·rw [adJ _ k1' k2] at hk0;refine cC ?_;have htx:=Du rest om;cases hx:pL rest with
    |none=>
     have e:mW (λt=>⟨⟨c,r⟩,k,n,0,[],t⟩) rest=none:=by unfold mW;rw [hx]
     have ev:pg rest= .aw [.ai [], .ai [], .aa .i64 40]:=by unfold pg;rw [hx]
     rw [ev] at htx;rw [e];exact dC
    |some mu=>
     obtain ⟨m,u⟩:=mu;have ev:pg rest= .aw [.ai ((rest.drop u).take m), .ai (rest.drop (u+m)), .aa .i64 0]:=by unfold pg;rw [hx]
     have htl:((rest.drop u).take m).length<=1048576:=by rw [List.length_take,List.length_drop];omega
     have e:mW (λt=>⟨⟨c,r⟩,k,n,0,[],t⟩) rest=tV ⟨⟨c,r⟩,k,n,0,[],((rest.drop u).take m)⟩ (rest.drop (u+m)):=by unfold mW;rw [hx]
     rw [ev] at htx;rw [e];have hck:=Bv ⟨⟨c,r⟩,k,n,0,[],((rest.drop u).take m)⟩ ⟨by unfold dX;simp only;omega,by unfold dX;simp only;omega,by simp,htl⟩;refine cC ?_;unfold tV;cases hc:cJ ⟨⟨c,r⟩,k,n,0,[],((rest.drop u).take m)⟩ with
     |false=>
      rw [hc] at hck;rw [if_neg dd];exact dC
     |true=>
      rw [hc] at hck;rw [if_pos rfl];exact dC
   ·rw [adH _ k1' k2] at hk0;refine cC ?_;have htx:=Du rest om;cases hx:pL rest with
    |none=>
     have e:mW (λt=>⟨⟨c,r⟩,k,n,0,[],t⟩) rest=none:=by unfold mW;rw [hx]
     have ev:pg rest= .aw [.ai [], .ai [], .aa .i64 40]:=by unfold pg;rw [hx]
     rw [ev] at htx;rw [e];exact dC
    |some mu=>
     obtain ⟨m,u⟩:=mu;have ev:pg rest= .aw [.ai ((rest.drop u).take m), .ai (rest.drop (u+m)), .aa .i64 0]:=by unfold pg;rw [hx]
     have htl:((rest.drop u).take m).length<=1048576:=by rw [List.length_take,List.length_drop];omega
     have e:mW (λt=>⟨⟨c,r⟩,k,n,0,[],t⟩) rest=tV ⟨⟨c,r⟩,k,n,0,[],((rest.drop u).take m)⟩ (rest.drop (u+m)):=by unfold mW;rw [hx]
     rw [ev] at htx;rw [e];have hck:=Bv ⟨⟨c,r⟩,k,n,0,[],((rest.drop u).take m)⟩ ⟨by unfold dX;simp only;omega,by unfold dX;simp only;omega,by simp,htl⟩;refine cC ?_;unfold tV;cases hc:cJ ⟨⟨c,r⟩,k,n,0,[],((rest.drop u).take m)⟩ with
     |false=>
      rw [hc] at hck;rw [if_neg dd];exact dC
     |true=>
      rw [hc] at hck;rw [if_pos rfl];exact dC
 |_::_::_::_::_::_,hn,hI=>exact hI.elim
end Go.Proofs.YtffboamedcmpaaaGreatDoor
namespace Gw
theorem Uv {mk:List UInt8->aH} {rest r:List UInt8} {o:aH} (h:mW mk rest=some (o,r)):r.length<=rest.length:=by
 unfold mW tV at h;split at h
 ·cases h
 ·split at h
  ·simp only [Option.some.injEq,Prod.mk.injEq] at h;rw [<-h.2,List.length_drop];omega
  ·cases h
theorem aej {c r n:Nat} {rest q:List UInt8} {o:aH} (h:tW c r n rest=some (o,q)):q.length<=rest.length:=by
 unfold tW yu at h;split at h
 ·cases h
 ·have:=Uv h;rw [List.length_drop] at this;omega
theorem aek {c r k n:Nat} {rest q:List UInt8} {o:aH} (h:vh c r k n rest=some (o,q)):q.length<=rest.length:=by
 unfold vh at h;split at h
 ·exact aej h
 ·exact Uv h
theorem aei {c r k:Nat} {rest q:List UInt8} {o:aH} (h:wW c r k rest=some (o,q)):q.length<=rest.length:=by
 unfold wW at h;split at h
 ·cases h
 ·have:=aek h;rw [List.length_drop] at this;omega
theorem aeh {c r:Nat} {rest q:List UInt8} {o:aH} (h:wV c r rest=some (o,q)):q.length<=rest.length:=by
 unfold wV at h;split at h
 ·cases h
 ·have:=aei h;rw [List.length_drop] at this;omega
theorem aeg {c:Nat} {rest q:List UInt8} {o:aH} (h:wU c rest=some (o,q)):q.length<=rest.length:=by
 unfold wU at h;split at h
 ·cases h
 ·have:=aeh h;rw [List.length_drop] at this;omega
theorem Np {rest q:List UInt8} {o:aH} (h:kO rest=some (o,q)):q.length<rest.length:=by
 unfold kO at h;split at h
 ·cases h
 ·rename_i n u hn;have h1:=aeg h;have h2:=Dm rest 0 0 n u om hn;rw [List.length_drop] at h1;omega
def mB:Nat->List UInt8->List aH->Option (List aH)
 |0,_,acc=>some acc
 |f+1,b,acc=>if b=[] then some acc else match kO b with
  |none=>none
  |some (o,r)=>mB f r (acc++[o])
def pV (b:List UInt8):Option (List aH):=mB (b.length+1) b []
end Gw
namespace Go.Proofs.YtffboamedcmpaaaGreatDoor
open Gw
open Go.Am
def adN (x:Option (List aH)):ae:=match x with
 |none=> .aw [.ag true 7 [] .av, .aa .i64 50]
 |some l=> .aw [.ag (decide (l=[])) 7 (iw l) .av, .aa .i64 0]
theorem adO (b:List UInt8) (hb:b.length<=1048576):aC Tryz.prog 103 [.ai b] (adN (pV b)):=by
 refine cU Tryz.func103 ?_
 conv=>whnf
 refine db.zd 4 130 7 rfl rfl (.inr rfl) ?_;refine db.cK (X:=List UInt8×List aH) (λx=>[(.aj 0, .ah (.ai x.1)),(.aj 4, .ah (.ag (decide (x.2=[])) 7 (iw x.2) (.dB 3))),(.aJ 3, .aN 130 7 x.2.length)]) 4
  (λx=>x.1.length+x.2.length<=1048576/\∃ f,x.1.length<f/\pV b=mB f x.1 x.2) (λx=>x.1.length) dd (b,[]) ⟨by simpa using hb,b.length+1,Nat.lt_succ_self _,rfl⟩ ⟨rfl,rfl,rfl,rfl,rfl,rfl,trivial⟩ ?_
 rintro ⟨rest,acc⟩ ⟨h1,f,hf,hr⟩;simp only at h1 hf hr;have htk:=Nh rest om;have hal:=Jh acc;refine cn ?_;refine ⟨λh=>?_,λh=>?_⟩
 ·have h:rest≠[]:=by
   simp_all
  obtain ⟨f,rfl⟩:∃ g,f=g+1:=⟨f - 1,om⟩;rw [mB,if_neg h] at hr
  conv=>whnf
  cases ht:kO rest with
  |none=>
   rw [ht] at htk hr;simp only at hr;rw [hr];refine ak ?_;exact iL.ml (.aX (.eR _ _ _) (.aX (.mj rfl) .fa))
  |some oq=>
   obtain ⟨o,q⟩:=oq;have hlen:=Np ht;rw [ht] at htk hr;simp only at hr;refine ak ?_;refine ⟨⟨hal.symm,dG (by grind) dd⟩,?_⟩
   conv=>whnf
   refine ⟨(q,acc++[o]),⟨by grind,f,by grind,hr⟩,hlen,rfl,rfl,?_,rfl,?_,rfl,trivial⟩
   ·show bs.ah (ae.ag (decide (acc=[]) && false) 7 (iw acc++[cI o]) _)=bs.ah (ae.ag (decide (acc++[o]=[])) 7 (iw (acc++[o])) _);rw [Bool.and_false,decide_eq_false (by simp),iw,iw,List.map_append];rfl
   ·show bs.aN _ 7 ((iw acc).length+1)=bs.aN _ 7 (acc++[o]).length;simp_all
 ·have h:rest=[]:=by
   simp_all
  have e:mB f rest acc=some acc:=by
   cases f with
   |zero=>rfl
   |succ f=>rw [mB,if_pos h]
  rw [e] at hr;rw [hr];exact bm
def iZ (l:List aH):List UInt8:=l.flatMap dM
theorem adQ {l:List aH} {k:Nat} (hk:k<l.length):iZ (l.take (k+1))=iZ (l.take k)++dM l[k]:=by
 grind [iZ,List.take_succ_eq_append_getElem]
theorem adP (nil:Bool) (l:List aH) (hf:∀ o∈l,lZ o) (hl:l.length<=1048576) (hb:∀ k,k<=l.length->(l.take k).all cJ=true->(iZ (l.take k)).length<=1000000000000):
  aC Tryz.prog 21 [.ag nil 7 (iw l) .av] (.aw [.ai (if l.all cJ=true then iZ l else []), .aa .i64 (if l.all cJ=true then 0 else 50)]):=by
 have hal:=Jh l;refine bK Tryz.func21 ?_
 conv=>whnf
 refine db.Rg 2 5 rfl ?_;refine db.cK (λk:Nat=>[(.aj 4, .ah (.ar 2 0)),(.aj 9, .ah (.ag nil 7 (iw l) .av)),(.aj 10, .ah (.aa .i64 l.length)),(.aj 11, .ah (.aa .i64 k)),(.af 2, .au 128 [if k=0 then .bU else .ar 2 0, .ag (decide (iZ (l.take k)=[])) 1 (eu (iZ (l.take k))) (.cO 6)]),(.aJ 6, .aN 5 1 (iZ (l.take k)).length)])
  7 (λk=>k<=l.length/\(l.take k).all cJ=true) (λk=>l.length - k) dd 0 ⟨Nat.zero_le _,rfl⟩ ⟨rfl,rfl,rfl,rfl,?_,rfl,rfl,rfl,rfl,rfl,rfl,rfl,trivial⟩ ?_
 ·show bs.ah (ae.aa .i64 (iw l).length)=_;rw [hal]
 rintro k ⟨hk,hall⟩;have hbk:=hb k hk hall;refine cn ?_;refine ⟨λh=>?_,λh=>?_⟩
 ·have h:=of_decide_eq_true h;have hlt:k<l.length:=om;have hel:=acG hlt;have hfo:=hf l[k] (List.getElem_mem hlt);have hput:=Ub [] l[k] hfo dd;have hno:cJ l[k]=false->¬(l.all cJ=true):=λh2 h3=>by
   simp_all
  have hsu:=adQ hlt;have htk:l.take (k+1)=l.take k++[l[k]]:=List.take_succ_eq_append_getElem hlt;have hbs:=hb (k+1) om;unfold cI at hel;unfold mV at hput
  conv=>whnf
  refine ⟨_,⟨om,hel⟩,?_⟩
  conv=>whnf
  cases hck:cJ l[k] with
  |false=>
   have e1:zx [] l[k]=[]:=by grind [zx]
   have e2:zy l[k]=50:=by grind [zy]
   rw [e1,e2] at hput;refine ak ?_;grind
  |true=>
   have e1:zx [] l[k]=dM l[k]:=by grind [zx]
   have e2:zy l[k]=0:=by grind [zy]
   rw [e1,e2] at hput;refine ak ?_;refine bn Tryz.func44 ?_
   conv=>whnf
   refine bz.Rb (lC (fn:=Tryz.f95) aG rfl aG) rfl (by grind) Tv ?_
   conv=>whnf
   have hbl:=hbs (by grind);rw [hsu,List.length_append] at hbl;refine ⟨⟨(jY _).symm,⟨by grind [jY],by grind [jY]⟩⟩,?_⟩
   conv=>whnf
   refine ⟨k+1,⟨om,by grind⟩,by grind,rfl,rfl,rfl,rfl,rfl,rfl,?_,rfl,?_,rfl,?_,rfl,trivial⟩
   ·exact dh
   ·show bs.au _ [ae.ar 2 0,ae.ag (decide (iZ (l.take k)=[]) && ((dM l[k]).map λc=>[ae.aa .u8 c.toNat]).isEmpty) 1 (eu (iZ (l.take k))++(dM l[k]).map λc=>[ae.aa .u8 c.toNat]) (.cO 6)]=bs.au _ [if k+1=0 then ae.bU else ae.ar 2 0,ae.ag (decide (iZ (l.take (k+1))=[])) 1 (eu (iZ (l.take (k+1)))) (.cO 6)];rw [hsu,if_neg (Nat.succ_ne_zero k),eu,eu,List.map_append];have e3:decide (iZ (l.take k)++dM l[k]=[])=(decide (iZ (l.take k)=[]) && ((dM l[k]).map λc=>[ae.aa .u8 c.toNat]).isEmpty):=by
     rw [Bool.eq_iff_iff];simp
    rw [e3]
   ·show bs.aN _ 1 ((eu (iZ (l.take k))).length+((dM l[k]).map λc=>[ae.aa .u8 c.toNat]).length)=bs.aN _ 1 (iZ (l.take (k+1))).length;grind [jY]
 ·have h:=of_decide_eq_false h;obtain rfl:k=l.length:=om;rw [List.take_length] at hall hbk;rw [List.take_length,if_pos hall,if_pos hall]
  conv=>whnf
  refine bz.Z6 (e:=5) (lC (fn:=Tryz.f45) aG rfl aG) (s:=iZ l) rfl rfl (λe=>decide_eq_true e) (λ_=>MO) (λh0=>MP (iZ l) h0 hbk) ?_
  conv=>whnf
end Go.Proofs.YtffboamedcmpaaaGreatDoor
