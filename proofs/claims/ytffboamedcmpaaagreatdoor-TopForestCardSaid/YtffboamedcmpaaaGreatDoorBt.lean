import Derived.Test.YtffboamedcmpaaaGreatDoorBs
set_option linter.all false
set_option maxHeartbeats 4000000
set_option maxRecDepth 100000
namespace Go.Proofs.YtffboamedcmpaaaGreatDoor
open Gw
open Go.Am
theorem aje (y:aV) (who:Int) (u:dt) (full:Bool) (l pad:List fI) (hl:l.length<=1048576):bz Tryz.prog 230 [.aL 43 0 2 l.length full, .aP 192 [] [.ar 32 0]] (aD [(.af 43, .aR 331 (((l++pad).map dz).flatten)),(.af 16, .au 235 (nf y who u y.aq.ab.length)),(.af 31, .aR 78 ((y.aq.ab.map cr).flatten)),(.af 32, .au 231 [.ar 16 0])]) 44 (cG 44 (λx es=>x= .cE (.aa .i64 (fR (λw=>decide (w.fJ=who)) l))/\es=[(.af 43, .aR 331 (((l++pad).map dz).flatten)),(.af 16, .au 235 (nf y who u y.aq.ab.length)),(.af 31, .aR 78 ((y.aq.ab.map cr).flatten)),(.af 32, .au 231 [.ar 16 0])])):=zW Tryz.func230 Tryz.func192 hl
theorem ajd (y:aV) (who:Int) (u:dt) (full:Bool) (l:List fI) (hl:l.length<=1048576):bz Tryz.prog 193 [.aL 43 0 2 l.length full, .aP 192 [] [.ar 32 0]] (aD [(.af 43, .aR 331 (((l).map dz).flatten)),(.af 16, .au 235 (nf y who u y.aq.ab.length)),(.af 31, .aR 78 ((y.aq.ab.map cr).flatten)),(.af 32, .au 231 [.ar 16 0])]) 44 (cG 44 (λx es=>x= .cE (.aL 43 0 2 (l.filter λa=>!(λw=>decide (w.fJ=who)) a).length full)/\es=[(.af 43, .aR 331 (((l.filter λa=>!(λw=>decide (w.fJ=who)) a).map dz).flatten)),(.af 16, .au 235 (nf y who u y.aq.ab.length)),(.af 31, .aR 78 ((y.aq.ab.map cr).flatten)),(.af 32, .au 231 [.ar 16 0])])):=by
 have hi:=aje y who u full l [] hl;rw [List.append_nil] at hi;exact GH Tryz.func193 Tryz.func192 hl hi
end Go.Proofs.YtffboamedcmpaaaGreatDoor
namespace Go.Am
section
variable {P:Program} {σ:az} {n:Nat}
theorem db.ajf {r:Option Nat} {nt lo:Nat} {c:Code} {K:Exit->az->Nat->Prop} (id:Nat) {mt:TypeId} {cells cells':List ae} (hs:σ (.af id)= .aR mt cells) (hc:mO cells cells') (h:db P r nt lo c (aU σ (.af id) (.aR mt cells')) n K):db P r nt lo c σ n K:=by
 refine ⟨λb t a w hl hsim=>h.jG b t a w hl ?_⟩;obtain ⟨g,hh,hf,hE,hn⟩:=hsim;obtain ⟨c',hc',_⟩:=hh.dq id (by rw [hs];rfl);obtain ⟨arr,z,ha1,ha2,ha3,ha4⟩:=hh.oN id mt _ c' hs hc';refine ⟨g,(hh.j8 (X:= .aR mt cells') (by rw [hs];rfl) hc' (kj.xS c' w) (λ_=>⟨arr,z,ha1,by grind [hc.v7],ha3,λi x v hx hv=>?_⟩)).1,hf.qo (λi=>by trivial),hE,hn⟩;have hi:i<cells.length:=by grind [hc.v7]
 exact (hc.CM i _ x (List.getElem?_eq_getElem hi) hx).pH _ _ _ (ha4 i _ v (List.getElem?_eq_getElem hi) hv)
theorem mO.O7:∀ {a b c d:List ae},mO a b->mO c d->mO (a++c) (b++d)
 |_,_,_,_, .fa,h=>h
 |_,_,_,_, .aX x t,h=> .aX x (mO.O7 t h)
end
end Go.Am
namespace Go.Proofs.YtffboamedcmpaaaGreatDoor
open Gw
open Go.Am
theorem ajg {P:Program} {m0 n:Nat} {f:FuncId} {args:List ae} {σ:az} {rx:List Go.Am.aS} {l0 l1 l2 l3:Go.Am.aS} {c0 c1 c2 c3:bs} {res:ae} (h:mi P m0 f args σ n rx [(l0,c0),(l1,c1),(l2,c2),(l3,c3)] res) (n1:l1≠l0) (n2:l2≠l0) (n3:l3≠l0) (m1:l1∈rx) (m2:l2∈rx) (m3:l3∈rx) (e1:σ l1=c1) (e2:σ l2=c2) (e3:σ l3=c3):mi P m0 f args σ n rx [(l0,c0)] res:=
 ⟨h.AI,λσ' ha b D g w vals h1 h2 h3 h4 h5 h6=>by
  have:=h.AJ σ' ha b D g w vals h1 h2 h3 h4 h5 h6;have e:eG σ' [(l0,c0),(l1,c1),(l2,c2),(l3,c3)]=eG σ' [(l0,c0)]:=by
   show aU (aU (aU (aU σ' l0 c0) l1 c1) l2 c2) l3 c3=aU σ' l0 c0;rw [B7 ((cL n1).trans ((ha l1 m1).trans e1)),B7 ((cL n2).trans ((ha l2 m2).trans e2)),B7 ((cL n3).trans ((ha l3 m3).trans e3))]
  simp_all⟩
theorem ajj (l:List fI):fL (l.map dz).flatten=true:=xa (λ_=>rfl) l
abbrev XH (x:aV) (k:Int) (u:dt):List (Am.aS×bs):=[(.af 16, .au 235 (nf x k u x.aq.ab.length)),(.af 31, .aR 78 ((x.aq.ab.map cr).flatten)),(.af 32, .au 231 [.ar 16 0])]
theorem aji (x:aV) (k:Nat) (u:dt) (a:fI) (r:List fI) (hw:x.dy.gi.ab=a::r) (hl:(a::r).length<=1000000) (hk:k<x.aq.ab.length):bz Tryz.prog 121 [.ar 16 0, .aE true] (aD (ga x k u)) 32
  (cG 32 (λr es=>r= .cE (.aw [])/\es=ga (qH x k true) k u)):=by
 have hcl:((a::r).map dz).length=(a::r).length:=List.length_map _;obtain ⟨model,table,⟨kept,⟨wq,W⟩⟩,threads,time,ops⟩:=x;dsimp only at hw hk;subst hw;have hcs:nz Tryz.prog 194 [.ag (cj.bZ ⟨wq,a::r⟩) 2 ((a::r).map dz) .av] 331 2 (a::r).length ((a::r).map dz).flatten:=by
  grind [cj.bZ,NO]
 have hd:=ajd ⟨model,table,⟨kept,⟨wq,a::r⟩⟩,threads,time,ops⟩ k u true (a::r) om;refine bz.xG dW (fn:=Tryz.f121) aG rfl aG rfl rfl ?_;refine eK ?_;refine db.CF (db.CF (se dW jd _ _ _ _ ?_))
 conv=>whnf
 refine db.CE rfl ⟨λ_=>?_,λh=>absurd h dd⟩;refine eK ?_;refine db.wh ?_;refine eK ?_;refine ⟨0,_,_,_,rfl,mi.tF hcs rfl,rfl,?_⟩
 conv=>whnf
 refine ⟨0,_,_,_,rfl,ajg (mi.G0 (m:=44) (res:= .aL 43 0 2 ((a::r).filter λw:fI=>!decide (w.fJ=(k:Int))).length true) (es:=(.af 43, .aR 331 (((a::r).map dz).flatten))::XH ⟨model,table,⟨kept,⟨wq,a::r⟩⟩,threads,time,ops⟩ k u) (es':=(.af 43, .aR 331 ((((a::r).filter λw:fI=>!decide (w.fJ=(k:Int))).map dz).flatten))::XH ⟨model,table,⟨kept,⟨wq,a::r⟩⟩,threads,time,ops⟩ k u) ⟨rfl,rfl,rfl,rfl,rfl,rfl,rfl,rfl,trivial⟩ rfl rfl rfl rfl rfl rfl hd) (by intro e;cases e) (by intro e;cases e) (by intro e;cases e) (by simp) (by simp) (by simp) rfl rfl rfl,rfl,?_⟩;refine ak ?_;refine db.LF ?_;refine db.OO 16 10 43 (((a::r).filter λw:fI=>!decide (w.fJ=(k:Int))).map dz) rfl rfl rfl rfl (List.length_map _) (λel hel=>by obtain ⟨z,_,rfl⟩:=List.mem_map.1 hel;rfl) (ajj _) rfl ?_;have hfl:=xj threads.ab;have o0:0+(k:Int).toNat*18+13=k*18+13:=om;obtain ⟨k',hk',hk2,hset⟩:=B8 (l:=threads.ab) (n:=k) (f:=λt=>{t with dT:=fg 120}) om om;obtain rfl:k=k':=om;have hY:gy ⟨model,table,⟨kept,cj.gL ⟨wq,a::r⟩ λw=>decide (w.fJ=(k:Int))⟩,threads,time,ops⟩ k (λt=>{t with dT:=fg 120})=⟨model,table,⟨kept,cj.gL ⟨wq,a::r⟩ λw=>decide (w.fJ=(k:Int))⟩,⟨threads.dI,threads.ab.set k {threads.ab[k] with dT:=fg 120}⟩,time,ops⟩:=by
  grind [gy]
 have hK:qH ⟨model,table,⟨kept,⟨wq,a::r⟩⟩,threads,time,ops⟩ k true=kD (gy ⟨model,table,⟨kept,cj.gL ⟨wq,a::r⟩ λw=>decide (w.fJ=(k:Int))⟩,threads,time,ops⟩ k (λt=>{t with dT:=fg 120})) k:=rfl;rw [hK,hY];have hE:=O3 ⟨model,table,⟨kept,cj.gL ⟨wq,a::r⟩ λw=>decide (w.fJ=(k:Int))⟩,⟨threads.dI,threads.ab.set k {threads.ab[k] with dT:=fg 120}⟩,time,ops⟩ k u k;have hflag:cj.bZ (cj.gL ⟨wq,a::r⟩ λw:fI=>decide (w.fJ=(k:Int)))=false:=by cases wq<;>rfl
 generalize kD ⟨model,table,⟨kept,cj.gL ⟨wq,a::r⟩ λw=>decide (w.fJ=(k:Int))⟩,⟨threads.dI,threads.ab.set k {threads.ab[k] with dT:=fg 120}⟩,time,ops⟩ k=Z at*;have hlt18:k*18+13+5<=((threads.ab.map cr).flatten).length:=om;refine eK ?_;refine ⟨⟨Int.natCast_nonneg k,by trivial⟩,?_⟩
 conv=>whnf
 rw [o0];refine ⟨hlt18,?_⟩;refine ak ?_;refine db.ajf 31 (cells':=((threads.ab.set k {threads.ab[k] with dT:=fg 120}).map cr).flatten) rfl ?_ ?_
 ·rw [<-Kn hk (b:={threads.ab[k] with dT:=fg 120}) (p:=(cr threads.ab[k]).take 13) (y:=yD threads.ab[k].dT) (s:=[]) (x:=yD (fg 120)) rfl rfl (i:=k*18+13) (j:=k*18+13+5) rfl rfl];exact mO.O7 (mO.O7 (mO.E5 _) (.aX (.bw _) (.aX (.bw _) (.aX (.bw _) (.aX (.bw _) (.aX (.eR _ _ _) .fa)))))) (mO.E5 _)
 refine cn ?_;refine .inr ⟨aG,aG,?_⟩;refine bz.tE (es:=ga ⟨model,table,⟨kept,cj.gL ⟨wq,a::r⟩ λw=>decide (w.fJ=(k:Int))⟩,⟨threads.dI,threads.ab.set k {threads.ab[k] with dT:=fg 120}⟩,time,ops⟩ k u) (es':=ga Z k u) ⟨?_,rfl,rfl,rfl,trivial⟩ rfl rfl (uQ rfl rfl rfl) dd rfl rfl hE ?_
 ·have e1:cv 2 dz (cj.gL ⟨wq,a::r⟩ λw:fI=>decide (w.fJ=(k:Int)))= .ag false 2 (((a::r).filter λw:fI=>!decide (w.fJ=(k:Int))).map dz) .av:=by
   unfold cv;rw [hflag];rfl
  refine congrArg (bs.au 235) ?_;unfold nf;simp_all
 exact bm
theorem ajh (x:aV) (k:Nat) (u:dt) (hl:x.dy.gi.ab.length<=1000000):bz Tryz.prog 121 [.ar 16 0, .aE false] (aD (ga x k u)) 32
  (cG 32 (λr es=>r= .cE (.aw [])/\es=ga (qH x k false) k u)):=by
 have hD:=aiQ x.dy x.bG.ab.length hl;have hol:(x.bG.ab.map cI).length=x.bG.ab.length:=List.length_map _;have hgl:(w6 x.dy x.bG.ab.length).2.ab.length<=x.dy.gi.ab.length:=by
  show ((x.dy.gi.ab.filter _).map _).length<=_;grind
 have hK:qH x k false=(w6 x.dy x.bG.ab.length).2.ab.foldl kD {x with dy:=(w6 x.dy x.bG.ab.length).1}:=rfl;rw [hK];generalize w6 x.dy x.bG.ab.length=y at*;obtain ⟨g,gone⟩:=y;dsimp only at*;rw [<-hol] at hD;refine bn Tryz.func121 ?_;refine ak ?_;have hel:(gone.ab.map ie).length=gone.ab.length:=List.length_map _;refine db.cK (X:=Nat) (λj=>[(.aj 2, .ah (.ar 32 0)),(.aj 63, .ah (cv 1 ie gone)),(.aj 64, .ah (.aa .i64 gone.ab.length)),(.aj 65, .ah (.aa .i64 j)),
  (.af 16, .au 235 (nf ((gone.ab.take j).foldl kD {x with dy:=g}) k u ((gone.ab.take j).foldl kD {x with dy:=g}).aq.ab.length)),(.af 31, .aR 78 ((((gone.ab.take j).foldl kD {x with dy:=g}).aq.ab.map cr).flatten)),(.af 32, .au 231 [.ar 16 0])]) 33
  (λj=>j<=gone.ab.length) (λj=>gone.ab.length - j) dd 0 (Nat.zero_le _) ⟨rfl,rfl,rfl,rfl,?_,rfl,rfl,rfl,rfl,rfl,rfl,rfl,rfl,rfl,trivial⟩ ?_
 ·show bs.ah (ae.aa .i64 ((gone.ab.map ie).length:Nat))=_;rw [hel]
 rintro j hj;refine cn ?_;refine ⟨λh=>?_,λh=>?_⟩
 ·have h:=of_decide_eq_true h;have hlt:j<gone.ab.length:=om;have hg:=lN ie hlt;have w1:IntKind.i64.wrap ((j:Int)+1)=((j+1:Nat):Int):=by grind [bj]
  have hF:(gone.ab.take (j+1)).foldl kD {x with dy:=g}=kD ((gone.ab.take j).foldl kD {x with dy:=g}) gone.ab[j]:=by grind [List.take_succ_eq_append_getElem]
  have hE:=O3 ((gone.ab.take j).foldl kD {x with dy:=g}) k u gone.ab[j];generalize (gone.ab.take j).foldl kD {x with dy:=g}=Z at*;generalize gone.ab[j]=z at*
  conv=>whnf
  refine ⟨_,⟨om,hg⟩,?_⟩
  conv=>whnf
  refine bz.tE (es:=ga Z k u) (es':=ga (kD Z z) k u) ⟨rfl,rfl,rfl,rfl,trivial⟩ rfl rfl (uQ rfl rfl rfl) dd rfl rfl hE ?_
  conv=>whnf
  refine ⟨j+1,om,by grind,⟨rfl,rfl,rfl,rfl,rfl,rfl,?_,rfl,?_,rfl,?_,rfl,rfl,rfl,trivial⟩⟩
  ·exact dh
  ·rw [hF];rfl
  ·rw [hF];rfl
 ·have h:=of_decide_eq_false h;obtain rfl:j=gone.ab.length:=om;rw [List.take_length];exact bm
end Go.Proofs.YtffboamedcmpaaaGreatDoor
namespace Gw
def G4 (x:aV) (n:Nat):aV:=gy {x with cM:=(j7 x.cM n).1} n i6
theorem ajn {T:Nat} {x:aV} (h:fS T x) (n i:Nat):fS T (((j7 x.cM n).2.ab.take i).foldl jE (G4 x n)):=by
 have h1:=h.vF;have h2:=h.vE;have h3:=h.nO;unfold G4;obtain ⟨a1,a2⟩:=On x.cM n;generalize j7 x.cM n=y at*;obtain ⟨t,p⟩:=y;dsimp only at*;have hb:fS T (gy {x with cM:=t} n i6):=by
  refine BW (x:={x with cM:=t}) ⟨h.ma,h.oG,?_,?_,?_⟩ n _ V7 (λ_=>Nat.zero_le _) λ_=>Nat.zero_le _
  ·grind
  ·grind
  grind
 have q1:gB kS (gA x.aq.ab n i6)<=gB kS x.aq.ab+0:=by
  unfold gA;split
  ·exact Nat.le_refl _
  ·exact BV _ _ λ_ _=>Nat.zero_le _
 have q2:gB kR (gA x.aq.ab n i6)<=gB kR x.aq.ab+0:=by
  unfold gA;split
  ·exact Nat.le_refl _
  ·exact BV _ _ λ_ _=>Nat.zero_le _
 have q3:(p.ab.take i).length<=p.ab.length:=by grind
 refine Oj (p.ab.take i) hb.ma hb.oG ?_ ?_ hb.nO
 ·show gB kS (gA x.aq.ab n i6)+_+t.di.ab.length<=T;omega
 ·show gB kR (gA x.aq.ab n i6)+_+t.di.ab.length<=T;omega
theorem ajo (x:aV) (h:bX):(jE x h).aq.ab.length=x.aq.ab.length:=Ei _ _ _
theorem XJ:∀ (l:List bX) (x:aV),(l.foldl jE x).aq.ab.length=x.aq.ab.length
 |[],_=>rfl
 |h::l,x=>(XJ l (jE x h)).trans (ajo x h)
theorem ajm (who:Int) (x:aV) (n:Nat):(ln who x n).aq.ab.length=x.aq.ab.length:=by
 unfold ln;split
 ·rfl
 ·split
  ·split;rename_i tb p _;exact (XJ p.ab (gy {x with cM:=tb} n i6)).trans (show (gA x.aq.ab n i6).length=_ from Ei _ _ _)
  ·rfl
theorem XI (who:Int):∀ (l:List Nat) (x:aV),(l.foldl (ln who) x).aq.ab.length=x.aq.ab.length
 |[],_=>rfl
 |n::l,x=>(XI who l (ln who x n)).trans (ajm who x n)
end Gw
namespace Go.Proofs.YtffboamedcmpaaaGreatDoor
open Gw
open Go.Am
theorem ajl (c:bu) (hp:c.bY.length<=1048576):∃ (q:Bool) (els:List (List ae)),aC Tryz.prog 273 [tX c] (.aw [.ag q 1 els .av, .aE (vm c)]):=by
 have hw:=OG c hp;unfold vm;cases hs:sF c with
 |zP=>
  rw [hs] at hw;refine ⟨true,[],?_⟩;refine bK Tryz.func273 ?_;exact dC
 |yx d=>
  rw [hs] at hw;refine ⟨true,[],?_⟩;refine bK Tryz.func273 ?_;exact dC
 |sC s=>
  have hl:=WW hs;have hc:=JH s.bZ (s.ab.map jv) (λh=>by rw [cj.wZ h];rfl) (by simp_all);rw [hs] at hw;refine ⟨s.bZ,s.ab.map jv,?_⟩;refine bK Tryz.func273 ?_;exact dC
theorem ajk {T:Nat} (x:aV) (k:Nat) (u:dt) (hT:T<=100000) (hx:fS T x):bz Tryz.prog 237 [.ar 16 0] (aD (ga x k u)) 32
  (cG 32 (λr es=>r= .cE (.aw [])/\es=ga (yz x k) k u)):=by
 have hthr:=hx.ma;have hN:yz x k=(List.range x.aq.ab.length).foldl (ln k) x:=rfl;rw [hN];refine bn Tryz.func237 ?_
 conv=>whnf
 refine db.cK (X:=Nat) (λj=>[(.aj 1, .ah (.ar 32 0)),(.aj 2, .ah (.aP 272 [] [.ar 32 0])),(.aj 14, .ah (.aa .i64 x.aq.ab.length)),(.aj 15, .ah (.aa .i64 j)),
  (.af 16, .au 235 (nf ((List.range j).foldl (ln k) x) k u ((List.range j).foldl (ln k) x).aq.ab.length)),(.af 31, .aR 78 ((((List.range j).foldl (ln k) x).aq.ab.map cr).flatten)),(.af 32, .au 231 [.ar 16 0])]) 33
  (λj=>j<=x.aq.ab.length) (λj=>x.aq.ab.length - j) dd 0 (Nat.zero_le _) ⟨rfl,rfl,rfl,rfl,rfl,rfl,rfl,rfl,rfl,rfl,rfl,rfl,rfl,rfl,trivial⟩ ?_
 rintro j hj;refine cn ?_;refine ⟨λh=>?_,λh=>?_⟩
 ·have h:=of_decide_eq_true h;have hlt:j<x.aq.ab.length:=om;have w1:IntKind.i64.wrap ((j:Int)+1)=((j+1:Nat):Int):=by grind [bj]
  have hF:(List.range (j+1)).foldl (ln k) x=ln k ((List.range j).foldl (ln k) x) j:=by grind [List.range_succ]
  have hZl:=XI k (List.range j) x;have hZt:=Ou k (List.range j) hx;generalize (List.range j).foldl (ln k) x=Z at*;have hjz:j<Z.aq.ab.length:=om;have hth:=hZt.oG _ (List.getElem_mem hjz);obtain ⟨vq,ve,hnm⟩:=ajl Z.aq.ab[j].dN (Nat.le_trans hth.rK dd);have hfl:=xj Z.aq.ab;have o0:0+(j:Int).toNat*18=j*18:=om;have o7:0+(j:Int).toNat*18+7=j*18+7:=om;have hL:=vA (enc:=cr) (sz:=18) (λ_=>rfl) hjz;have hQ:=Eu hL 0 5 dd;have hD:=Ki (enc:=cr) (sz:=18) (λ_=>rfl) hjz (j:=7) (x:= .aE Z.aq.ab[j].tZ) rfl;have hS:¬((j:Int)≠k/\vm Z.aq.ab[j].dN=true/\Z.aq.ab[j].tZ=false)->ln k Z j=Z:=λhn=>by
   grind [ln]
  have hS2:((j:Int)≠k/\vm Z.aq.ab[j].dN=true/\Z.aq.ab[j].tZ=false)->ln k Z j=(j7 Z.cM j).2.ab.foldl jE (G4 Z j):=λhn=>by
   unfold ln;rw [List.getElem?_eq_getElem hjz];dsimp only;rw [if_pos hn];rfl
  generalize hwk:vm Z.aq.ab[j].dN=wk at*;generalize hdn:Z.aq.ab[j].tZ=dn at*
  by_cases hjk:(j:Int)=k
  ·have hS:=hS λq=>q.1 hjk
   conv=>whnf
   refine bn Tryz.func272 ?_;refine ak ?_;rw [o0];refine ak ?_;refine ⟨λq=>?_,λ_=>?_⟩
   ·rw [hjk] at q;simp at q
   refine iV ?_;refine ⟨j+1,om,by grind,⟨rfl,rfl,rfl,rfl,rfl,rfl,?_,rfl,?_,rfl,?_,rfl,rfl,rfl,trivial⟩⟩
   ·exact dh
   ·rw [hF,hS];rfl
   ·rw [hF,hS];rfl
  cases wk with
  |false=>
   have hS:=hS λq=>by cases q.2.1
   conv=>whnf
   refine bn Tryz.func272 ?_;refine ak ?_;rw [o0];refine ak ?_;refine ⟨λ_=>?_,λq=>?_⟩
   ·refine iV ?_;refine ⟨j+1,om,by grind,⟨rfl,rfl,rfl,rfl,rfl,rfl,?_,rfl,?_,rfl,?_,rfl,rfl,rfl,trivial⟩⟩
    ·exact dh
    ·rw [hF,hS];rfl
    ·rw [hF,hS];rfl
   ·exact absurd (by simpa using q) hjk
  |true=>
   cases dn with
   |true=>
    have hS:=hS λq=>by cases q.2.2
    conv=>whnf
    refine bn Tryz.func272 ?_;refine ak ?_;rw [o0];refine ak ?_;refine ⟨λ_=>?_,λq=>absurd (by simpa using q) hjk⟩;refine ak ?_;rw [o7];refine ⟨_,hD,?_⟩;refine iV ?_;refine ⟨j+1,om,by grind,⟨rfl,rfl,rfl,rfl,rfl,rfl,?_,rfl,?_,rfl,?_,rfl,rfl,rfl,trivial⟩⟩
    ·exact dh
    ·rw [hF,hS];rfl
    ·rw [hF,hS];rfl
   |false=>
    have hS2:=hS2 ⟨hjk,rfl,rfl⟩;have hhl:=hZt.nO;have hDr:=afw Z.cM j om om;have htk:=Ao hZt om Z.aq.ab[j] (List.getElem_mem hjz);have hAg:=ahp Z.aq.ab[j] htk.G3 htk.O1 htk.O0;have hGt:=λi=>ajn hZt j i
    have hpl:(j7 Z.cM j).2.ab.length<=100000:=by
     have:=(On Z.cM j).2;omega
    obtain ⟨j',hj',hj2,hset⟩:=B8 (l:=Z.aq.ab) (n:=j) (f:=i6) om om;obtain rfl:j=j':=om;have hGv:G4 Z j={Z with cM:=(j7 Z.cM j).1,aq:=⟨Z.aq.dI,Z.aq.ab.set j (i6 Z.aq.ab[j])⟩}:=by
     grind [G4,gy]
    rw [hGv] at hS2 hGt;generalize j7 Z.cM j=D at*;obtain ⟨tb,passed⟩:=D;dsimp only at*
    conv=>whnf
    refine bn Tryz.func272 ?_;refine ak ?_;rw [o0];refine ak ?_;refine ⟨λ_=>?_,λq=>absurd (by simpa using q) hjk⟩;refine ak ?_;rw [o7];refine ⟨_,hD,?_⟩;refine ak ?_;rw [o0];refine cC ?_;rw [o0];refine cC ?_;refine ak ?_;have hWl:({Z with cM:=tb,aq:=⟨Z.aq.dI,Z.aq.ab.set j (i6 Z.aq.ab[j])⟩}:aV).aq.ab=Z.aq.ab.set j (i6 Z.aq.ab[j]):=rfl;have hWb:nf ({Z with cM:=tb,aq:=⟨Z.aq.dI,Z.aq.ab.set j (i6 Z.aq.ab[j])⟩}:aV) k u Z.aq.ab.length=nf ({Z with cM:=tb,aq:=⟨Z.aq.dI,Z.aq.ab.set j (i6 Z.aq.ab[j])⟩}:aV) k u ({Z with cM:=tb,aq:=⟨Z.aq.dI,Z.aq.ab.set j (i6 Z.aq.ab[j])⟩}:aV).aq.ab.length:=congrArg (nf _ k u) (List.length_set).symm;have hpel:(passed.ab.map bA).length=passed.ab.length:=List.length_map _;have hm:=O4 hjz (i6 Z.aq.ab[j]);rw [<-hWl] at hm;refine db.cK (X:=Nat) (λi=>[(.aj 1, .ah (.ar 32 0)),(.aj 2, .ah (.aP 272 [] [.ar 32 0])),(.aj 14, .ah (.aa .i64 x.aq.ab.length)),(.aj 15, .ah (.aa .i64 j)),(.aj 53, .ah (cv 2 bA passed)),(.aj 54, .ah (.aa .i64 passed.ab.length)),(.aj 55, .ah (.aa .i64 i)),
     (.af 16, .au 235 (nf ((passed.ab.take i).foldl jE {Z with cM:=tb,aq:=⟨Z.aq.dI,Z.aq.ab.set j (i6 Z.aq.ab[j])⟩}) k u ((passed.ab.take i).foldl jE {Z with cM:=tb,aq:=⟨Z.aq.dI,Z.aq.ab.set j (i6 Z.aq.ab[j])⟩}).aq.ab.length)),(.af 31, .aR 78 ((((passed.ab.take i).foldl jE {Z with cM:=tb,aq:=⟨Z.aq.dI,Z.aq.ab.set j (i6 Z.aq.ab[j])⟩}).aq.ab.map cr).flatten)),(.af 32, .au 231 [.ar 16 0])]) 33
     (λi=>i<=passed.ab.length) (λi=>passed.ab.length - i) dd 0 (Nat.zero_le _) ⟨rfl,rfl,rfl,rfl,rfl,rfl,rfl,rfl,rfl,rfl,?_,rfl,rfl,rfl,?_,rfl,?_,rfl,rfl,rfl,trivial⟩ ?_
    ·show bs.ah (ae.aa .i64 ((passed.ab.map bA).length:Nat))=_;rw [hpel]
    ·exact congrArg (bs.au _) hWb
    ·exact congrArg (bs.aR _) hm
    rintro i hi;refine cn ?_;refine ⟨λh=>?_,λh=>?_⟩
    ·have h:=of_decide_eq_true h;have hlt':i<passed.ab.length:=om;have hg:=lN bA hlt';have wi:IntKind.i64.wrap ((i:Int)+1)=((i+1:Nat):Int):=by grind [bj]
     have hF':(passed.ab.take (i+1)).foldl jE {Z with cM:=tb,aq:=⟨Z.aq.dI,Z.aq.ab.set j (i6 Z.aq.ab[j])⟩}=jE ((passed.ab.take i).foldl jE {Z with cM:=tb,aq:=⟨Z.aq.dI,Z.aq.ab.set j (i6 Z.aq.ab[j])⟩}) passed.ab[i]:=by grind [List.take_succ_eq_append_getElem]
     have hE:=XF ((passed.ab.take i).foldl jE {Z with cM:=tb,aq:=⟨Z.aq.dI,Z.aq.ab.set j (i6 Z.aq.ab[j])⟩}) k u passed.ab[i] (Ao (hGt i) om);generalize (passed.ab.take i).foldl jE {Z with cM:=tb,aq:=⟨Z.aq.dI,Z.aq.ab.set j (i6 Z.aq.ab[j])⟩}=Y at*;generalize passed.ab[i]=z at*
     conv=>whnf
     refine ⟨_,⟨om,hg⟩,?_⟩
     conv=>whnf
     refine bz.tE (es:=ga Y k u) (es':=ga (jE Y z) k u) ⟨rfl,rfl,rfl,rfl,trivial⟩ rfl rfl (uQ rfl rfl rfl) dd rfl rfl hE ?_
     conv=>whnf
     refine ⟨i+1,om,by grind,⟨rfl,rfl,rfl,rfl,rfl,rfl,rfl,rfl,rfl,rfl,rfl,rfl,?_,rfl,?_,rfl,?_,rfl,rfl,rfl,trivial⟩⟩
     ·exact dh
     ·rw [hF'];rfl
     ·rw [hF'];rfl
    ·have h:=of_decide_eq_false h;obtain rfl:i=passed.ab.length:=om;rw [List.take_length,<-hS2]
     conv=>whnf
     refine ⟨j+1,om,by grind,⟨rfl,rfl,rfl,rfl,rfl,rfl,?_,rfl,?_,rfl,?_,rfl,rfl,rfl,trivial⟩⟩
     ·exact dh
     ·rw [hF];rfl
     ·rw [hF];rfl
 ·have h:=of_decide_eq_false h;obtain rfl:j=x.aq.ab.length:=om;exact bm
end Go.Proofs.YtffboamedcmpaaaGreatDoor
namespace Gw
theorem XM (x:aV):∀ (l:List cd) (n:Nat) {z:Int},z∈js x n l->∃ (k:Nat) (t:cd),z=((n+k:Nat):Int)/\l[k]? =some t/\oC x (n+k) t=true
 |[],_,_,h=>by cases h
 |t::l,n,z,h=>by
  have next:z∈js x (n+1) l->∃ (k:Nat) (s:cd),z=((n+k:Nat):Int)/\(t::l)[k]? =some s/\oC x (n+k) s=true:=λq=>by
   obtain ⟨k,s,h1,h2,h3⟩:=XM x l (n+1) q;exact ⟨k+1,s,by rw [h1];omega,by simpa using h2,by grind⟩
  unfold js at h;split at h
  ·rename_i hc;rcases List.mem_cons.1 h with h|h
   ·exact ⟨0,t,h,rfl,hc⟩
   ·exact next h
  ·exact next h
theorem ajt {x:aV} {p:Int} {who:Int} {w:Bool} (h:qI x p=some (who,w)):who∈BF x/\w=rv x.dy who:=by
 unfold qI at h;cases ha:BF x with
 |nil=>simp_all
 |cons a l=>
  rw [ha] at h;dsimp only at h;have hlt:sM p (l.length+1)<(a::l).length:=by
   unfold sM;have h0:(0:Int)<((l.length+1:Nat):Int):=om;have b1:=Int.tmod_lt_of_pos (p.tmod ((l.length+1:Nat):Int)+((l.length+1:Nat):Int)) h0;simp_all
  grind
theorem aju {x:aV} {p:Int} {who:Int} {w:Bool} (h:qI x p=some (who,w)):∃ k:Nat,who=k/\∃ hk:k<x.aq.ab.length,oC x k x.aq.ab[k]=true/\w=rv x.dy k:=by
 obtain ⟨h1,h2⟩:=ajt h;obtain ⟨k,t,e,h3,h4⟩:=XM x x.aq.ab 0 h1;grind
theorem ajq (l:List aI) (t:cd) (c:bu):(DP l t c).gu=1\/(DP l t c).gu=3:=by
 grind [DP]
theorem ajr (l:List aI) (t:cd) (s:cj (List UInt8)):(w7 l t s).gu=1\/(w7 l t s).gu=2\/(w7 l t s).gu=3:=by
 grind [w7]
theorem ajs (l:List aI) (t:cd) (h:t.kf=false):(ub l t).gu=1\/(ub l t).gu=2\/(ub l t).gu=3\/(ub l t).gu=4\/(ub l t).gu=5:=by
 grind [ub,ajq,ajr]
end Gw
namespace Go.Proofs.YtffboamedcmpaaaGreatDoor
open Gw
open Go.Am
def XL:iC:=[(0, .aa .i64 1, .aP 198 [] []),(1, .aa .i64 2, .aP 199 [] []),(2, .aa .i64 3, .aP 200 [] []),(3, .aa .i64 4, .aP 201 [] []),(4, .aa .i64 5, .aP 202 [] [])]
theorem ajp:bz Tryz.prog 123 [] (aD []) 0 (cG 0 (λx e=>x= .sh 5 XL/\e=[])):=by
 refine bn Tryz.func123 ?_
 conv=>whnf
 refine mf.Fq rfl ?_
 conv=>whnf
 refine mf.k8 (kt:=3) (et:=237) (d:= .int .i64) aG aG (.inr rfl) rfl rfl rfl rfl (mG rfl) none rfl ?_
 conv=>whnf
 refine mf.k8 (kt:=3) (et:=237) (d:= .int .i64) aG aG (.inr rfl) rfl rfl rfl rfl (mG rfl) none rfl ?_
 conv=>whnf
 refine mf.k8 (kt:=3) (et:=237) (d:= .int .i64) aG aG (.inr rfl) rfl rfl rfl rfl (mG rfl) none rfl ?_
 conv=>whnf
 refine mf.k8 (kt:=3) (et:=237) (d:= .int .i64) aG aG (.inr rfl) rfl rfl rfl rfl (mG rfl) none rfl ?_
 conv=>whnf
 refine mf.k8 (kt:=3) (et:=237) (d:= .int .i64) aG aG (.inr rfl) rfl rfl rfl rfl (mG rfl) none rfl ?_
 conv=>whnf
 exact ⟨_,_,⟨rfl,rfl⟩,rfl,⟨1,Nat.zero_le _,rfl,rfl⟩,trivial⟩
theorem XK {σ:az} (Y:aV) (hne:Y.aq.ab≠[]) (h:σ (.af 31)= .aR 78 ((Y.aq.ab.map cr).flatten)):
  Am.km σ (.aK [cv 17 dY Y.br.aA.b8,cv 8 iF Y.br.aA.aQ, .aa .i64 Y.br.eC, .aa .i64 Y.br.iH,cv 2 iJ Y.br.dO,cv 4 ej Y.br.de, .aa .i64 Y.br.fz,
   cv 2 bA Y.cM.eW,cv 2 bA Y.cM.di, .aa .i64 Y.dy.nH,cv 2 dz Y.dy.gi, .aL 31 0 18 Y.aq.ab.length true, .aa .i64 Y.ca,cv 7 cI Y.bG]) (lM Y):=by
 have ho:=D3 (enc:=cr) (sz:=18) (full:=true) (λ_=>rfl) (λ_=>rfl) h;have he:cv 18 cr Y.aq= .ag false 18 (Y.aq.ab.map cr) .av:=by
  unfold cv;rw [show Y.aq.bZ=false by unfold cj.bZ;simp_all]
 rw [<-he] at ho;refine yE.zV ?_
 repeat (first|exact yE.mZ|refine yE.gM (.mh rfl) ?_|fail "end")
 refine yE.gM ho ?_
 repeat (first|exact yE.mZ|refine yE.gM (.mh rfl) ?_|fail "end")
theorem G5 {T:Nat} (x:aV) (p:Int) (full:Bool) (hT:T<=100000) (hx:eN T x) (k:Nat) (hk:k<x.aq.ab.length) (hp:qI x p=some ((k:Int),false)) (κ lk:Int) (hu:ub x.br.aA.aQ.ab x.aq.ab[k]=⟨κ,lk⟩) (fid:FuncId)
  (hfind:qv (.aa .i64 κ) XL=some (.aP fid [] [])) (Y:aV) (hne:Y.aq.ab≠[])
  (hac:bz Tryz.prog fid [.ar 16 0] (aD (ga {x with ca:=x.ca+1} k ⟨κ,lk⟩)) 32 (cG 32 (λr es=>r= .cE (.aw [])/\es=ga Y k ⟨κ,lk⟩))):aC Tryz.prog 71 [lM x, .aa .i64 p, .aE full] (lM Y):=by
 have hthr:=hx.gC.ma;have hheld:=hx.gC.nO;have hgrp:=hx.p8;have htm:=hx.p9;have hpk:=Kj x p om om om;rw [hp] at hpk;have hpk:aC Tryz.prog 69 [lM x, .aa .i64 p] (.aw [.aa .i64 (k:Int), .aE false, .aE true]):=hpk;have hth:=hx.gC.oG _ (List.getElem_mem hk);have htk:=Ao hx.gC om x.aq.ab[k] (List.getElem_mem hk);have hNx:=ahC x.br.aA.aQ.bZ x.br.aA.aQ.ab (B4 hx.jb.ja) (by have:=hx.jb.ja.BP;omega) x.aq.ab[k] (Nat.le_trans hth.rK dd) (Nat.le_trans hth.uu dd) htk.G3;rw [hu] at hNx;have w1:IntKind.i64.wrap (x.ca+1)=x.ca+1:=bj om om;have hfl:=xj x.aq.ab;have hL:=vA (enc:=cr) (sz:=18) (λ_=>rfl) hk;have o0:0+(k:Int).toNat*18=k*18:=om;have hcl:(x.aq.ab.map cr).length=x.aq.ab.length:=List.length_map _;have hcs:nz Tryz.prog 74 [.ag x.aq.bZ 18 (x.aq.ab.map cr) .av] 78 18 x.aq.ab.length (x.aq.ab.map cr).flatten:=by
  have hfg:x.aq.bZ=false:=by
   unfold cj.bZ;grind
  grind [NN]
 refine aC.Ex dW (fn:=Tryz.f71) aG rfl aG rfl rfl ?_;refine eK ?_;refine eK ?_;refine ak ?_;refine eK ?_;refine ak ?_;refine eK ?_;refine eK ?_;refine eK ?_;refine bz.xP hcs rfl ?_
 conv=>whnf
 refine eK ?_;refine ak ?_;refine eK ?_;refine ak ?_;rw [o0];refine ak ?_;refine db.wh ?_;refine eK ?_;refine ⟨0,_,_,_,rfl,mi.WT ajp,rfl,?_⟩
 conv=>whnf
 refine ⟨aG,aG,?_⟩;refine mf.xQ dW (kt:=3) (et:=237) (d:= .int .i64) aG aG rfl rfl aG rfl rfl (.inl rfl) rfl (mG rfl) (some (.aP fid [] [])) hfind ?_
 conv=>whnf
 refine ⟨aG,?_⟩
 conv=>whnf
 refine bz.tE (es:=ga {x with ca:=x.ca+1} k ⟨κ,lk⟩) (es':=ga Y k ⟨κ,lk⟩) ⟨?_,rfl,rfl,rfl,trivial⟩ rfl rfl (uQ rfl rfl rfl) dd rfl rfl hac ?_
 ·exact congrArg (λz=>bs.au 235 (nf {x with ca:=z} k ⟨κ,lk⟩ x.aq.ab.length)) w1
 conv=>whnf
 refine db.LF ?_;refine cn ?_;exact XK Y hne rfl
theorem ajw {T:Nat} (x:aV) (p:Int) (full:Bool) (hT:T<=100000) (hx:eN T x) (k:Nat) (hk:k<x.aq.ab.length) (hp:qI x p=some ((k:Int),true)) (Y:aV) (hne:Y.aq.ab≠[])
  (hac:bz Tryz.prog 121 [.ar 16 0, .aE full] (aD (ga {x with ca:=x.ca+1} k ⟨0,0⟩)) 32 (cG 32 (λr es=>r= .cE (.aw [])/\es=ga Y k ⟨0,0⟩))):aC Tryz.prog 71 [lM x, .aa .i64 p, .aE full] (lM Y):=by
 have hthr:=hx.gC.ma;have hheld:=hx.gC.nO;have hgrp:=hx.p8;have htm:=hx.p9;have hpk:=Kj x p om om om;rw [hp] at hpk;have hpk:aC Tryz.prog 69 [lM x, .aa .i64 p] (.aw [.aa .i64 (k:Int), .aE true, .aE true]):=hpk;have w1:IntKind.i64.wrap (x.ca+1)=x.ca+1:=bj om om;have hcl:(x.aq.ab.map cr).length=x.aq.ab.length:=List.length_map _;have hcs:nz Tryz.prog 74 [.ag x.aq.bZ 18 (x.aq.ab.map cr) .av] 78 18 x.aq.ab.length (x.aq.ab.map cr).flatten:=by
  have hfg:x.aq.bZ=false:=by
   unfold cj.bZ;grind
  grind [NN]
 refine aC.Ex dW (fn:=Tryz.f71) aG rfl aG rfl rfl ?_;refine cn ?_;refine ak ?_;refine bz.xP hcs rfl ?_;refine iV ?_;refine bz.tE (es:=ga {x with ca:=x.ca+1} k ⟨0,0⟩) (es':=ga Y k ⟨0,0⟩) ⟨?_,rfl,rfl,rfl,trivial⟩ rfl rfl (uQ rfl rfl rfl) dd rfl rfl hac ?_
 ·exact congrArg (λz=>bs.au 235 (nf {x with ca:=z} k ⟨0,0⟩ x.aq.ab.length)) w1
 conv=>whnf
 exact XK Y hne rfl
theorem ajx {T:Nat} (x:aV) (p:Int) (full:Bool) (hT:T<=100000) (hx:eN T x) (hp:qI x p=none):aC Tryz.prog 71 [lM x, .aa .i64 p, .aE full] (lM x):=by
 have hthr:=hx.gC.ma;have hheld:=hx.gC.nO;have hgrp:=hx.p8;have hpk:=Kj x p om om om;rw [hp] at hpk;have hpk:aC Tryz.prog 69 [lM x, .aa .i64 p] (.aw [.aa .i64 0, .aE false, .aE false]):=hpk;refine cU Tryz.func71 ?_;exact bm
theorem XO {x y:aV} (h:ig y=ig x) {k:Nat} (hk:k<x.aq.ab.length):y.aq.ab≠[]:=λe=>by
 grind [ig,List.length_nil]
theorem ajv {T:Nat} {x:aV} (h:eN T x) (k:Nat) (u:dt) (hu:u.gu≠1):fS (T+1) (An x k u):=by
 have hd:=Eg h.jb (lK x k);unfold An;refine Eh k u ?_ hu;refine BW ?_ k _ (λt q=>⟨q.rK,q.uu,q.vH,q.vG,hd.Of⟩) (λ_=>Nat.le_refl _) λ_=>Nat.le_refl _
 exact (h.gC.V1 (Nat.le_succ _)).yL rfl rfl
theorem XN {T:Nat} (x:aV) (p:Int) (full:Bool) (hT:T<=99000) (hx:eN T x):aC Tryz.prog 71 [lM x, .aa .i64 p, .aE full] (lM (pX x p full)):=by
 have hst:pX x p full=match qI x p with
  |none=>x
  |some (who,waits)=>if waits=true then qH {x with ca:=x.ca+1} who full else BH {x with ca:=x.ca+1} who (Gv x who):=rfl
 have hca:=ahg x p full;cases hp:qI x p with
 |none=>
  rw [hst,hp];exact ajx x p full om hx hp
 |some y=>
  obtain ⟨who,waits⟩:=y;rw [hp] at hst;obtain ⟨k,rfl,hk,hcan,hw⟩:=aju hp;have ht:=hx.p9;have hl:=hx.rL;have h0:eN (T+1) {x with ca:=x.ca+1}:=⟨hl.jb,hl.gC.yL rfl rfl,hl.p8,⟨by grind,by simp_all⟩,hl.sS,hl.sR,hl.uv⟩;have hgr:=h0.p8;cases waits with
  |true=>
   have hst:pX x p full=qH {x with ca:=x.ca+1} k full:=hst;rw [hst] at hca ⊢;refine ajw x p full om hx k hk hp _ (XO hca hk) ?_;cases full with
   |false=>exact ajh {x with ca:=x.ca+1} k ⟨0,0⟩ om
   |true=>
    cases hwl:x.dy.gi.ab with
    |nil=>
     unfold rv at hw;rw [hwl] at hw;cases hw
    |cons a r=>
     refine aji {x with ca:=x.ca+1} k ⟨0,0⟩ a r hwl ?_ hk;grind
  |false=>
   have hst:pX x p full=BH {x with ca:=x.ca+1} k (Gv x k):=hst;have hto:Gv x k=ub x.br.aA.aQ.ab x.aq.ab[k]:=by
    grind [Gv]
   rw [hto] at hst;rw [hst] at hca ⊢;have hen:x.aq.ab[k].kf=false:=by
    unfold oC at hcan;simp_all
   have hkd:=ajs x.br.aA.aQ.ab x.aq.ab[k] hen;have hne:=XO hca hk;generalize hu:ub x.br.aA.aQ.ab x.aq.ab[k]=u at*;obtain ⟨κ,lk⟩:=u;dsimp only at hkd;rcases hkd with rfl|rfl|rfl|rfl|rfl
   ·exact G5 x p full om hx k hk hp 1 lk hu 198 rfl _ hne (ai7 {x with ca:=x.ca+1} k ⟨1,lk⟩ om h0.gC hk rfl)
   ·exact G5 x p full om hx k hk hp 2 lk hu 199 rfl _ hne (ai4 {x with ca:=x.ca+1} k ⟨2,lk⟩ om h0.gC hk rfl)
   ·refine G5 x p full om hx k hk hp 3 lk hu 200 rfl _ hne (ai9 {x with ca:=x.ca+1} k ⟨3,lk⟩ om h0 hk rfl (ajk (T:=T+2) (An {x with ca:=x.ca+1} k ⟨3,lk⟩) k ⟨3,lk⟩ om ?_));grind [ajv]
   ·exact G5 x p full om hx k hk hp 4 lk hu 201 rfl _ hne (ai8 {x with ca:=x.ca+1} k ⟨4,lk⟩ om hk)
   ·exact G5 x p full om hx k hk hp 5 lk hu 202 rfl _ hne (ai6 {x with ca:=x.ca+1} k ⟨5,lk⟩ om h0.gC hk rfl)
def vP (d:dF):List ae:=DW d.bL++(yr d.kT.sT d.kT.rN d.kT.cX++[.aa .i64 d.yM])
def jM (d:dF):ae:= .aK (vP d)
theorem XP (r:Int):(oD r).2=0\/(oD r).2=20:=by
 grind [oD,rF]
theorem ajz (s:Int):(oY s).2=0\/(oY s).2=120:=by
 grind [oY]
theorem Ko (r size:Int):aC Tryz.prog 7 [.aa .i64 r, .aa .i64 size] (.aw [jM (qc r size).1, .aa .i64 (qc r size).2]):=by
 have hc:=XA r;have he:=XP r;have hw:=adB size;have hf:=ajz size;unfold M9 at hw;unfold qc;generalize oD r=y at*;obtain ⟨c,e⟩:=y;generalize oY size=z at*;obtain ⟨w,f⟩:=z;dsimp only at*;rcases he with rfl|rfl
 ·rw [if_neg dd];rcases hf with rfl|rfl
  ·rw [if_neg dd];refine cU Tryz.func7 ?_;exact bm
  ·rw [if_pos dd];refine cU Tryz.func7 ?_;refine ak ?_;exact iL.ml (.aX (.np oT) (.aX (.bw _) .fa))
 ·rw [if_pos dd];refine cU Tryz.func7 ?_;refine ak ?_;exact iL.ml (.aX (.np oT) (.aX (.bw _) .fa))
theorem ajy (x:aV) (c:bu):(qJ x c).2.2=0\/(qJ x c).2.2=193:=by
 grind [qJ]
theorem Kp (d:dF) (c:bu) (h1:d.bL.aq.ab.length<=1000) (ht:0<=d.bL.ca/\d.bL.ca<1000000):aC Tryz.prog 15 [jM d,tX c] (.aw [jM (qd d c).1, .aa .i64 (qd d c).2.1, .aa .i64 (qd d c).2.2]):=by
 have hc:=ai1 d.bL c h1 ht;have he:=ajy d.bL c;unfold qd;generalize qJ d.bL c=y at*;obtain ⟨x,n,e⟩:=y;dsimp only at*;rcases he with rfl|rfl
 ·rw [if_neg dd];refine cU Tryz.func15 ?_;exact bm
 ·rw [if_pos dd];refine cU Tryz.func15 ?_;exact bm
theorem ajA (b:Nat) (st:List UInt8) (hb:b<=1000001) (hs:st.length<=1000000):aC Tryz.prog 59 [.aa .i64 b, .ai st] (.aw [.ai (if 40000<(gr b st).length then [] else gr b st), .aa .i64 (if 40000<(gr b st).length then 130 else 0)]):=by
 have h1:=F8 [] false [(b:Int)] (by simp;omega) (by simp);rw [T5 b] at h1;have h3:=oW (n:=b) om;have h2:=Dv (bW b) st om;have h4:jA (bW b) st=gr b st:=rfl;rw [h4] at h2
 by_cases h:40000<(gr b st).length
 ·rw [if_pos h,if_pos h];refine bK Tryz.func59 ?_;refine ak ?_;refine C8 om ?_
  conv=>whnf
 ·rw [if_neg h,if_neg h];refine bK Tryz.func59 ?_;refine ak ?_;refine fu om ?_
  conv=>whnf
def oJ (w:eD) (s:List UInt8):eD×Nat:=if w.gp=0/\w.cV<200/\40000<(gr w.cQ s).length then (w,130) else jz w s
def uz (nl nw:Bool) (w:eD) (s:List UInt8):ae:= .aw [iY (if (oJ w s).2=0 then false else nl) nw (oJ w s).1, .aa .i64 ((oJ w s).2:Nat)]
theorem ajB {w:eD} (h:je w) (hsz:w.aW.bE<=255) (nl nw:Bool) (s:List UInt8) (hs:s.length<=1000000) (hn:nl=true->w.aW.cH=[]) (hl:w.aW.cH.length<=1000000):aC Tryz.prog 127 [iY nl nw w, .ai s] (uz nl nw w s):=by
 by_cases h1000:s.length<=1000
 ·have hm:=IW (b:=w.cQ) (st:=s) h.x8 h1000;have e:oJ w s=jz w s:=by grind [oJ]
  have:=adA h nl nw s h1000 hn hl;have e2:tU nl nw w s=uz nl nw w s:=by
   unfold tU uz;rw [e];have e3:(Bx w s=true)=((jz w s).2=0):=by
    unfold Bx jz;grind
   simp only [e3]
  rw [<-e2];exact this
 ·obtain ⟨N,e1,e2,e3,e4,e5⟩:=Js h;have hsq:=h.IP;have hsq1:=h.Md;have hbig:=h.x8;have hmt:=ajA w.cQ s om hs;have hpk:=Gf ((w.cV+1:Nat):Int) (gr w.cQ s);have hss:=By N om;rw [<-e1] at hss;have hw1:IntKind.i64.wrap ((w.cV:Int)+1)=((w.cV+1:Nat):Int):=by grind [bj]
  have hlong:¬(jl (w.cV+1) w.cQ s).length / 16<=fb w.aW:=λq=>by
   have e:=FQ (w.cV+1) w.cQ s;have hm:64<=wD (w.cV+1) w.cQ s:=by
    unfold wD fG;have:s.length<=(jk (w.cV+1) (gr w.cQ s)).length:=by
     grind [jk,gr,jA,mU]
    omega
   omega
  have hlong:fb w.aW<(jl (w.cV+1) w.cQ s).length / 16:=om;have hB:∀ e:Nat,e≠0->oJ w s=(w,e)->uz nl nw w s= .aw [iY nl nw w, .aa .i64 e]:=λe he q=>by
   grind [uz]
  have hR1:w.gp≠0->uz nl nw w s= .aw [iY nl nw w, .aa .i64 140]:=λq=>hB 140 dd (by
   grind [oJ,jz])
  have hR2:w.gp=0->200<=w.cV->uz nl nw w s= .aw [iY nl nw w, .aa .i64 193]:=λq1 q2=>hB 193 dd (by
   unfold oJ;rw [if_neg (λp=>by omega)];unfold jz;simp_all)
  have hR3:w.gp=0->¬200<=w.cV->40000<(gr w.cQ s).length->uz nl nw w s= .aw [iY nl nw w, .aa .i64 130]:=λq1 q2 q3=>hB 130 dd (by
   grind [oJ])
  have hR4:w.gp=0->¬200<=w.cV->¬40000<(gr w.cQ s).length->uz nl nw w s= .aw [iY nl nw w, .aa .i64 120]:=λq1 q2 q3=>hB 120 dd (by
   unfold oJ;rw [if_neg (λp=>q3 p.2.2)];unfold jz;simp_all)
  generalize uz nl nw w s=RV at*;refine cU Tryz.func127 ?_
  conv=>whnf
  refine ⟨λh1=>?_,λh1=>?_⟩
  ·have h1:w.gp≠0:=by
    simp_all
   rw [hR1 h1];exact bm
  have h1:w.gp=0:=by simpa using h1
  conv=>whnf
  refine ⟨λh2=>?_,λh2=>?_⟩
  ·have h2:=of_decide_eq_true h2;rw [hR2 h1 om];exact bm
  have h2:=of_decide_eq_false h2
  by_cases h3:40000<(gr w.cQ s).length
  ·rw [hR3 h1 om h3];rw [if_pos h3,if_pos h3] at hmt;exact bm
  ·rw [hR4 h1 om h3];rw [if_neg h3,if_neg h3] at hmt;have hmay:ka ((w.cV+1:Nat):Int) (gr w.cQ s)=true:=zq.2 ⟨om,om,om⟩;have q1:wy ((w.cV+1:Nat):Int) (gr w.cQ s)=jl (w.cV+1) w.cQ s:=by unfold wy;rw [if_pos hmay,Int.toNat_natCast];rfl
   have q2:wA ((w.cV+1:Nat):Int) (gr w.cQ s)=0:=by grind [wA]
   rw [q1,q2] at hpk;have hml:=FQ (w.cV+1) w.cQ s;have hmb:(jl (w.cV+1) w.cQ s).length<=1000000:=by
    rw [hml];unfold wD fG;have h5:=oW (n:=w.cV+1) om;have h6:=oW (n:=(gr w.cQ s).length) om;have h7:=FK (lW (w.cV+1) (gr w.cQ s));have h8:(lW (w.cV+1) (gr w.cQ s)).length=(bW (w.cV+1)).length+((bW (gr w.cQ s).length).length+(gr w.cQ s).length):=by grind [lW]
    have h9:=oW (n:=(mU (lW (w.cV+1) (gr w.cQ s))).length) om;have h10:(jk (w.cV+1) (gr w.cQ s)).length=(bW (mU (lW (w.cV+1) (gr w.cQ s))).length).length+(mU (lW (w.cV+1) (gr w.cQ s))).length:=by grind [IN]
    omega
   generalize jl (w.cV+1) w.cQ s=ms at*;refine ak ?_;rw [hw1];refine ak ?_;have hdv:IntKind.i64.wrap ((ms.length:Int).tdiv 16)=((ms.length / 16:Nat):Int):=by
    have e:(ms.length:Int).tdiv 16=((ms.length / 16:Nat):Int):=by trivial
    grind [bj]
   refine ⟨λ_=>?_,λq=>absurd (of_decide_eq_false q) (by rw [hdv];omega)⟩;exact bm
theorem XR {l:List aH} (h:∀ o∈l,cJ o=true) (hl:l.length<=1500):(iZ l).length<=225000:=by
 grind [afL,iZ]
theorem O8 (nil:Bool) {l:List aH} (h:∀ o∈l,cJ o=true) (hl:l.length<=1500):aC Tryz.prog 21 [.ag nil 7 (iw l) .av] (.aw [.ai (iZ l), .aa .i64 0]):=by
 have:=adP nil l (λo ho=>GU (h o ho)) om (λk hk hc=>by
  grind [XR])
 rw [if_pos (List.all_eq_true.2 h),if_pos (List.all_eq_true.2 h)] at this;exact this
def Ez (b:jL):List (Am.aS×bs):=[(.af 20, .au 148 (yr b.sT b.rN b.cX))]
def B9 (b:jL):List (Am.aS×bs):=[(.af 6, .au 148 (yr b.sT b.rN b.cX))]
theorem XQ (b:jL) (h:lq b) (nil:Bool) {l:List aH} (hc:∀ o∈l,cJ o=true) (hl:l.length<=1500):bz Tryz.prog 75 [.ar 20 0, .ag nil 7 (iw l) .av] (aD (Ez b)) 21
  (cG 21 (λr es=>r= .cE (.aa .i64 (sU b l).2)/\es=Ez (sU b l).1))/\bz Tryz.prog 75 [.ar 6 0, .ag nil 7 (iw l) .av] (aD (B9 b)) 7
  (cG 7 (λr es=>r= .cE (.aa .i64 (sU b l).2)/\es=B9 (sU b l).1)):=by
 have hw:=O8 nil hc hl;have hos:=XR hc hl;have hi:=h.yR;have hM:=ajB hi h.GQ b.sT b.rN (iZ l) om h.Em (by have:=h.El;omega);have hA:sU b l=match oJ b.cX (iZ l) with
   |(w,e)=>if e≠0 then (b,(e:Int)) else match mv (kb w) with
    |(w',e')=>if e'≠0 then (b,(e':Int)) else (⟨w',false,b.rN⟩,0):=by
  unfold sU oJ;rw [if_neg (by simp_all)];show (if b.cX.gp=0/\b.cX.cV<200/\40000<(gr b.cX.cQ (iZ l)).length then (b,130) else _)=_;split
  ·rfl
  ·rfl
 rw [hA];clear hA
 by_cases he:(oJ b.cX (iZ l)).2=0
 ·have hme:oJ b.cX (iZ l)=jz b.cX (iZ l):=by
   grind [oJ]
  rw [hme] at he;have hmi:=hi.Sb (iZ l);have hmw:(jz b.cX (iZ l)).1.cD=b.cX.cD:=by grind [jz,gP]
  unfold uz at hM;rw [hme,he] at hM;rw [hme];have hloose:(jz b.cX (iZ l)).1.aW.cH.length<=100000:=by grind [h.El,hi.aaY (iZ l)]
  generalize jz b.cX (iZ l)=y at*;obtain ⟨w,e⟩:=y;dsimp only at*;subst he;rw [if_neg dd];have hS:=Nb hmi false b.rN (λq=>by cases q) om;have hsl:=Oz hmi;have hwt:(kb w).cD=w.cD:=by grind [kb]
  have hW:=adz hmi.IQ true b.rN (λ_=>hsl) (λq=>by rw [hwt,hmw];exact h.agP q) (by simp_all);unfold Gg at hS;unfold Nf at hW;have hwk:(mv (kb w)).2=0->(kb w).gp=2:=λq=>by
   grind [mv]
  have hwe:(mv (kb w)).2=0\/(mv (kb w)).2=140:=by
   grind [mv]
  generalize mv (kb w)=z at*;obtain ⟨w',e'⟩:=z;dsimp only at*;rcases hwe with rfl|rfl
  ·rw [if_neg dd];rw [if_neg om] at hW;constructor
   all_goals
    refine bn Tryz.func75 ?_;refine ak ?_;exact ⟨_,_,⟨rfl,rfl⟩,rfl,⟨rfl,rfl⟩,⟨rfl,rfl,trivial⟩⟩
  ·rw [if_pos dd];constructor
   all_goals
    refine bn Tryz.func75 ?_;refine ak ?_;exact ⟨_,_,⟨rfl,rfl⟩,rfl,⟨rfl,rfl⟩,⟨rfl,rfl,trivial⟩⟩
 ·have hb:(oJ b.cX (iZ l)).1=b.cX:=by
   grind [oJ,jz]
  unfold uz at hM;rw [if_neg he,hb] at hM;generalize oJ b.cX (iZ l)=y at*;obtain ⟨w,e⟩:=y;dsimp only at*;rw [if_pos he];constructor
  all_goals
   refine bn Tryz.func75 ?_;refine ak ?_;refine ⟨λ_=>?_,λq=>absurd (by simpa using q) he⟩
   conv=>whnf
   exact ⟨_,_,⟨rfl,rfl⟩,rfl,⟨rfl,rfl⟩,⟨rfl,rfl,trivial⟩⟩
theorem ajE (b:jL) (h:lq b) {o:aH} (hc:cJ o=true):bz Tryz.prog 73 [.ar 20 0,mV o] (aD (Ez b)) 21
  (cG 21 (λr es=>r= .cE (.aa .i64 (yP b o).2)/\es=Ez (yP b o).1)):=by
 have hp:=Ub [] o (GU hc) dd;rw [show zx [] o=dM o by grind [zx],show zy o=0 by grind [zy]] at hp;have hi:=h.yR;have hbig:=hi.x8;have hnx:=hi.sw;have hA:=adn b.sT b.rN b.cX (dM o) om om;unfold M6 at hA;unfold yP;rw [if_neg (by rw [hc];decide)]
 by_cases hx:40000<(dM o).length\/1000000<b.cX.cQ
 ·rw [if_pos hx];have e:ot b.cX (dM o)=(b.cX,0,130):=by grind [ot]
  rw [if_pos hx,e] at hA;refine bn Tryz.func73 ?_;refine cC ?_;exact ⟨_,_,⟨rfl,rfl⟩,rfl,⟨rfl,rfl⟩,⟨rfl,rfl,trivial⟩⟩
 ·rw [if_neg hx];have e:ot b.cX (dM o)=((ot b.cX (dM o)).1,b.cX.cQ,0):=by grind [ot]
  rw [if_neg hx,e] at hA;generalize (ot b.cX (dM o)).1=w at*;refine bn Tryz.func73 ?_;refine cC ?_;exact ⟨_,_,⟨rfl,rfl⟩,rfl,⟨rfl,rfl⟩,⟨rfl,rfl,trivial⟩⟩
theorem ajD (b:jL) (h:lq b) (nil:Bool) {l:List aH} (hc:∀ o∈l,cJ o=true) (hl:l.length<=1500):bz Tryz.prog 72 [.ar 20 0, .ag nil 7 (iw l) .av] (aD (Ez b)) 21
  (cG 21 (λr es=>r= .cE (.aa .i64 (Ad b l).2)/\es=Ez (Ad b l).1)):=by
 have hAn:=(XQ b h nil hc hl).1;have hi:=h.yR;have hlo:=h.El;have hS:=adC hi b.sT b.rN h.Em om;unfold vd at hS;have hl2:=hi.aaZ;have hi':=hi.Sc;have hsame:b.cX.cD=[]->(j1 b.cX).1=b.cX:=by grind [j1]
 unfold Ad
 by_cases he:(j1 b.cX).2=0
 ·by_cases hw:b.cX.cD=[]
  ·have e:=hsame hw;rw [if_neg (λq=>q.2 hw),if_neg (λq=>q.2 hw),he] at hS;have hSy:=Nb hi' b.sT b.rN (by rw [e];exact h.Em) om;unfold Gg at hSy;generalize j1 b.cX=y at*;obtain ⟨w,e'⟩:=y;dsimp only at*;subst he;rw [if_neg dd,if_pos hw];refine bn Tryz.func72 ?_;refine ak ?_;exact ⟨_,_,⟨rfl,rfl⟩,rfl,⟨rfl,rfl⟩,⟨rfl,rfl,trivial⟩⟩
  ·rw [if_pos ⟨he,hw⟩,if_pos ⟨he,hw⟩,he] at hS;have hSy:=Nb hi' false true (λq=>by cases q) om;unfold Gg at hSy;generalize j1 b.cX=y at*;obtain ⟨w,e'⟩:=y;dsimp only at*;subst he;rw [if_neg dd,if_neg hw];refine bn Tryz.func72 ?_;refine ak ?_;exact ⟨_,_,⟨rfl,rfl⟩,rfl,⟨rfl,rfl⟩,⟨rfl,rfl,trivial⟩⟩
 ·rw [if_neg (λq=>he q.1),if_neg (λq=>he q.1)] at hS;generalize j1 b.cX=y at*;obtain ⟨w,e⟩:=y;dsimp only at*;rw [if_pos he];generalize sU b l=z at*;refine bn Tryz.func72 ?_;refine ak ?_;refine ⟨λ_=>?_,λq=>absurd (by simpa using q) he⟩;refine eJ ?_;exact ⟨_,_,⟨rfl,rfl⟩,rfl,⟨rfl,rfl⟩,⟨rfl,rfl,trivial⟩⟩
theorem ajC (b:jL) (h:lq b) (picks:List UInt8) (hp:picks.length<=1000):bz Tryz.prog 50 [.ar 6 0, .ai picks] (aD (B9 b)) 7
  (cG 7 (λr es=>r= .cE (j6 true (jO b.cX.aW (ew picks)))/\es=B9 b)):=by
 have hi:=h.yR;have hlo:=h.El;have hC:=(T6 hi b.sT picks hp h.Em om).1;generalize jO b.cX.aW (ew picks)=D at*;refine bn Tryz.func50 ?_;refine ak ?_;exact ⟨_,_,⟨rfl,rfl⟩,rfl,⟨rfl,rfl⟩,⟨rfl,rfl,trivial⟩⟩
theorem XS {T:Nat} {d:dF} (h:dZ T d):d.bL.bG.ab.length<=1500:=by
 have h1:=h.jU.sS;have h2:=h.jU.jb.ja.qL;omega
theorem ajF {T:Nat} (d:dF) (h:dZ T d):aC Tryz.prog 36 [jM d] (.aw [jM (Ae d).1, .aa .i64 (Ae d).2]):=by
 have hA:=(XQ d.kT h.ux d.bL.bG.bZ h.jU.sR (XS h)).2;unfold Ae;generalize sU d.kT d.bL.bG.ab=y at*;obtain ⟨b,e⟩:=y;dsimp only at*;refine cU Tryz.func36 ?_;refine eJ ?_
 by_cases he:e=0
 ·subst he;rw [if_neg dd];exact bm
 ·rw [if_pos he]
  conv=>whnf
  refine ⟨λ_=>?_,λq=>absurd (by simpa using q) he⟩;exact bm
end Go.Proofs.YtffboamedcmpaaaGreatDoor
namespace Gw
theorem ajI (r:List UInt8) (l:List (List UInt8)) (acc:List aH):xh (r::l) acc=match kO r with
  |some (o,[])=>xh l (acc++[o])
  |_=>none:=rfl
end Gw
namespace Go.Proofs.YtffboamedcmpaaaGreatDoor
open Gw
open Go.Am
def G6:List ae:=[.ag true 1 [] .bR, .ag true 1 [] .bR, .aa .i64 0, .aa .i64 0, .ag true 1 [] .bR, .ag true 1 [] .bR, .aa .i64 0, .ag true 1 [] .bR, .ag true 1 [] .bR, .aa .i64 0, .ag true 1 [] .bR, .ag true 1 [] .bR, .aa .i64 0, .ag true 1 [] .bR,
 .aa .i64 0, .ai [], .ag true 1 [] .bR, .aa .i64 0, .aa .i64 0, .aa .i64 0, .aa .i64 0, .aa .i64 0, .aa .i64 0, .ag true 1 [] .bR, .bo, .aa .i64 0, .aa .i64 0, .aa .i64 0, .aa .i64 0]
theorem ajH (b:jL) (h:lq b) (r:Int) (picks:List UInt8) (hp:picks.length<=1000):aC Tryz.prog 49 [.aa .i64 r,j6 true (jO b.cX.aW (ew picks))] (.aw [jM (yO r (jO b.cX.aW (ew picks))).1, .aa .i64 (yO r (jO b.cX.aW (ew picks))).2]):=by
 have hc:=XA r;have he:=XP r;have hno:= @Ow r;have hO:=(T6 h.yR b.sT picks hp h.Em (by have:=h.El;omega)).2;have hL:=Wn h picks;have hE:=aa4 (jO b.cX.aW (ew picks));unfold wT at hO;unfold yO;generalize jO b.cX.aW (ew picks)=D at*;generalize iX D=O at*;generalize oD r=y at*;obtain ⟨c,e⟩:=y;dsimp only at*;rcases he with rfl|rfl
 ·have hno:=hno rfl;rw [if_neg dd];rcases hE with hE|hE
  rotate_left
  ·rw [hE] at hO ⊢;rw [if_pos dd];refine cU Tryz.func49 ?_;refine ak ?_;exact iL.ml (.aX (.np oT) (.aX (.bw _) .fa))
  obtain ⟨_,hO2,hO3,hO4⟩:=hL hE;have hO:aC Tryz.prog 102 [j6 true D] (.aw [iY false true O.tJ, .ai O.ya, .ag (decide (O.kJ=[])) 1 (gJ O.kJ) .av, .aa .i64 0]):=by rw [hE] at hO;exact hO
  rw [if_neg (by rw [hE];decide)];refine cU Tryz.func49 ?_;refine ak ?_;refine bn Tryz.func103 ?_
  conv=>whnf
  refine db.zd 4 130 7 rfl rfl (.inr rfl) ?_;refine db.cK (X:=List UInt8×List aH) (λx=>[(.aj 0, .ah (.ai x.1)),(.aj 4, .ah (.ag (decide (x.2=[])) 7 (iw x.2) (.dB 29))),(.aJ 29, .aN 130 7 x.2.length),(.af 1, .au 49 G6),(.af 7, .au 41 (DW c)),(.af 18, .au 47 (yr false true O.tJ))]) 30
   (λx=>x.1.length+x.2.length<=1048576/\∃ f,x.1.length<f/\pV O.ya=mB f x.1 x.2) (λx=>x.1.length) dd (O.ya,[]) ⟨by grind,O.ya.length+1,Nat.lt_succ_self _,rfl⟩ ⟨rfl,rfl,rfl,rfl,rfl,rfl,rfl,rfl,rfl,rfl,rfl,rfl,trivial⟩ ?_
  rintro ⟨rest,acc⟩ ⟨h1,f,hf,hr⟩;simp only at h1 hf hr;have htk:=Nh rest om;have hal:=Jh acc;refine cn ?_;refine ⟨λh=>?_,λh=>?_⟩
  ·have h:rest≠[]:=by
    simp_all
   obtain ⟨f,rfl⟩:∃ g,f=g+1:=⟨f - 1,om⟩;rw [mB,if_neg h] at hr
   conv=>whnf
   cases ht:kO rest with
   |none=>
    rw [ht] at htk hr;simp only at hr;rw [hr];refine ak ?_;exact iL.ml (.aX (.np oT) (.aX (.bw _) .fa))
   |some oq=>
    obtain ⟨o,q⟩:=oq;have hlen:=Np ht;rw [ht] at htk hr;simp only at hr;refine ak ?_;refine ⟨⟨hal.symm,dG (by grind) dd⟩,?_⟩
    conv=>whnf
    refine ⟨(q,acc++[o]),⟨by grind,f,by grind,hr⟩,hlen,⟨rfl,rfl,?_,rfl,?_,rfl,rfl,rfl,rfl,rfl,rfl,rfl,trivial⟩⟩
    ·show bs.ah (ae.ag (decide (acc=[]) && false) 7 (iw acc++[cI o]) _)=bs.ah (ae.ag (decide (acc++[o]=[])) 7 (iw (acc++[o])) _);rw [Bool.and_false,decide_eq_false (by simp),iw,iw,List.map_append];rfl
    ·show bs.aN _ 7 ((iw acc).length+1)=bs.aN _ 7 (acc++[o]).length;simp_all
  ·have h:rest=[]:=by
    simp_all
   have e:mB f rest acc=some acc:=by
    cases f with
    |zero=>rfl
    |succ f=>rw [mB,if_pos h]
   rw [e] at hr;rw [hr];dsimp only;have hrd:=Wp hr;refine ak ?_;have hrl:=zJ O.kJ;refine db.cK (X:=Nat×List aH) (λx=>[(.aj 4, .ah (.ar 1 0)),(.aj 6, .ah (.ar 7 0)),(.aj 8, .ah (.ar 18 0)),(.aj 11, .ah (.ag (decide (x.2=[])) 7 (iw x.2) (.dB 29))),(.aJ 29, .aN 130 7 x.2.length),(.aj 45, .ah (.ag (decide (O.kJ=[])) 1 (gJ O.kJ) .av)),(.aj 46, .ah (.aa .i64 O.kJ.length)),(.aj 47, .ah (.aa .i64 x.1)),
    (.af 1, .au 49 G6),(.af 7, .au 41 (DW c)),(.af 18, .au 47 (yr false true O.tJ))]) 30
    (λx=>x.1<=O.kJ.length/\x.2.length=acc.length+x.1/\(∀ o∈x.2,cJ o=true)/\xh (O.kJ.drop x.1) x.2=xh O.kJ acc) (λx=>O.kJ.length - x.1) dd (0,acc) ⟨Nat.zero_le _,rfl,hrd.2,rfl⟩ ⟨rfl,rfl,rfl,rfl,rfl,rfl,rfl,rfl,rfl,rfl,rfl,rfl,?_,rfl,rfl,rfl,rfl,rfl,rfl,rfl,rfl,rfl,trivial⟩ ?_
   ·show bs.ah (ae.aa .i64 ((gJ O.kJ).length:Nat))=_;rw [hrl]
   rintro ⟨k,L⟩ ⟨hk,hL,hLc,hT⟩;dsimp only at hk hL hLc hT ⊢;have hal2:=Jh L;refine cn ?_;refine ⟨λh=>?_,λh=>?_⟩
   ·have h:=of_decide_eq_true h;have hlt:k<O.kJ.length:=om;have hg:=T7 hlt;have hdr:=List.drop_eq_getElem_cons hlt;have hsh:=hO4 O.kJ[k] (List.getElem_mem hlt);have w1:IntKind.i64.wrap ((k:Int)+1)=((k+1:Nat):Int):=by grind [bj]
    rw [hdr] at hT;generalize O.kJ[k]=s at*;have htk:=Nh s om;rw [ajI] at hT;cases ht:kO s with
    |none=>
     rw [ht] at htk hT;dsimp only at hT;rw [<-hT];refine ak ?_;exact iL.ml (.aX (.np oT) (.aX (.bw _) .fa))
    |some oq=>
     obtain ⟨o,q⟩:=oq;rw [ht] at htk hT;cases q with
     |nil=>
      dsimp only at hT;refine ak ?_;refine ⟨⟨hal2.symm,dG (by grind) dd⟩,?_⟩
      conv=>whnf
      refine ⟨(k+1,L++[o]),⟨om,by grind,λx hx=>?_,hT⟩,by grind,⟨rfl,rfl,rfl,rfl,rfl,rfl,?_,rfl,?_,rfl,rfl,rfl,rfl,rfl,?_,rfl,rfl,rfl,rfl,rfl,rfl,rfl,trivial⟩⟩
      ·rcases List.mem_append.1 hx with hx|hx
       ·exact hLc x hx
       ·rw [List.mem_singleton.1 hx];exact (JT ht).1
      ·show bs.ah (ae.ag (decide (L=[]) && false) 7 (iw L++[cI o]) _)=bs.ah (ae.ag (decide (L++[o]=[])) 7 (iw (L++[o])) _);rw [Bool.and_false,decide_eq_false (by simp),iw,iw,List.map_append];rfl
      ·show bs.aN _ 7 ((iw L).length+1)=bs.aN _ 7 (L++[o]).length;simp_all
      ·exact dh
     |cons q0 q=>
      dsimp only at hT;rw [<-hT];refine cC ?_;exact iL.ml (.aX (.np oT) (.aX (.bw _) .fa))
   ·have h:=of_decide_eq_false h;obtain rfl:k=O.kJ.length:=om;rw [List.drop_length] at hT;have hT:some L=xh O.kJ acc:=hT;rw [<-hT];have hMr:=aiV c.br hno.jb.ja (decide (L=[])) L (λo ho=>GU (hLc o ho)) om;refine ak ?_;have hfl:decide (L=[])=(true && L.isEmpty):=by cases L<;>rfl
    rw [hal2,hfl];exact iL.bw _
 ·rw [if_pos dd];refine cU Tryz.func49 ?_;refine ak ?_;exact iL.ml (.aX (.np oT) (.aX (.bw _) .fa))
theorem ajG {P:Program} {m0 n:Nat} {f:FuncId} {args:List ae} {σ:az} {rx:List Go.Am.aS} {l1:Go.Am.aS} {c1:bs} {res:ae} (h:mi P m0 f args σ n rx [(l1,c1)] res) (m1:l1∈rx) (e1:σ l1=c1):mi P m0 f args σ n rx [] res:=
 ⟨h.AI,λσ' ha b D g w vals h1 h2 h3 h4 h5 h6=>by
  have:=h.AJ σ' ha b D g w vals h1 h2 h3 h4 h5 h6;grind [eG,B7]⟩
theorem XT {T:Nat} (d:dF) (h:dZ T d) (picks:List UInt8) (hp:picks.length<=1000):aC Tryz.prog 25 [jM d, .ai picks] (.aw [jM (yN d picks).1, .aa .i64 (yN d picks).2]):=by
 have hC:=ajC d.kT h.ux picks hp;have hO:=ajH d.kT h.ux d.bL.br.iH picks hp;have ho:=Wo h.ux d.bL.br.iH picks;unfold yN;generalize hD:jO d.kT.cX.aW (ew picks)=D at*;generalize yO d.bL.br.iH D=y at*;obtain ⟨n,e⟩:=y;dsimp only at*;refine aC.Ex dW (fn:=Tryz.f25) aG rfl aG rfl rfl ?_;refine db.wh (se dW jd _ _ _ _ ?_)
 conv=>whnf
 refine ⟨0,_,_,_,rfl,ajG (mi.Xn (m:=7) (res:=j6 true D) (es:=B9 d.kT) (es':=B9 d.kT) ⟨rfl,rfl,trivial⟩ rfl rfl rfl rfl rfl rfl hC) (by simp [B9]) rfl,rfl,?_⟩
 conv=>whnf
 refine ⟨0,_,_,_,rfl,(CN.AP hO rfl).zi,rfl,?_⟩;refine ak ?_;refine ⟨λh=>?_,λh=>?_⟩
 ·rw [if_pos (by simpa using h)];exact bm
 ·rw [if_neg (by simpa using h)]
  conv=>whnf
  have he:e=0:=by simpa using h
  subst he;exact iL.bw _
theorem XU {T:Nat} (d:dF) (h:dZ T d) (p:Int) (hT:T<=99000):aC Tryz.prog 34 [jM d, .aa .i64 p] (jM (Ah d p)):=by
 have hthr:=h.jU.gC.ma;have hheld:=h.jU.gC.nO;have hgrp:=h.jU.p8;have hpk:=Kj d.bL p om om om;unfold Ah;cases hp:qI d.bL p with
 |none=>
  rw [hp] at hpk;have hpk:aC Tryz.prog 69 [lM d.bL, .aa .i64 p] (.aw [.aa .i64 0, .aE false, .aE false]):=hpk;refine cU Tryz.func34 ?_;exact bm
 |some y=>
  obtain ⟨k,kp⟩:=y;rw [hp] at hpk;have hpk:aC Tryz.prog 69 [lM d.bL, .aa .i64 p] (.aw [.aa .i64 k, .aE kp, .aE true]):=hpk;cases kp with
  |true=>
   have hK:=ajD d.kT h.ux d.bL.bG.bZ h.jU.sR (XS h);dsimp only;generalize Ad d.kT d.bL.bG.ab=y at*;obtain ⟨b,e⟩:=y;dsimp only at*;have hS:=XN d.bL p (decide (e≠0)) hT h.jU;rw [show decide (e≠0)=(e !=0) by grind] at hS ⊢;generalize pX d.bL p (e !=0)=x at*;refine cU Tryz.func34 ?_;refine eJ ?_;refine bn Tryz.func70 ?_;exact bm
  |false=>
   have hS:=XN d.bL p false hT h.jU;have hso:=Ox h.jU p false;generalize pX d.bL p false=x at*;dsimp only;refine cU Tryz.func34 ?_;refine ak ?_;refine bn Tryz.func70 ?_;refine ak ?_;refine ⟨?_,?_⟩
   ·grind
   conv=>whnf
   have hne:=hso.uv;have hmay:=hso.sR;have hfew:=hso.sS;have hfew2:=hso.jb.ja.qL;obtain ⟨K,hK⟩:∃ K,(min (max d.yM 0) (x.bG.ab.length:Int)).toNat=K:=⟨_,rfl⟩;have hun:Oy d.yM x.bG.ab=x.bG.ab.drop K:=by grind [Oy]
   rw [hun];obtain ⟨L,hL⟩:∃ L,x.bG.ab.drop K=L:=⟨_,rfl⟩;rw [hL];have hLl:L.length<=1500:=by grind
   have hLc:∀ o∈L,cJ o=true:=λo ho=>hmay o (List.mem_of_mem_drop (hL▸ho))
   have hLm:(x.bG.ab.map cI).drop (min (max d.yM 0) ((x.bG.ab.map cI).length:Int)).toNat=L.map cI:=by
    grind [List.map_drop]
   have hLn:(L.map cI).length=L.length:=List.length_map _;refine db.cK (X:=Nat×jL) (λy=>[(.aj 2, .ah (.ar 0 0)),(.aj 4, .ah (.ar 2 0)),(.aj 9, .ah (.ar 20 0)),(.aj 10, .ah (.ag x.bG.bZ 7 (x.bG.ab.map cI) .av)),(.aj 57, .ah (.ag x.bG.bZ 7 (L.map cI) .av)),(.aj 58, .ah (.aa .i64 L.length)),(.aj 59, .ah (.aa .i64 y.1)),
    (.af 0, .au 49 (vP ⟨x,d.kT,d.yM⟩)),(.af 2, .au 49 G6),(.af 20, .au 148 (yr y.2.sT y.2.rN y.2.cX))]) 21
    (λy=>y.1<=L.length/\lq y.2/\Ag y.2 (L.drop y.1)=Ag d.kT L) (λy=>L.length - y.1) dd (0,d.kT) ⟨Nat.zero_le _,h.ux,rfl⟩ ⟨rfl,rfl,rfl,rfl,rfl,rfl,rfl,rfl,?_,rfl,?_,rfl,rfl,rfl,rfl,rfl,rfl,rfl,rfl,rfl,trivial⟩ ?_
   ·show bs.ah (ae.ag x.bG.bZ 7 ((x.bG.ab.map cI).drop (min (max d.yM 0) ((x.bG.ab.map cI).length:Int)).toNat) .av)=_;rw [hLm]
   ·show bs.ah (ae.aa .i64 (((x.bG.ab.map cI).drop (min (max d.yM 0) ((x.bG.ab.map cI).length:Int)).toNat).length:Nat))=_;rw [hLm,hLn]
   rintro ⟨k,b⟩ ⟨hk,hb,hpa⟩;dsimp only at hk hb hpa ⊢;refine cn ?_;refine ⟨λh=>?_,λh=>?_⟩
   ·have h:=of_decide_eq_true h;have hlt:k<L.length:=om;have hg:(L.map cI)[k]? =some (cI L[k]):=by simp_all
    have hdr:=List.drop_eq_getElem_cons hlt;have hco:=hLc L[k] (List.getElem_mem hlt);have w1:IntKind.i64.wrap ((k:Int)+1)=((k+1:Nat):Int):=by grind [bj]
    rw [hdr] at hpa;generalize L[k]=o at*;have hP:=ajE b hb hco;have hok:=Wg hb o;rw [Ag] at hpa;generalize yP b o=z at*;obtain ⟨b',e⟩:=z;dsimp only at*;refine eJ ?_;refine ⟨λhe=>?_,λhe=>?_⟩
    ·rw [if_pos (by simpa using he)] at hpa;rw [<-hpa]
     conv=>whnf
     rw [show (x.bG.ab.map cI).length=x.bG.ab.length from List.length_map _];exact iL.bw _
    ·rw [if_neg (by simpa using he)] at hpa
     conv=>whnf
     refine ⟨(k+1,b'),⟨om,hok,hpa⟩,by grind,⟨rfl,rfl,rfl,rfl,rfl,rfl,rfl,rfl,rfl,rfl,rfl,rfl,?_,rfl,rfl,rfl,rfl,rfl,rfl,rfl,trivial⟩⟩;exact dh
   ·have h:=of_decide_eq_false h;obtain rfl:k=L.length:=om;rw [List.drop_length] at hpa;have hpa:b=Ag d.kT L:=hpa;rw [<-hpa]
    conv=>whnf
    rw [show (x.bG.ab.map cI).length=x.bG.ab.length from List.length_map _];exact iL.bw _
end Go.Proofs.YtffboamedcmpaaaGreatDoor
