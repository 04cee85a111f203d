import Derived.Test.YtffboamedcmpaaaGreatDoorCq
set_option linter.all false
set_option maxHeartbeats 4000000
set_option maxRecDepth 100000
namespace Go.Proofs.YtffboamedcmpaaaGreatDoor
open Gw
open Go.Am
theorem Kf (l:List fQ):fL (l.map ej).flatten=true:=by
 induction l with
 |nil=>rfl
 |cons a l ih=>exact ih
def ON (next id:Int):List ae:=[.aa .i64 next, .aa .i64 id, .ag true 1 [] .av, .aE false]
theorem ahX (next id:Int):mO (ON next id) (ej ⟨next,id,⟨.dE,false⟩⟩):= .aX (.bw _) (.aX (.bw _) (.aX (.eR _ _ _) (.aX (.bw _) .fa)))
theorem Xe (l:List fQ) (next id:Int):iL (.ag false 4 (l.map ej++[ON next id]) .av) (.ag false 4 ((l++[(⟨next,id,⟨.dE,false⟩⟩:fQ)]).map ej) .av):=by
 grind [Xc,mO.E5,ahX]
theorem ahY (m:bM) (c:bu) (hm:py m) (hp:c.bY.length<=1048576):bz Tryz.prog 85 [.ar 10 0] (aD (nQ m c)) 11
  (cG 11 (λr es=>r= .cE (.aa .i64 (uo (bI m c)).2)/\es=qO (uo (bI m c)).1)):=by
 have hel:(m.de.ab.map ej).length=m.de.ab.length:=List.length_map _;have hiN:=B4 hm.nR;have hlN:=Er hm.nR;have hat:=En m.aA.aQ.bZ m.aA.aQ.ab hiN hlN c.bY hp;have hai:=Ep hiN c.bY;have hdi:=tS _ hai;have hB0:uo (bI m c)=if (gx m.aA.aQ.ab c.bY).2≠0 then (bI m c,(gx m.aA.aQ.ab c.bY).2) else if fk (gx m.aA.aQ.ab c.bY).1=false then (bI m c,81) else if 8<=m.de.ab.length then (bI m c,193)
  else ({bI m c with gj:={fg 0 with qF:=m.fz},bp:={m with de:=m.de.jg ⟨m.fz,(gx m.aA.aQ.ab c.bY).1,⟨.dE,false⟩⟩,fz:=m.fz+1}},0):=rfl
 have hnx:=hm.W8;have w1:IntKind.i64.wrap (m.fz+1)=m.fz+1:=bj om om;generalize uo (bI m c)=B at*;generalize gx m.aA.aQ.ab c.bY=A at*;obtain ⟨id,e⟩:=A;dsimp only at*
 by_cases h2:e=0
 ·subst h2;rw [if_neg (show ¬((0:Int)≠0) by decide)] at hB0;cases hdd:fk id with
  |false=>
   refine bz.na 10 ?_;rw [if_pos hdd] at hB0;rw [hdd] at hdi;subst hB0;refine bn Tryz.func85 ?_;refine ak ?_;exact fM
  |true=>
   rw [if_neg (by rw [hdd];decide)] at hB0;rw [hdd] at hdi
   by_cases h8:8<=m.de.ab.length
   ·refine bz.na 10 ?_;rw [if_pos h8] at hB0;subst hB0;refine bn Tryz.func85 ?_;refine ak ?_;refine C8 om ?_;exact fM
   ·rw [if_neg h8] at hB0;subst hB0;have hlt:¬(8:Int)<=((m.de.ab.map ej).length:Nat):=by rw [hel];omega
    obtain ⟨log,seen,replica,snaps,⟨wq,W⟩,next⟩:=m;cases W with
    |nil=>
     refine bz.na 10 ?_;refine bz.J9 10 5 65 ?_;refine bz.zo ?_;refine bn Tryz.func85 ?_
     conv=>whnf
     refine ⟨0,_,_,_,rfl,(CN.AP hat rfl).zi,rfl,?_⟩;refine cC ?_;refine ⟨0,_,_,_,rfl,mi.xR (U6 _) rfl,rfl,?_⟩
     conv=>whnf
     refine ⟨⟨rfl,by show 0<1;decide,dG (by simp_all) dd⟩,?_⟩;refine ak ?_;refine ⟨_,_,_,[ON next id],_,_,rfl,rfl,rfl,rfl,λel hel=>by rw [List.mem_singleton] at hel;subst hel;rfl,rfl,?_⟩;refine ⟨_,_,_,rfl,rfl,?_,_,_,⟨rfl,rfl⟩,rfl,⟨rfl,rfl⟩,⟨rfl,rfl,trivial⟩⟩
     repeat (first|exact mO.fa|refine mO.aX (iL.bw _) ?_|refine mO.aX (iL.eR _ _ _) ?_|fail "end")
     refine mO.aX (Xe [] next id) ?_;exact mO.aX (iL.mj (congrArg (ae.aa .i64) w1)) oT
    |cons s r=>
     have hcs:nz Tryz.prog 89 [.ag (cj.bZ ⟨wq,s::r⟩) 4 ((s::r).map ej) .av] 184 4 ((s::r).map ej).length ((s::r).map ej).flatten:=by
      grind [cj.bZ,JI]
     refine bz.na 10 ?_;refine bz.zo ?_;refine bn Tryz.func85 ?_
     conv=>whnf
     refine ⟨0,_,_,_,rfl,(CN.AP hat rfl).zi,rfl,?_⟩;refine ak ?_;refine fu hlt ?_
     conv=>whnf
     refine ⟨0,_,_,_,rfl,mi.tF hcs rfl,rfl,?_⟩
     conv=>whnf
     refine ⟨(s::r).map ej,⟨rfl,λel hel=>by obtain ⟨z,_,rfl⟩:=List.mem_map.1 hel;rfl,rfl,Kf _,dG (by grind) dd⟩,?_⟩;refine ak ?_;refine ⟨_,_,_,rfl,rfl,?_,_,_,⟨rfl,rfl⟩,rfl,⟨rfl,rfl⟩,⟨rfl,rfl,trivial⟩⟩
     repeat (first|exact mO.fa|refine mO.aX (iL.bw _) ?_|refine mO.aX (iL.eR _ _ _) ?_|fail "end")
     refine mO.aX (Xe (s::r) next id) ?_;exact mO.aX (iL.mj (congrArg (ae.aa .i64) w1)) oT
 ·refine bz.na 10 ?_;rw [if_pos h2] at hB0;subst hB0;refine bn Tryz.func85 ?_;refine ak ?_;refine ⟨λ_=>?_,λq=>absurd (by simpa using q) h2⟩;exact fM
def B6 (f:fQ->fQ) (l:List fQ) (k:Nat):List fQ:=(l.take k).map f++l.drop k
theorem Eu {M cs:List ae} {o sz:Nat} (h:(M.drop o).take sz=cs) (i j:Nat) (hj:i+j<=sz):(M.drop (o+i)).take j=(cs.drop i).take j:=by
 grind [List.drop_take,List.drop_drop]
theorem Xf {M cs:List ae} {o sz:Nat} (h:(M.drop o).take sz=cs) (i:Nat) (hi:i<sz):M[o+i]? =cs[i]?:=by
 grind
theorem ahZ (d:dj) (q1:Bool) (was:List aI) (hw:Et was) (hn:Et d.bp.aA.aQ.ab) (hl:d.bp.de.ab.length<=1000) (hq:∀ w∈d.bp.de.ab,w.l8.oB.ab.length<=1000)
  (hev:∀ w∈d.bp.de.ab,(vj (eL was w.kC) (eL d.bp.aA.aQ.ab w.kC)).length<=100000):
  bz Tryz.prog 41 [.ar 10 0, .ag q1 8 (cT was) .av] (aD (qO d)) 11 (cG 11 (λr es=>r= .cE (.aw [])/\es=qO (DU d was))):=by
 have hel:(d.bp.de.ab.map ej).length=d.bp.de.ab.length:=List.length_map _;have hdf:=λdir=>aeC q1 d.bp.aA.aQ.bZ was d.bp.aA.aQ.ab dir hw.rO hn.rO (Nat.le_trans hw.vK dd) (Nat.le_trans hn.vK dd) hw.B5 hn.B5
 unfold DU;obtain ⟨⟨log,seen,replica,snaps,⟨wq,W⟩,next⟩,a,c,ops⟩:=d;dsimp only at*;cases W with
 |nil=>
  have hc:=aeM (cj.bZ ⟨wq,([]:List fQ)⟩) [] (λ_=>rfl) dd;refine bn Tryz.func41 ?_;refine ak ?_;refine db.cK (X:=Unit) (λ_=>[(.af 10, .au 117 (NB ⟨⟨log,seen,replica,snaps,⟨wq,[]⟩,next⟩,a,c,ops⟩)),(.aj 21, .ah (.aa .i64 0)),(.aj 22, .ah (.aa .i64 0))]) 11 (λ_=>True) (λ_=>0) dd () trivial ⟨rfl,rfl,rfl,rfl,rfl,rfl,trivial⟩ ?_;rintro ⟨⟩ _;refine cn ?_;refine ak ?_;exact ⟨_,_,⟨rfl,rfl⟩,rfl,⟨rfl,rfl⟩,⟨rfl,rfl,trivial⟩⟩
 |cons s r=>
  have hcs:nz Tryz.prog 89 [.ag (cj.bZ ⟨wq,s::r⟩) 4 ((s::r).map ej) .av] 184 4 ((s::r).map ej).length ((s::r).map ej).flatten:=by
   grind [cj.bZ,JI]
  refine bz.na 10 ?_;refine bz.J9 10 5 17 ?_;refine bn Tryz.func41 ?_
  conv=>whnf
  refine bz.xP hcs rfl ?_
  conv=>whnf
  have hW:(s::r).length<=1000:=hl;generalize hWW:s::r=W at*;clear hcs;refine db.cK (λk:Nat=>[(.aj 0, .ah (.ar 10 0)),(.aj 1, .ah (.ag q1 8 (cT was) .av)),(.af 10, .au 117 ((NB ⟨⟨log,seen,replica,snaps,⟨wq,W⟩,next⟩,a,c,ops⟩).set 5 (.aL 17 0 4 (W.map ej).length true))),
   (.af 17, .aR 184 (((B6 (nL was log.aQ.ab) W k).map ej).flatten)),(.aj 21, .ah (.aa .i64 W.length)),(.aj 22, .ah (.aa .i64 k))]) 18
   (λk=>k<=W.length) (λk=>W.length - k) dd 0 (Nat.zero_le _) ⟨rfl,rfl,rfl,rfl,rfl,rfl,rfl,rfl,?_,rfl,rfl,rfl,trivial⟩ ?_
  ·show bs.ah (ae.aa .i64 ((W.map ej).length:Nat))=_;rw [hel]
  intro k hk;refine cn ?_;refine ⟨λh=>?_,λh=>?_⟩
  ·have h:=of_decide_eq_true h;have hlt:k<W.length:=om;have w1:IntKind.i64.wrap ((k:Int)+1)=((k+1:Nat):Int):=by grind [bj]
   have o1:0+(k:Int).toNat*4=k*4:=om;have hWd:=List.drop_eq_getElem_cons hlt;have hxm:W[k]∈W:=List.getElem_mem hlt;have hT0:B6 (nL was log.aQ.ab) W k=(W.take k).map (nL was log.aQ.ab)++W[k]::W.drop (k+1):=by grind [B6]
   have hnext:B6 (nL was log.aQ.ab) W (k+1)=(W.take k).map (nL was log.aQ.ab)++nL was log.aQ.ab W[k]::W.drop (k+1):=by
    grind [B6]
   rw [hT0];generalize hx:W[k]=x at*;have hll:((W.take k).map (nL was log.aQ.ab)).length=k:=by simp_all
   have hput:=ae8 x.l8 (decide (vj (eL was x.kC) (eL log.aQ.ab x.kC)=[])) (vj (eL was x.kC) (eL log.aQ.ab x.kC)) (Nat.le_trans (hq x hxm) dd) (hev x hxm);have hset:=DZ (enc:=ej) (sz:=4) (λ_=>rfl) ((W.take k).map (nL was log.aQ.ab)) (W.drop (k+1)) x (nL was log.aQ.ab x);have hlk:k<((W.take k).map (nL was log.aQ.ab)++x::W.drop (k+1)).length:=by simp_all
   have hgk:((W.take k).map (nL was log.aQ.ab)++x::W.drop (k+1))[k]=x:=by
    simp_all
   have hL:=vA (enc:=ej) (sz:=4) (λ_=>rfl) hlk;have hR:=BK (enc:=ej) (sz:=4) (λ_=>rfl) hlk;rw [hgk] at hL;rw [hll] at hset;generalize (((W.take k).map (nL was log.aQ.ab)++x::W.drop (k+1)).map ej).flatten=M at*;have hQ:=Eu hL 2 2 dd;have hN:=Eu hL 0 2 dd;have hD:=Xf hL 1 dd;rw [Nat.add_zero] at hN;have hset:M.take (k*4+2)++DX (DR x.l8 (vj (eL was x.kC) (eL log.aQ.ab x.kC)))++M.drop (k*4+2+2)=(((W.take k).map (nL was log.aQ.ab)++nL was log.aQ.ab x::W.drop (k+1)).map ej).flatten:=by
    rw [List.take_add,hN,<-hset];simp only [List.append_assoc];rfl
   have hcl:(W.map ej).length=W.length:=List.length_map _
   conv=>whnf
   refine ⟨⟨om,om⟩,?_⟩
   conv=>whnf
   rw [o1];refine ak ?_;refine ⟨_,hD,?_⟩
   conv=>whnf
   refine ⟨_,rfl,hdf x.kC,?_⟩
   conv=>whnf
   refine ⟨_,rfl,hput,?_⟩
   conv=>whnf
   refine ⟨om,?_⟩
   conv=>whnf
   refine ⟨aG,?_⟩
   conv=>whnf
   refine ⟨k+1,om,by grind,rfl,rfl,rfl,rfl,rfl,rfl,?_,rfl,rfl,rfl,?_,rfl,trivial⟩
   ·rw [hnext];exact congrArg (bs.aR _) hset
   ·exact congrArg (λx=>bs.ah (ae.aa .i64 x)) w1
  ·have h:=of_decide_eq_false h;have hkW:k=W.length:=om;subst hkW;have hT:B6 (nL was log.aQ.ab) W W.length=W.map (nL was log.aQ.ab):=by grind [B6]
   rw [hT]
   conv=>whnf
   refine ⟨_,_,_,(W.map (nL was log.aQ.ab)).map ej,4,_,rfl,rfl,rfl,by simp_all,λel hel=>by obtain ⟨z,_,rfl⟩:=List.mem_map.1 hel;rfl,Kf _,?_⟩;refine ⟨_,_,_,rfl,rfl,?_,_,_,⟨rfl,rfl⟩,rfl,⟨rfl,rfl⟩,⟨rfl,rfl,trivial⟩⟩
   repeat (first|exact mO.fa|refine mO.aX (iL.bw _) ?_|refine mO.aX (iL.eR _ _ _) ?_|fail "end")
   refine mO.aX (iL.mj (by rw [<-hWW];exact (sQ 4 ej wq _ _).symm)) ?_
   repeat (first|exact mO.fa|refine mO.aX (iL.bw _) ?_|refine SubL.cons (SubV.nil _ _ _) ?_|fail "end")
end Go.Proofs.YtffboamedcmpaaaGreatDoor
namespace Go.Am
section
variable {P:Program} {σ:az} {n:Nat}
theorem db.OO {r:Option Nat} {nt lo:Nat} {c:Code} {K:Exit->az->Nat->Prop} (k j id:Nat) (els:List (List ae)) {bt mt:TypeId} {cells cells':List ae} {sz len:Nat} {mc:List ae} (q1:σ (.af k)= .au bt cells) (q2:cells[j]? =some (.aL id 0 sz len true)) (q3:σ (.af id)= .aR mt mc) (hmc:mc=els.flatten) (q4:els.length=len)
  (q5:∀ el∈els,el.length=sz) (q6:fL els.flatten=true) (hc:cells.set j (.ag false sz els .av)=cells') (h:db P r nt lo c (aU (aU σ (.af id) .bq) (.af k) (.au bt cells')) (n+1) K):db P r nt lo c σ n K:=by
 subst hc hmc;refine ⟨λb t a w hl hsim=>h.jG b t a w hl ?_⟩;obtain ⟨g,hh,hf,hE,hn⟩:=hsim;obtain ⟨c',hc',_⟩:=hh.dq k (by rw [q1];rfl);obtain ⟨arr,ha1,ha2,ha3⟩:=hh.nS k bt _ c' q1 hc';have hjl:j<cells.length:=(List.getElem?_eq_some_iff.1 q2).1;have hja:arr[j]? =some arr[j]:=List.getElem?_eq_getElem om;obtain ⟨g2,h1,h2,h3,h4⟩:=hh.WR id els q3 q4 q5 q6 (ha3 j _ _ q2 hja);have hki:k≠id:=λe=>by subst e;rw [q1] at q3;cases q3
 have q1':(aU σ (.af id) .bq) (.af k)= .au bt cells:=by rw [cL (by intro e;cases e;exact hki rfl)];exact q1
 obtain ⟨c2,hc2,_⟩:=h1.dq k (by rw [q1'];rfl);have hcc:c2=c':=by rw [h3,hc'] at hc2;cases hc2;rfl
 subst hcc;refine ⟨g2,?_,⟨hf.mN,hf.nW,λi hi=>?_⟩,hE.gD h2,om⟩
 ·refine (h1.j8 (X:= .au bt (cells.set j (.ag false sz els .av))) (by rw [q1'];rfl) hc2 (kj.xS c2 w) (λ_=>⟨arr,ha1,by rw [List.length_set];exact ha2,λi y u hy hu=>?_⟩)).1
  by_cases hij:i=j
  ·subst hij;rw [List.getElem?_set_self hjl] at hy;cases hy;exact h4 u (ha3 i _ u q2 hu)
  ·rw [List.getElem?_set_ne (λe=>hij e.symm)] at hy;exact (ha3 i y u hy hu).kG h2
 ·have e1:dV (aU (aU σ (.af id) .bq) (.af k) (.au bt (cells.set j (.ag false sz els .av)))) i=dV σ i:=by
   unfold dV;rw [cL (by intro e;cases e),cL (by intro e;cases e)]
  rw [e1];exact (hf.kI i hi).kG h2
end
end Go.Am
namespace Go.Proofs.YtffboamedcmpaaaGreatDoor
open Gw
open Go.Am
def iQ (m:bM) (c:bu) (sv:cj jC) (wv:cj fQ):List ae:=[cv 17 dY m.aA.b8,cv 8 iF m.aA.aQ, .aa .i64 m.eC, .aa .i64 m.iH,cv 2 iJ sv,cv 4 ej wv, .aa .i64 m.fz,
 .aa .i64 0, .ai [],oH, .aa .i64 0,oH, .aa .i64 c.dD, .ai c.bY, .ai c.fO, .ai c.ia, .aa .i64 c.cR,oH]
theorem ah5 (m:bM) (c:bu) (sv:cj jC) (wv:cj fQ) (nil:Bool) (l:List jC) (hl:l.length<=1048576):bz Tryz.prog 211 [.ag nil 2 (l.map iJ) .av, .aP 143 [] [.ar 11 0]] (aD [(.af 10, .au 117 (iQ m c sv wv)),(.af 11, .au 115 [.ar 10 0])]) 12 (cG 12 (λx es=>x= .cE (.aa .i64 (fR (λs=>decide (s.iI=c.cR)) l))/\es=[(.af 10, .au 117 (iQ m c sv wv)),(.af 11, .au 115 [.ar 10 0])])):=qK Tryz.func211 Tryz.func143 hl
theorem ah4 (m:bM) (c:bu) (sv:cj jC) (wv:cj fQ) (nil:Bool) (l:List jC) (hl:l.length<=1048576):bz Tryz.prog 145 [.ag nil 2 (l.map iJ) .av, .aP 143 [] [.ar 11 0]] (aD [(.af 10, .au 117 (iQ m c sv wv)),(.af 11, .au 115 [.ar 10 0])]) 12 (cG 12 (λx es=>x= .cE (.aE (l.any (λs=>decide (s.iI=c.cR))))/\es=[(.af 10, .au 117 (iQ m c sv wv)),(.af 11, .au 115 [.ar 10 0])])):=GG Tryz.func145 (ah5 m c sv wv nil l hl)
theorem ah3 (m:bM) (c:bu) (sv:cj jC) (wv:cj fQ) (nil:Bool) (l:List jC) (hl:l.length<=1048576):bz Tryz.prog 211 [.ag nil 2 (l.map iJ) .bR, .aP 143 [] [.ar 11 0]] (aD [(.af 10, .au 117 (iQ m c sv wv)),(.af 11, .au 115 [.ar 10 0])]) 12 (cG 12 (λx es=>x= .cE (.aa .i64 (fR (λs=>decide (s.iI=c.cR)) l))/\es=[(.af 10, .au 117 (iQ m c sv wv)),(.af 11, .au 115 [.ar 10 0])])):=qK Tryz.func211 Tryz.func143 hl
theorem ah9 (m:bM) (c:bu) (sv:cj jC) (wv:cj fQ) (nil:Bool) (l:List fQ) (hl:l.length<=1048576):bz Tryz.prog 149 [.ag nil 4 (l.map ej) .av, .aP 144 [] [.ar 11 0]] (aD [(.af 10, .au 117 (iQ m c sv wv)),(.af 11, .au 115 [.ar 10 0])]) 12 (cG 12 (λx es=>x= .cE (.aa .i64 (fR (λs=>decide (s.ic=c.cR)) l))/\es=[(.af 10, .au 117 (iQ m c sv wv)),(.af 11, .au 115 [.ar 10 0])])):=qK Tryz.func149 Tryz.func144 hl
theorem ah8 (m:bM) (c:bu) (sv:cj jC) (wv:cj fQ) (nil:Bool) (l:List fQ) (hl:l.length<=1048576):bz Tryz.prog 146 [.ag nil 4 (l.map ej) .av, .aP 144 [] [.ar 11 0]] (aD [(.af 10, .au 117 (iQ m c sv wv)),(.af 11, .au 115 [.ar 10 0])]) 12 (cG 12 (λx es=>x= .cE (.aE (l.any (λs=>decide (s.ic=c.cR))))/\es=[(.af 10, .au 117 (iQ m c sv wv)),(.af 11, .au 115 [.ar 10 0])])):=GG Tryz.func146 (ah9 m c sv wv nil l hl)
theorem ah7 (m:bM) (c:bu) (sv:cj jC) (wv:cj fQ) (nil:Bool) (l:List fQ) (hl:l.length<=1048576):bz Tryz.prog 149 [.ag nil 4 (l.map ej) .bR, .aP 144 [] [.ar 11 0]] (aD [(.af 10, .au 117 (iQ m c sv wv)),(.af 11, .au 115 [.ar 10 0])]) 12 (cG 12 (λx es=>x= .cE (.aa .i64 (fR (λs=>decide (s.ic=c.cR)) l))/\es=[(.af 10, .au 117 (iQ m c sv wv)),(.af 11, .au 115 [.ar 10 0])])):=qK Tryz.func149 Tryz.func144 hl
theorem aic (m:bM) (c:bu) (sv:cj jC) (wv:cj fQ) (nil:Bool) (l:List fQ) (hl:l.length<=1048576):bz Tryz.prog 149 [.ag nil 4 (l.map ej) .av, .aP 150 [] [.ar 11 0]] (aD [(.af 10, .au 117 (iQ m c sv wv)),(.af 11, .au 115 [.ar 10 0])]) 12 (cG 12 (λx es=>x= .cE (.aa .i64 (fR (λs=>decide (s.ic=c.cR)) l))/\es=[(.af 10, .au 117 (iQ m c sv wv)),(.af 11, .au 115 [.ar 10 0])])):=qK Tryz.func149 Tryz.func150 hl
theorem ah1 (m:bM) (c:bu) (sv:cj jC) (wv:cj fQ) (full:Bool) (l pad:List jC) (hl:l.length<=1048576):bz Tryz.prog 211 [.aL 18 0 2 l.length full, .aP 143 [] [.ar 11 0]] (aD [(.af 18, .aR 264 (((l++pad).map iJ).flatten)),(.af 10, .au 117 (iQ m c sv wv)),(.af 11, .au 115 [.ar 10 0])]) 19 (cG 19 (λx es=>x= .cE (.aa .i64 (fR (λs=>decide (s.iI=c.cR)) l))/\es=[(.af 18, .aR 264 (((l++pad).map iJ).flatten)),(.af 10, .au 117 (iQ m c sv wv)),(.af 11, .au 115 [.ar 10 0])])):=zW Tryz.func211 Tryz.func143 hl
theorem ah0 (m:bM) (c:bu) (sv:cj jC) (wv:cj fQ) (full:Bool) (l:List jC) (hl:l.length<=1048576):bz Tryz.prog 147 [.aL 18 0 2 l.length full, .aP 143 [] [.ar 11 0]] (aD [(.af 18, .aR 264 (((l).map iJ).flatten)),(.af 10, .au 117 (iQ m c sv wv)),(.af 11, .au 115 [.ar 10 0])]) 19 (cG 19 (λx es=>x= .cE (.aL 18 0 2 (l.filter λa=>!(λs=>decide (s.iI=c.cR)) a).length full)/\es=[(.af 18, .aR 264 (((l.filter λa=>!(λs=>decide (s.iI=c.cR)) a).map iJ).flatten)),(.af 10, .au 117 (iQ m c sv wv)),(.af 11, .au 115 [.ar 10 0])])):=by
 have hi:=ah1 m c sv wv full l [] hl;rw [List.append_nil] at hi;exact GH Tryz.func147 Tryz.func143 hl hi
theorem aib (m:bM) (c:bu) (sv:cj jC) (wv:cj fQ) (full:Bool) (l pad:List fQ) (hl:l.length<=1048576):bz Tryz.prog 149 [.aL 18 0 4 l.length full, .aP 144 [] [.ar 11 0]] (aD [(.af 18, .aR 184 (((l++pad).map ej).flatten)),(.af 10, .au 117 (iQ m c sv wv)),(.af 11, .au 115 [.ar 10 0])]) 19 (cG 19 (λx es=>x= .cE (.aa .i64 (fR (λs=>decide (s.ic=c.cR)) l))/\es=[(.af 18, .aR 184 (((l++pad).map ej).flatten)),(.af 10, .au 117 (iQ m c sv wv)),(.af 11, .au 115 [.ar 10 0])])):=zW Tryz.func149 Tryz.func144 hl
theorem aia (m:bM) (c:bu) (sv:cj jC) (wv:cj fQ) (full:Bool) (l:List fQ) (hl:l.length<=1048576):bz Tryz.prog 148 [.aL 18 0 4 l.length full, .aP 144 [] [.ar 11 0]] (aD [(.af 18, .aR 184 (((l).map ej).flatten)),(.af 10, .au 117 (iQ m c sv wv)),(.af 11, .au 115 [.ar 10 0])]) 19 (cG 19 (λx es=>x= .cE (.aL 18 0 4 (l.filter λa=>!(λs=>decide (s.ic=c.cR)) a).length full)/\es=[(.af 18, .aR 184 (((l.filter λa=>!(λs=>decide (s.ic=c.cR)) a).map ej).flatten)),(.af 10, .au 117 (iQ m c sv wv)),(.af 11, .au 115 [.ar 10 0])])):=by
 have hi:=aib m c sv wv full l [] hl;rw [List.append_nil] at hi;exact GH Tryz.func148 Tryz.func144 hl hi
theorem ah2 (m:bM) (c:bu) (sv:cj jC) (wv:cj fQ) (q:Bool):bz Tryz.prog 147 [.ag q 2 [] .bR, .aP 143 [] [.ar 11 0]] (aD [(.af 10, .au 117 (iQ m c sv wv)),(.af 11, .au 115 [.ar 10 0])]) 12 (cG 12 (λx es=>x= .cE (.ag q 2 [] .bR)/\es=[(.af 10, .au 117 (iQ m c sv wv)),(.af 11, .au 115 [.ar 10 0])])):=by
 have hi:=ah3 m c sv wv q [] (Nat.zero_le _);refine bn Tryz.func147 ?_;refine mq ?_;rw [show fR (λs:jC=>decide (s.iI=c.cR)) []=-1 from rfl];refine cC ?_;exact ⟨_,_,⟨rfl,rfl⟩,rfl,⟨rfl,rfl⟩,rfl,rfl,rfl,rfl,trivial⟩
theorem ah6 (m:bM) (c:bu) (sv:cj jC) (wv:cj fQ) (q:Bool):bz Tryz.prog 148 [.ag q 4 [] .bR, .aP 144 [] [.ar 11 0]] (aD [(.af 10, .au 117 (iQ m c sv wv)),(.af 11, .au 115 [.ar 10 0])]) 12 (cG 12 (λx es=>x= .cE (.ag q 4 [] .bR)/\es=[(.af 10, .au 117 (iQ m c sv wv)),(.af 11, .au 115 [.ar 10 0])])):=by
 have hi:=ah7 m c sv wv q [] (Nat.zero_le _);refine bn Tryz.func148 ?_;refine mq ?_;rw [show fR (λs:fQ=>decide (s.ic=c.cR)) []=-1 from rfl];refine cC ?_;exact ⟨_,_,⟨rfl,rfl⟩,rfl,⟨rfl,rfl⟩,rfl,rfl,rfl,rfl,trivial⟩
end Go.Proofs.YtffboamedcmpaaaGreatDoor
namespace Go.Am
section
variable {P:Program} {σ:az}
theorem bz.aid {f:FuncId} {args:List ae} {n:Nat} {K:ae->az->Nat->Prop} (h:bz P f args σ n (λv σ' n'=>K v (aU σ' (.aJ 0) (.ah .bV)) n')):bz P f args σ n K:=
 ⟨h.r9,λb g w vals hs hl hv=>(h.q8 b g w vals hs hl hv).mono λ_ _ ⟨v,x,_,n',g',e1,e2,e3,e4,e5,e6⟩=>⟨v,x,_,n',g',e1,e2,e3,e4,e5.IB,e6⟩⟩
end
end Go.Am
namespace Gw
theorem Xg {n:Int}:∀ {l:List fQ} {i:Nat} (hi:i<l.length),(∀ w∈l.take i,decide (w.ic=n)=false)->decide (l[i].ic=n)=true->vp n l=l.take i++⟨l[i].ic,l[i].kC,(sG l[i].l8).1⟩::l.drop (i+1)
 |w::l,0,_,_,h=>by
  have h:w.ic=n:=of_decide_eq_true h;grind [vp]
 |w::l,i+1,hi,hno,h=>by
  have h0:¬w.ic=n:=of_decide_eq_false (hno w (by simp));unfold vp;rw [if_neg h0,Xg (l:=l) (i:=i) (by simpa using hi) (λx hx=>hno x (by simp_all)) h];rfl
end Gw
namespace Go.Proofs.YtffboamedcmpaaaGreatDoor
open Gw
open Go.Am
theorem aie (m:bM) (c:bu) (hm:py m):bz Tryz.prog 86 [.ar 10 0] (aD (nQ m c)) 11
  (cG 11 (λr es=>r= .cE (.aa .i64 (uh (bI m c)).2)/\es=qO (uh (bI m c)).1)):=by
 have hel:(m.de.ab.map ej).length=m.de.ab.length:=List.length_map _;have hB0:uh (bI m c)=match m.de.ab.find? λw=>decide (w.ic=c.cR) with
  |none=>(bI m c,191)
  |some w=>({bI m c with gj:={fg 0 with mD:=(sG w.l8).2},bp:={m with de:=⟨m.de.dI,vp c.cR m.de.ab⟩}},0):=rfl
 have hix:=aic m c m.dO m.de m.de.bZ m.de.ab (Nat.le_trans hm.GZ dd);generalize uh (bI m c)=B at*;rcases BM (λs:fQ=>decide (s.ic=c.cR)) m.de.ab with ⟨h1,hno⟩|⟨i,hlt,h1,hno,hpi⟩
 ·rw [GF hno] at hB0;rw [h1] at hix;dsimp only at hB0;subst hB0;refine bz.na 10 ?_;refine bn Tryz.func86 ?_;refine eJ ?_;exact fM
 ·rw [GD hlt hno hpi] at hB0;rw [h1] at hix;have hpa:=Xg hlt hno hpi;dsimp only at hB0;rw [hpa] at hB0;have hq:=hm.W9 m.de.ab[i] (List.getElem_mem hlt);obtain ⟨log,seen,replica,snaps,⟨wq,W⟩,next⟩:=m;dsimp only at*;have hlt:i<W.length:=hlt;have hne:0<W.length:=om;have hcl:(W.map ej).length=W.length:=List.length_map _;have hcs:nz Tryz.prog 89 [.ag (cj.bZ ⟨wq,W⟩) 4 (W.map ej) .av] 184 4 (W.map ej).length (W.map ej).flatten:=by
   grind [cj.bZ,JI,hm.GZ]
  have o1:0+(i:Int).toNat*4=i*4:=om;have hL:=vA (enc:=ej) (sz:=4) (λ_=>rfl) hlt;have hR:=BK (enc:=ej) (sz:=4) (λ_=>rfl) hlt;have hset:=DZ (enc:=ej) (sz:=4) (λ_=>rfl) (W.take i) (W.drop (i+1)) W[i] ⟨W[i].ic,W[i].kC,(sG W[i].l8).1⟩;rw [<-List.drop_eq_getElem_cons hlt,List.take_append_drop,List.length_take,Nat.min_eq_left (Nat.le_of_lt hlt)] at hset;have hone:=Kf (W.take i++⟨W[i].ic,W[i].kC,(sG W[i].l8).1⟩::W.drop (i+1));have hll:(W.take i++⟨W[i].ic,W[i].kC,(sG W[i].l8).1⟩::W.drop (i+1)).length=W.length:=by grind
  have hfl:cj.bZ ⟨wq,W.take i++⟨W[i].ic,W[i].kC,(sG W[i].l8).1⟩::W.drop (i+1)⟩=false:=by
   grind [cj.bZ]
  generalize W.take i++⟨W[i].ic,W[i].kC,(sG W[i].l8).1⟩::W.drop (i+1)=W2 at*;have htk:=ae9 W[i].l8 (Nat.le_trans hq dd);rw [<-List.length_map (f:=fD)] at htk;generalize W[i]=x at*;generalize hM:(W.map ej).flatten=M at*;have hQ:=Eu hL 2 2 dd;have hE:=Xf hL 2 dd;have hN:=Eu hL 0 2 dd;rw [Nat.add_zero] at hN;have hset:M.take (i*4+2)++DX (sG x.l8).1++M.drop (i*4+2+2)=(W2.map ej).flatten:=by
   rw [List.take_add,hN,<-hset];simp only [List.append_assoc];rfl
  subst hB0;refine bz.na 10 ?_;refine bz.J9 10 5 28 ?_;refine bn Tryz.func86 ?_
  conv=>whnf
  refine bz.aid ?_;refine bz.Iy (es:=[(.af 10, .au 117 (iQ ⟨log,seen,replica,snaps,⟨wq,W⟩,next⟩ c snaps ⟨wq,W⟩)),(.af 11, .au 115 [.ar 10 0])]) ⟨rfl,rfl,rfl,rfl,trivial⟩ rfl dd rfl rfl hix ?_
  conv=>whnf
  refine fu om ?_
  conv=>whnf
  refine ⟨0,_,_,_,rfl,mi.tF hcs rfl,rfl,?_⟩
  conv=>whnf
  refine ⟨aG,?_⟩
  conv=>whnf
  refine ⟨⟨om,om⟩,?_⟩
  conv=>whnf
  rw [o1];refine ak ?_;refine ⟨_,hE,?_⟩
  conv=>whnf
  refine ⟨0,_,_,_,rfl,(CN.AP htk rfl).zi,rfl,?_⟩
  conv=>whnf
  refine ⟨om,?_⟩
  conv=>whnf
  refine ⟨aG,?_⟩
  conv=>whnf
  refine ⟨_,_,_,W2.map ej,4,_,rfl,rfl,congrArg (bs.aR _) hset,by simp_all,λel hel=>by obtain ⟨z,_,rfl⟩:=List.mem_map.1 hel;rfl,hone,?_⟩;refine ⟨_,_,_,rfl,rfl,?_,_,_,⟨rfl,rfl⟩,rfl,⟨rfl,rfl⟩,⟨rfl,rfl,trivial⟩⟩
  repeat (first|exact mO.fa|refine mO.aX (iL.bw _) ?_|refine mO.aX (iL.eR _ _ _) ?_|fail "end")
  refine mO.aX (iL.mj (by unfold cv;rw [hfl];rfl)) ?_
  repeat (first|exact mO.fa|refine mO.aX (iL.bw _) ?_|refine mO.aX (iL.eR _ _ _) ?_|fail "end")
theorem aih (o:aH) (nil:Bool) (l:List aH) (hl:l.length<=1048576):bz Tryz.prog 214 [.ag nil 7 (l.map cI) (.dB 34), .aP 153 [] [.ar 38 0]] (aD [(.af 38, .au 130 (cI o)),(.aJ 34, .aN 130 7 l.length)]) 39 (cG 39 (λx es=>x= .cE (.aa .i64 (fR (λf=>zR f.aT o.aT) l))/\es=[(.af 38, .au 130 (cI o)),(.aJ 34, .aN 130 7 l.length)])):=qK Tryz.func214 Tryz.func153 hl
theorem aif (o:aH) (nil:Bool) (l:List aH) (hl:l.length<=1048576):bz Tryz.prog 155 [.ag nil 7 (l.map cI) (.dB 34), .aP 153 [] [.ar 38 0]] (aD [(.af 38, .au 130 (cI o)),(.aJ 34, .aN 130 7 l.length)]) 39 (cG 39 (λx es=>x= .cE (.aE (l.any (λf=>zR f.aT o.aT)))/\es=[(.af 38, .au 130 (cI o)),(.aJ 34, .aN 130 7 l.length)])):=GG Tryz.func155 (aih o nil l hl)
end Go.Proofs.YtffboamedcmpaaaGreatDoor
namespace Gw
theorem Xk:∀ (f:Nat) (b:List UInt8) (acc l:List aH),(∀ o∈acc,cJ o=true)->mB f b acc=some l->∀ o∈l,cJ o=true
 |0,b,acc,l,ha,h=>by
  grind [mB]
 |f+1,b,acc,l,ha,h=>by
  unfold mB at h;split at h
  ·cases h;exact ha
  ·split at h
   ·cases h
   ·rename_i o r ht;refine Xk f r (acc++[o]) l (λx hx=>?_) h;rcases List.mem_append.1 hx with hx|hx
    ·exact ha x hx
    ·rw [List.mem_singleton] at hx;subst hx;exact (JT ht).1
theorem ail {b:List UInt8} {l:List aH} (h:pV b=some l):∀ o∈l,cJ o=true:=Xk _ _ [] l (λo ho=>by cases ho) h
theorem Xl:∀ (f:Nat) (b:List UInt8) (acc l:List aH),mB f b acc=some l->l.length<=acc.length+f
 |0,b,acc,l,h=>by
  grind [mB]
 |f+1,b,acc,l,h=>by
  unfold mB at h;split at h
  ·cases h;omega
  ·split at h
   ·cases h
   ·have:=Xl f _ _ l h;grind
theorem Xj (g:eh):∀ (l:List aH) (x:Int×cj aH),(∀ o∈(l.foldl (i7 g) x).2.ab,o∈x.2.ab\/o∈l)
 |[],x,o,h=> .inl h
 |a::l,x,o,h=>by
  rw [List.foldl_cons] at h;rcases Xj g l _ o h with h1|h1
  ·unfold i7 at h1;dsimp only at h1;split at h1
   ·rcases List.mem_append.1 h1 with h2|h2
    ·exact .inl h2
    simp_all
   ·exact .inl h1
  simp_all
theorem aik (g:eh) (x:Int×cj aH) (o:aH):(i7 g x o).2.ab.length<=x.2.ab.length+1:=by
 unfold i7;dsimp only;split
 ·show (x.2.ab++[o]).length<=_;simp_all
 omega
theorem Xi (g:eh):∀ (l:List aH) (x:Int×cj aH),(l.foldl (i7 g) x).2.ab.length<=x.2.ab.length+l.length
 |[],x=>Nat.le_refl _
 |a::l,x=>by
  have h1:=Xi g l (i7 g x a);grind [aik]
theorem aij (d:dj):nK d []=(d,0):=rfl
theorem Xh (d:dj) (o:aH) (l:List aH):nK d (o::l)=match uc d o with
  |(d',e)=>if e≠0 then (d',e) else nK d' l:=rfl
end Gw
namespace Go.Proofs.YtffboamedcmpaaaGreatDoor
open Gw
open Go.Am
theorem aii (m:bM) (c:bu) (hm:py m) (hd:c.ia.length<=100000):bz Tryz.prog 88 [.ar 10 0] (aD (nQ m c)) 11
  (cG 11 (λr es=>r= .cE (.aa .i64 (sK (bI m c)).2)/\es=qO (sK (bI m c)).1)):=by
 have hrd:=adO c.ia om;have hrc:=λl (h:pV c.ia=some l)=>ail h
 have hrl:∀ l,pV c.ia=some l->l.length<=100001:=λl h=>by
  have:=Xl _ _ _ l h;grind
 have hB0:sK (bI m c)=match pV c.ia with
  |none=>(bI m c,50)
  |some l=>if 200<m.aA.b8.ab.length+(l.foldl (i7 m.aA) (m.eC, .dE)).2.ab.length then (bI m c,193)
   else match nK (bI m c) (l.foldl (i7 m.aA) (m.eC, .dE)).2.ab with
   |(d',e)=>if e≠0 then (d',e) else ({d' with gj:={d'.gj with qF:=(l.foldl (i7 m.aA) (m.eC, .dE)).2.ab.length},bp:={d'.bp with eC:=(l.foldl (i7 m.aA) (m.eC, .dE)).1}},0):=rfl
 generalize sK (bI m c)=B at*;generalize pV c.ia=R at*;refine bz.na 10 ?_;cases R with
 |none=>
  dsimp only at hB0;subst hB0;refine bn Tryz.func88 ?_;refine ak ?_;exact fM
 |some l=>
  dsimp only at hB0;have hrc:=hrc l rfl;have hll:l.length<=100001:=hrl l rfl;have hel:(iw l).length=l.length:=List.length_map _;have hent:(m.aA.b8.ab.map dY).length=m.aA.b8.ab.length:=List.length_map _;have hfew:=hm.nR.qL;refine bn Tryz.func88 ?_;refine ak ?_;refine db.zd 6 130 7 rfl rfl (.inr rfl) ?_;refine db.cK (X:=Nat×Int×cj aH) (λx=>[(.af 10, .au 117 (Eo m c [] oH 0 oH oH)),(.aj 0, .ah (.ar 10 0)),(.aj 5, .ah (.aa .i64 x.2.1)),(.aj 6, .ah (.ag x.2.2.bZ 7 (x.2.2.ab.map cI) (.dB 34))),(.aJ 34, .aN 130 7 x.2.2.ab.length),
   (.aj 29, .ah (.ag (decide (l=[])) 7 (iw l) .av)),(.aj 30, .ah (.aa .i64 l.length)),(.aj 31, .ah (.aa .i64 x.1))]) 35
   (λx=>x.1<=l.length/\(l.take x.1).foldl (i7 m.aA) (m.eC, .dE)=x.2) (λx=>l.length - x.1) dd (0,m.eC, .dE) ⟨Nat.zero_le _,rfl⟩ ⟨rfl,rfl,rfl,rfl,rfl,rfl,rfl,rfl,rfl,rfl,rfl,rfl,?_,rfl,rfl,rfl,trivial⟩ ?_
  ·show bs.ah (ae.aa .i64 ((iw l).length:Nat))=_;rw [hel]
  rintro ⟨k,seen,F⟩ ⟨hk,hfold⟩;dsimp only at hk hfold ⊢;have hFl:F.ab.length<=100001:=by
   have h1:=Xi m.aA (l.take k) (m.eC, .dE);grind [cj.dE]
  have hFo:(F.ab.map cI).length=F.ab.length:=List.length_map _;refine cn ?_;refine ⟨λh=>?_,λh=>?_⟩
  ·have h:=of_decide_eq_true h;have hlt:k<l.length:=om;have hg:=lN cI hlt;have w1:IntKind.i64.wrap ((k:Int)+1)=((k+1:Nat):Int):=by grind [bj]
   have hnext:(l.take (k+1)).foldl (i7 m.aA) (m.eC, .dE)=i7 m.aA (seen,F) l[k]:=by grind [List.take_succ_eq_append_getElem]
   generalize l[k]=o at*;have hse:=U9 false seen o.aT;have hhas:=Vp m.aA o.aT (Nat.le_trans hfew dd);have hkn:=aif o F.bZ F.ab om;refine ak ?_;cases hh:kg m.aA o.aT with
   |true=>
    refine ak ?_;have hst:i7 m.aA (seen,F) o=(mY seen o.aT,F):=by
     grind [i7]
    rw [hst] at hnext;refine ⟨(k+1,mY seen o.aT,F),⟨om,hnext⟩,by grind,rfl,rfl,rfl,rfl,rfl,rfl,rfl,rfl,rfl,rfl,rfl,rfl,rfl,rfl,?_,rfl,trivial⟩;exact congrArg (λx=>bs.ah (ae.aa .i64 x)) w1
   |false=>
    refine ak ?_;refine .inr ⟨aG,aG,?_⟩;refine eJ ?_;cases ha:(F.ab.any λf=>zR f.aT o.aT) with
    |true=>
     refine ak ?_;have hst:i7 m.aA (seen,F) o=(mY seen o.aT,F):=by
      grind [i7]
     rw [hst] at hnext;refine ⟨(k+1,mY seen o.aT,F),⟨om,hnext⟩,by grind,rfl,rfl,rfl,rfl,rfl,rfl,rfl,rfl,rfl,rfl,rfl,rfl,rfl,rfl,?_,rfl,trivial⟩;exact congrArg (λx=>bs.ah (ae.aa .i64 x)) w1
    |false=>
     refine ak ?_;have hst:i7 m.aA (seen,F) o=(mY seen o.aT,F.jg o):=by
      grind [i7]
     rw [hst] at hnext;refine ⟨⟨hFo.symm,dG (by grind) dd⟩,?_⟩
     conv=>whnf
     refine ⟨(k+1,mY seen o.aT,F.jg o),⟨om,hnext⟩,by grind,rfl,rfl,rfl,rfl,rfl,rfl,?_,rfl,?_,rfl,rfl,rfl,rfl,rfl,?_,rfl,trivial⟩
     ·show bs.ah (ae.ag (F.bZ && false) 7 (F.ab.map cI++[cI o]) _)=bs.ah (ae.ag (false && (F.ab++[o]).isEmpty) 7 ((F.ab++[o]).map cI) _);simp_all
     ·show bs.aN _ 7 ((F.ab.map cI).length+1)=bs.aN _ 7 (F.ab++[o]).length;simp_all
     ·exact congrArg (λx=>bs.ah (ae.aa .i64 x)) w1
  ·have h:=of_decide_eq_false h;have hkl:k=l.length:=om;subst hkl;rw [List.take_length] at hfold;rw [hfold] at hB0;have hFc:∀ o∈F.ab,cJ o=true:=λo ho=>by
    rcases Xj m.aA l (m.eC, .dE) o (by simp_all) with h1|h1
    ·cases h1
    ·exact hrc o h1
   have ws:IntKind.i64.wrap (((m.aA.b8.ab.map dY).length:Int)+((F.ab.map cI).length:Int))=((m.aA.b8.ab.length+F.ab.length:Nat):Int):=by grind [bj]
   dsimp only at hB0
   by_cases h200:200<m.aA.b8.ab.length+F.ab.length
   ·rw [if_pos h200] at hB0;subst hB0
    conv=>whnf
    rw [ws];refine C8 om ?_;exact fM
   ·rw [if_neg h200] at hB0
    conv=>whnf
    rw [ws];refine fu om ?_
    conv=>whnf
    refine db.OH 10 17 130 7 rfl rfl rfl ?_;refine db.cK (X:=Nat×dj) (λx=>[(.aj 0, .ah (.ar 10 0)),(.af 10, .au 117 (Eo x.2.bp c [] oH 0 oH (.ag x.2.fP.bZ 7 (x.2.fP.ab.map cI) (.cO 50)))),(.aJ 50, .aN 130 7 x.2.fP.ab.length),
     (.aj 5, .ah (.aa .i64 seen)),(.aj 6, .ah (.ag F.bZ 7 (F.ab.map cI) (.dB 34))),(.aj 72, .ah (.ag F.bZ 7 (F.ab.map cI) (.dB 34))),(.aj 73, .ah (.aa .i64 F.ab.length)),(.aj 74, .ah (.aa .i64 x.1))]) 51
     (λx=>x.1<=F.ab.length/\x.2.gj=fg 0/\x.2.jh=c/\iy x.2.bp.aA/\x.2.fP.ab.length<=x.1/\nK (bI m c) F.ab=nK x.2 (F.ab.drop x.1)) (λx=>F.ab.length - x.1) dd (0,bI m c) ⟨Nat.zero_le _,rfl,rfl,hm.nR,Nat.zero_le _,rfl⟩ ⟨rfl,rfl,rfl,rfl,rfl,rfl,rfl,rfl,rfl,rfl,rfl,rfl,?_,rfl,rfl,rfl,trivial⟩ ?_
    ·show bs.ah (ae.aa .i64 ((F.ab.map cI).length:Nat))=_;rw [hFo]
    rintro ⟨k,⟨dm,da,dc,dops⟩⟩ ⟨hk,hda,hdc,hlog,hops,hadd⟩;dsimp only at hk hda hdc hlog hops hadd ⊢;subst hda hdc;have hdo:(dops.ab.map cI).length=dops.ab.length:=List.length_map _;refine cn ?_;refine ⟨λh=>?_,λh=>?_⟩
    ·have h:=of_decide_eq_true h;have hlt:k<F.ab.length:=om;have hg:=lN cI hlt;have w1:IntKind.i64.wrap ((k:Int)+1)=((k+1:Nat):Int):=by grind [bj]
     have hck:=hFc F.ab[k] (List.getElem_mem hlt);rw [List.drop_eq_getElem_cons hlt] at hadd;generalize F.ab[k]=o at*;have hap:=OF hlog o (GU hck);have hlog2:=hlog.Ea o;rw [Xh] at hadd;unfold uc at hadd;dsimp only at hadd;generalize eF dm.aA o=R at*;obtain ⟨g,e⟩:=R;dsimp only at*;refine ak ?_;refine bn Tryz.func156 ?_;refine ak ?_
     by_cases he:e=0
     ·subst he;have hb:(dops.bZ && false)=(dops.jg o).bZ:=by rw [Bool.and_false];rfl
      have hmp:dops.ab.map cI++[cI o]=(dops.jg o).ab.map cI:=by show _=(dops.ab++[o]).map cI;simp_all
      have hadd:nK (bI m dc) F.ab=nK ⟨{dm with aA:=g},fg 0,dc,dops.jg o⟩ (F.ab.drop (k+1)):=by rw [hadd];rfl
      refine ak ?_;refine ⟨⟨hdo.symm,dG (by grind) dd⟩,?_⟩;refine ak ?_;refine ⟨(k+1,⟨{dm with aA:=g},fg 0,dc,dops.jg o⟩),⟨om,rfl,rfl,hlog2,by show (dops.ab++[o]).length<=k+1;simp_all,hadd⟩,by grind,rfl,rfl,?_,rfl,?_,rfl,rfl,rfl,rfl,rfl,rfl,rfl,rfl,rfl,?_,rfl,trivial⟩
      ·show bs.au _ (Eo {dm with aA:=g} dc [] oH 0 oH (.ag (dops.bZ && false) 7 (dops.ab.map cI++[cI o]) (.cO 50)))=bs.au _ (Eo {dm with aA:=g} dc [] oH 0 oH (.ag (dops.jg o).bZ 7 ((dops.jg o).ab.map cI) (.cO 50)));rw [hb,hmp]
      ·show bs.aN _ 7 ((dops.ab.map cI).length+1)=bs.aN _ 7 (dops.ab++[o]).length;simp_all
      ·exact congrArg (λx=>bs.ah (ae.aa .i64 x)) w1
     ·have hadd:nK (bI m dc) F.ab=(⟨dm,fg 0,dc,dops⟩,e):=by simp_all
      rw [hadd] at hB0;dsimp only at hB0;rw [if_pos he] at hB0;subst hB0
      conv=>whnf
      refine ⟨λ_=>?_,λq=>absurd (by simpa using q) he⟩
      conv=>whnf
      refine ⟨λ_=>?_,λq=>absurd (by simpa using q) he⟩;exact fM
    ·have h:=of_decide_eq_false h;have hkl:k=F.ab.length:=om;subst hkl;rw [List.drop_length] at hadd;rw [hadd,aij] at hB0;dsimp only at hB0;rw [if_neg (show ¬((0:Int)≠0) by decide)] at hB0;subst hB0
     conv=>whnf
     refine ⟨_,_,_,rfl,rfl,?_,_,_,⟨rfl,rfl⟩,rfl,⟨rfl,rfl⟩,⟨rfl,rfl,trivial⟩⟩
     repeat (first|exact mO.fa|refine mO.aX (iL.bw _) ?_|refine mO.aX (iL.eR _ _ _) ?_|fail "end")
     refine mO.aX (iL.mj (congrArg (λx:Nat=>ae.aa .i64 x) hFo)) ?_
     repeat (first|exact mO.fa|refine mO.aX (iL.bw _) ?_|refine mO.aX (iL.eR _ _ _) ?_|fail "end")
end Go.Proofs.YtffboamedcmpaaaGreatDoor
namespace Go.Am
open Go.RowKit
section
variable {P:Program} {T:cN} {b:ek P} {t:nU} {σ:az} {D:Nat->Prop} {g:cf} {a:Act} {w:World}
def yV (es:List (aS×bs)):ae->Bool
 | .ar b _=>es.any λx=>match x.1 with| .af i=>Nat.beq b i|_=>false
 | .aL b _ _ _ _=>es.any λx=>match x.1 with| .af i=>Nat.beq b i|_=>false
 | .ag _ _ _ .av=>true
 | .ag _ _ _ .bR=>true
 | .aa _ _=>true
 | .aE _=>true
 | .bN=>true
 | .bo=>true
 | .ai _=>true
 | .bU=>true
 |_=>false
def OQ (es:List (aS×bs)):ae->Bool
 | .aK cs=>cs.all (yV es)
 |v=>yV es v
theorem aio {es:List (aS×bs)} {v:ae} (h:yV es v=true):OQ es v=true:=by
 cases v<;>first|exact h|cases h
def yU (es:List (aS×bs)):List (aS×bs)->Bool
 |[]=>true
 |(_, .au _ cells)::l=>cells.all (yV es) && yU es l
 |_::l=>yU es l
theorem aF.ain {es:List (aS×bs)} {g':cf} {x:ae} {v:Value} (hF:g'.bJ=g.bJ) (hx:yV es x=true) (h:aF w g x v) (ho:∀ b,(es.any λx=>match x.1 with| .af i=>Nat.beq b i|_=>false)=true->g'.aZ b=g.aZ b):aF w g' x v:=by
 cases h with
 |bC h=>exact .bC (by rw [hF];exact h)
 |ni h=>exact .ni (by rw [ho _ hx];exact h)
 |kH h ha hs hl hf=>exact .kH (by rw [ho _ hx];exact h) ha hs hl hf
 | @jc _ _ _ tk _ _ _ h ht=>
  refine .jc (by rw [hF];exact h) ?_;cases tk with
  |av=>trivial
  |bR=>exact ht
  |dB id=>cases hx
  |cO id=>cases hx
 |_=>cases hx
theorem Xo {es:List (aS×bs)}:∀ {l:List (aS×bs)},yU es l=true->∀ k t cells,(k,bs.au t cells)∈l->cells.all (yV es)=true
 |[],_,k,t,cells,h=>by cases h
 |(k',X)::l,hi,k,t,cells,h=>by
  rcases List.mem_cons.1 h with h|h
  ·grind [yU]
  ·have hl:yU es l=true:=by cases X<;>simp_all [yU]
   exact Xo hl k t cells h
theorem OR:∀ {es:List (aS×bs)},tH es=true->∀ x∈es,(∃ t cs,x.2= .au t cs)\/∃ t cs,x.2= .aR t cs
 |[],_,x,h=>by cases h
 |(l0,c)::es,hp,x,h=>by
  unfold tH at hp;split at hp
  ·trivial
  ·rename_i heq;cases heq;rw [Bool.and_eq_true] at hp;rcases List.mem_cons.1 h with h|h
   ·simp_all
   ·exact OR hp.2 x h
  ·rename_i heq;cases heq;rw [Bool.and_eq_true] at hp;rcases List.mem_cons.1 h with h|h
   ·simp_all
   ·exact OR hp.2 x h
  ·cases hp
theorem Xp:∀ {es:List (aS×bs)} {l:aS},aD es l≠ .bq->(l,aD es l)∈es
 |[],l,h=>absurd rfl h
 |(l',c)::es,l,h=>by
  by_cases e:l=l'
  ·subst e;rw [aD,gY];simp_all
  ·rw [aD,cL e] at h ⊢;exact List.mem_cons_of_mem _ (Xp h)
theorem mI.aim {es es':List (aS×bs)} {g':cf} {c id:Nat} (h:mI w g c (aD es' (.af id))) (hp:tH es'=true) (hin:yU es es'=true) (hF:g'.bJ=g.bJ) (hv:∀ {x:ae} {v:Value},yV es x=true->aF w g x v->aF w g' x v):mI w g' c (aD es' (.af id)):=by
 by_cases hne:aD es' (.af id)= .bq
 ·rw [hne];trivial
 have hmem:=Xp hne;rcases OR hp _ hmem with ⟨t,cells,hx⟩|⟨t,cells,hx⟩
 ·have hx:aD es' (.af id)= .au t cells:=hx;rw [hx] at h ⊢;obtain ⟨arr,h1,h2,h3⟩:=h;have hm:=Xo hin (.af id) t cells (by simp_all);exact ⟨arr,h1,h2,λi x v hx' hv'=>hv (List.all_eq_true.1 hm x (List.mem_of_getElem? hx')) (h3 i x v hx' hv')⟩
 ·have hx:aD es' (.af id)= .aR t cells:=hx;rw [hx] at h ⊢;obtain ⟨arr,z,h1,h2,h3,h4⟩:=h;exact ⟨arr,z,h1,h2,h3,λi x v hx' hv'=>by grind⟩
open Classical in
theorem mi.Xn {f:FuncId} {args:List ae} {m n:Nat} {es es':List (aS×bs)} {res:ae} (hw0:lB σ m es) (hpl:tH es=true) (hpl':tH es'=true) (hsame:es'.map (·.1)=es.map (·.1)) (hargs:oc m args=true) (hin:yU es es'=true) (hinr:OQ es res=true)
  (h:bz P f args (aD es) m (cG m (λx e=>x= .cE res/\e=es'))):mi P 0 f args σ n (es.map (·.1)) es' res:=by
 refine ⟨h.r9,λσq hag0 b D g w vals hlow hs hfr1 hfr2 hvl hv=>?_⟩;obtain ⟨pl1,pl2,pl3,pl4⟩:=LM hpl;obtain ⟨pm1,pm2,pm3,pm4⟩:=LM hpl';have hag:∀ l,l∈es.map (·.1)->σq l=σ l:=λl hl=>by
  grind
 have hiff:∀ l,aD es' l= .bq↔aD es l= .bq:=λl=>by
  grind [FA]
 have cutown:∀ id c,(g.fj m).aZ id=some c->g.aZ id=some c/\id<m:=λid c hc=>by
  grind [cf.fj]
 have cutrow:∀ id c,(g.fj m).cu id=some c->g.cu id=some c/\id<m:=λid c hc=>by
  grind [cf.fj]
 have ownc:∀ id,id<m->(g.fj m).aZ id=g.aZ id:=λid h=>by simp [cf.fj,h]
 have rowc:∀ id,id<m->(g.fj m).cu id=g.cu id:=λid h=>by simp [cf.fj,h]
 have hb:∀ id,aD es (.af id)≠ .bq->aD es (.af id)=σq (.af id)/\id<m/\rf m (σq (.af id))=true:=λid hne=>by
  have hq:=hag (.af id) (FA hne);rcases hw0.nZ (.af id) with h1|⟨h1,h2,h3⟩
  ·exact absurd h1 hne
  ·rw [hq];exact ⟨h1,eH h2,h3⟩
 have hrw0:∀ id,aD es (.aJ id)= .bq:=λid=>by
  grind
 have hrw0':∀ id,aD es' (.aJ id)= .bq:=λid=>(hiff _).2 (hrw0 id)
 have isb:∀ id,(aD es (.af id)).dw=true->aD es (.af id)≠ .bq:=λid hl e=>by rw [e] at hl;cases hl
 let ex:Nat->Prop:=λc=>∃ id,(aD es (.af id)).dw=true/\g.aZ id=some c
 have exMine:∀ c,ex c->b.rP c:=λc hc=>by
  obtain ⟨id,h1,h2⟩:=hc;obtain ⟨c',q1,q2,_⟩:=hs.dq id (by grind);simp_all
 have hidden:∀ id c,aD es (.af id)= .bq->(σq (.af id)).dw=true->g.aZ id=some c->¬ex c:=λid c hm hl hc he=>by
  obtain ⟨id',h1,h2⟩:=he;obtain ⟨e1,e2,_⟩:=hb id' (isb id' h1);have:=hs.iT id id' c hl (by simp_all) hc h2;grind
 have hiddenR:∀ id t sz N c N',σq (.aJ id)= .aN t sz N->g.cu id=some (some c,N')->¬ex c:=λid t sz N c N' hl hc he=>by
  obtain ⟨bk,q1,q2⟩:=hs.fA id t sz N hl;grind
 have notMine:∀ k,k<b.lr.heap.size->¬b.oK k->¬ex k:=λk h1 h2 h3=>by
  rcases exMine k h3 with h|h
  ·omega
  ·exact h2 h
 have tr:∀ {w':World},oL ex w.heap.size w w'->oL b.oK b.lr.heap.size b.lr w':=fun {w'} hx=>by
  have hsz:=hs.dU.kX;exact hs.dU.xl ⟨hx.Cb,hx.Cd,hx.Cc,hx.kX,λk hk hn=>hx.qR k om (notMine k hk hn),λk hk=>hx.uB k om⟩
 let b':ek P:=⟨w,λk o=>g.bJ k o/\¬ex k,ex,λw' hx=>b.EB w' (tr hx),λk o hk=>hs.fU k o hk.1,λ_ _ hk=>hk.2⟩
 have hsim:bh b' (aD es) (·<m) (g.fj m) w:=by
  refine bh.lQ (oL.EC _ _ _) hs.fU (λ_ _ hk=>hk.1) (λk o hk _ hx=>⟨hk,hx⟩) (λid c hc=>(cutown id c hc).2) (λid c hc=>(cutrow id c hc).2) (λid c hc=>hs.eU id c (cutown id c hc).1) (λid c N hc=>hs.gV id c N (cutrow id _ hc).1)
   (λid hl=>?_) (λid c hl hc=>?_) (λi j k hi hj hci hcj=>?_) (λid Y c hs' _=>absurd hs' (pl2 _ _)) (λid t' sz N hs'=>by simp_all)
  ·obtain ⟨e1,e2,_⟩:=hb id (isb id hl);obtain ⟨c,h1,h2,h3,h4⟩:=hs.dq id (by simp_all);exact ⟨c,by simp_all, .inr ⟨id,hl,h1⟩,h3,h4⟩
  ·obtain ⟨e1,e2,e3⟩:=hb id (isb id hl);rw [e1] at hl ⊢;exact (hs.kF (cutown id c hc).1).Fv e3 rfl ownc rowc
  ·obtain ⟨e1,_,_⟩:=hb i (isb i hi);obtain ⟨e2,_,_⟩:=hb j (isb j hj);exact hs.iT i j k (by simp_all) (by simp_all) (cutown _ _ hci).1 (cutown _ _ hcj).1
 refine (h.q8 b' (g.fj m) w vals hsim hvl λi x v hx hv'=>(hv i x v hx hv').A1 (mQ hargs i x hx) rfl ownc rowc).mono ?_;rintro e w' ⟨v,x,σ1,n1,g1,rfl,⟨y,ez,⟨rfl,rfl⟩,_,⟨rfl,hres⟩,hw'⟩,hmn1,hrep,hs1,hE⟩;have hb1:∀ id,aD ez (.af id)≠ .bq->aD ez (.af id)=σ1 (.af id)/\id<m/\rf m (σ1 (.af id))=true:=λid hne=>by
  rcases hw'.nZ (.af id) with h1|⟨h1,h2,h3⟩
  ·exact absurd h1 hne
  grind
 have hsz:w.heap.size<=w'.heap.size:=hE.rR;have hF1:∀ c o,g1.bJ c o->c<w.heap.size->¬ex c->g.bJ c o:=λc o h1 h2 h3=>(hs1.kh c o h1 h2 h3).1
 let g':cf:=⟨g1.bJ,λi=>if aD es (.af i)= .bq then g.aZ i else g1.aZ i,g.cu⟩
 have go1:∀ i,aD es (.af i)≠ .bq->g'.aZ i=g1.aZ i:=λi hi=>by simp [g',hi]
 have go2:∀ i,aD es (.af i)= .bq->g'.aZ i=g.aZ i:=λi hi=>by simp [g',hi]
 have hinv:∀ {x:ae} {v:Value},yV es x=true->aF w' g1 x v->aF w' g' x v:=λhx hr=>aF.ain (g:=g1) (g':=g') rfl hx hr λb hb=>go1 b (by
  grind [Nat.eq_of_beq_eq_true])
 have hinvR:∀ {x:ae} {v:Value},OQ es x=true->aF w' g1 x v->aF w' g' x v:=fun {x v} hx hr=>by
  cases x with
  |aK cs=>
   cases hr with
   |nT hl h=>
    refine .nT hl λi x v h1 h2=>hinv ?_ (h i x v h1 h2)
    exact List.all_eq_true.1 hx _ (List.mem_of_getElem? h1)
   |bC h=>exact .bC h
  |_=>exact hinv hx hr
 have hbm:∀ id,aD es (.af id)≠ .bq->id<m:=λid hne=>(hb id hne).2.1
 have gkeep:∀ i c,g.aZ i=some c->g'.aZ i=some c:=λi c hc=>by
  by_cases hi:aD es (.af i)= .bq
  ·simp_all
  ·rw [go1 i hi];exact (hE.kE i c (by simp_all)).1
 have hC:vR g w g' w':=by
  refine ⟨hE.ee,λid c hc=>⟨gkeep id c hc,hs1.dU.uB c (hs.eU id c hc)⟩,λid bk N hr=>?_,λid c N hr=> .inl ⟨N,hr⟩⟩;exact ⟨bk,N,hr,Nat.le_refl _,λ_=>⟨rfl,λc hc=>hs1.dU.uB c (hs.gV id c N (by rw [hr,hc]))⟩⟩
 have og:∀ id,aD es (.af id)≠ .bq->eG σq ez (.af id)=σ1 (.af id):=λid hne=>by
  grind
 have on:∀ id,aD es (.af id)= .bq->eG σq ez (.af id)=σq (.af id):=λid he=>by
  grind
 have orr:∀ id,eG σq ez (.aJ id)=σq (.aJ id):=λid=>by rw [pm3,hrw0' id]
 have gv:∀ id,aD es (.af id)≠ .bq->id<m:=λid h=>(hb id h).2.1
 have kind:∀ id c,(eG σq ez (.af id)).dw=true->g'.aZ id=some c->(aD es (.af id)≠ .bq/\(σ1 (.af id)).dw=true/\g1.aZ id=some c)\/(aD es (.af id)= .bq/\(σq (.af id)).dw=true/\g.aZ id=some c):=λid c hl hc=>by
  grind
 have new1:∀ k c,(σ1 (.af k)).dw=true->g1.aZ k=some c->w.heap.size<=c\/ex c:=λk c hl hc=>by
  obtain ⟨c',q1,q2,_⟩:=hs1.dq k hl;rw [hc] at q1;cases q1;exact q2
 have old1:∀ id c,aD es (.af id)= .bq->(σq (.af id)).dw=true->g.aZ id=some c->¬(w.heap.size<=c\/ex c):=λid c hm hl hc h=>by
  rcases h with h|h
  ·have:=hs.eU id c hc;omega
  grind
 have mine1:∀ c,w.heap.size<=c\/ex c->b.rP c:=λc h=>by
  rcases h with h|h
  ·exact .inl (Nat.le_trans hs.dU.kX h)
  ·exact exMine c h
 refine ⟨v,g',rfl,hinvR hinr hrep,?_,⟨hC,hE.rR,hE.uC,hE.rQ⟩⟩;refine bh.lQ (tr hs1.dU) hs1.fU (λk o hk=>(hE.ee k o (hs.kY k o hk)).1) (λk o hk hlt hx=>hs.kh k o (hF1 k o hk (Nat.lt_of_lt_of_le hlt hs.dU.kX) (notMine k hlt hx)) hlt hx)
   (λid c hc=>?_) (λid c hc=>?_) (λid c hc=>?_) (λid c N hc=>?_) (λid hl=>?_) (λid c hl hc=>?_) (λi j c hi hj hci hcj=>?_) (λid Y c hs' hc=>?_) (λid t' sz N hs'=>?_)
 ·by_cases hi:aD es (.af id)= .bq
  ·rw [go2 id hi] at hc;exact .inl (hs.lu id c hc)
  ·obtain ⟨e1,_,_⟩:=hb id hi;obtain ⟨c0,h1,_⟩:=hs.dq id (by grind);exact .inl (hs.lu id c0 h1)
 ·exact .inl (hs.ki id c hc)
 ·by_cases hi:aD es (.af id)= .bq
  ·rw [go2 id hi] at hc;exact Nat.lt_of_lt_of_le (hs.eU id c hc) hsz
  ·rw [go1 id hi] at hc;exact hs1.eU id c hc
 ·exact Nat.lt_of_lt_of_le (hs.gV id c N hc) hsz
 ·by_cases hi:aD es (.af id)= .bq
  ·rw [on id hi] at hl;obtain ⟨c,h1,h2,h3,h4⟩:=hs.dq id hl;grind
  ·rw [og id hi] at hl;obtain ⟨c,h1,h2,h3,h4⟩:=hs1.dq id hl;grind
 ·rcases kind id c hl hc with ⟨hi,h2,h3⟩|⟨hi,h2,h3⟩
  ·rw [og id hi];have hne':aD ez (.af id)≠ .bq:=λe=>hi ((hiff _).1 e)
   have hcl:=hs1.kF h3;have e1:=(hb1 id hne').1;rw [<-e1] at hcl ⊢;exact hcl.aim hpl' hin rfl hinv
  ·rw [on id hi];exact (hs.kF h3).ED hC (hs1.dU.qR c (hs.eU id c h3) (hidden id c hi h2 h3))
 ·rcases kind i c hi hci with ⟨h1,h2,h3⟩|⟨h1,h2,h3⟩<;>rcases kind j c hj hcj with ⟨h1',h2',h3'⟩|⟨h1',h2',h3'⟩
  ·exact hs1.iT i j c h2 h2' h3 h3'
  ·grind
  ·grind
  ·exact hs.iT i j c h2 h2' h3 h3'
 ·by_cases hi:aD es (.af id)= .bq
  ·rw [on id hi] at hs';rw [go2 id hi] at hc;exact hs.lv id Y c hs' hc
  grind
 ·rw [orr id] at hs';obtain ⟨bk,h1,h2⟩:=hs.fA id t' sz N hs';refine ⟨bk,h1,λc hc=>?_⟩;obtain ⟨b1,b2,b3,b4,b5,arr,z,b6,b7⟩:=h2 c hc;have hne:¬ex c:=hiddenR id t' sz N c N hs' (by rw [h1,hc]);refine ⟨b1,Nat.lt_of_lt_of_le b2 hsz,λo ho=>b3 o (hF1 c o ho b2 hne),λj hl hc'=>?_,λj t'' sz'' M M' hj hr=>?_,arr,z,(hs1.dU.qR c b2 hne).trans b6,b7⟩
  ·grind
  grind
theorem mi.G0 {f:FuncId} {args:List ae} {m n:Nat} {es es':List (aS×bs)} {res:ae} (hw0:lB σ m es) (hpl:tH es=true) (hpl':tH es'=true) (hsame:es'.map (·.1)=es.map (·.1)) (hargs:oc m args=true) (hin:yU es es'=true) (hinr:yV es res=true)
  (h:bz P f args (aD es) m (cG m (λx e=>x= .cE res/\e=es'))):mi P 0 f args σ n (es.map (·.1)) es' res:=mi.Xn hw0 hpl hpl' hsame hargs hin (aio hinr) h
theorem db.Xm {r:Option Nat} {nt lo n:Nat} {c:Code} {K:Exit->az->Nat->Prop} (k j:Nat) {bt:TypeId} {cells cells':List ae} {x:ae} (hs:σ (.af k)= .au bt cells) (hj:cells[j]? =some x) (hc:cells.set j (xA x)=cells') (h:db P r nt lo c (aU σ (.af k) (.au bt cells')) n K):db P r nt lo c σ n K:=by
 subst hc;refine ⟨λb t a w hl hsim=>h.jG b t a w hl ?_⟩;obtain ⟨g,hh,hf,hE,hn⟩:=hsim;refine ⟨g,hh.Ka hs (List.length_set) (λi y v hy hx=>?_),hf.qo (λi=>by trivial),hE,hn⟩;grind [QF]
theorem db.OP {r:Option Nat} {nt lo n:Nat} {x y:Code} {K:Exit->az->Nat->Prop} (m:Nat) (es:List (aS×bs)) (hx:db P r nt lo y (aD es) m K->db P r nt lo x σ n (Lw (λσ n=>db P r nt lo y σ n K) K)) (hy:db P r nt lo y (aD es) m K):db P r nt lo (.seq x y) σ n K:=
 db.CF (hx hy)
end
end Go.Am
namespace Go.Proofs.YtffboamedcmpaaaGreatDoor
open Gw
open Go.Am
abbrev Al (m:bM) (c:bu) (sv:cj jC) (wv:cj fQ):List (Go.Am.aS×bs):=[(.af 10, .au 117 (iQ m c sv wv)),(.af 11, .au 115 [.ar 10 0])]
abbrev OS (m:bM) (c:bu) (sv:cj jC) (wv:cj fQ):List (Go.Am.aS×bs):=[(.aj 1, .ah (.ar 11 0)),(.aj 3, .ah (.aP 143 [] [.ar 11 0])),(.aj 4, .ah (.aP 144 [] [.ar 11 0])),(.af 10, .au 117 (iQ m c sv wv)),(.af 11, .au 115 [.ar 10 0])]
theorem B7 {σ:az} {l:Go.Am.aS} {c:bs} (h:σ l=c):aU σ l c=σ:=by
 grind [gY,cL]
theorem Xq {P:Program} {m0 n:Nat} {f:FuncId} {args:List ae} {σ:az} {rx:List Go.Am.aS} {l1 l2:Go.Am.aS} {c1 c2:bs} {res:ae} (h:mi P m0 f args σ n rx [(l1,c1),(l2,c2)] res) (m1:l1∈rx) (m2:l2∈rx) (e1:σ l1=c1) (e2:σ l2=c2):mi P m0 f args σ n rx [] res:=
 ⟨h.AI,λσ' ha b D g w vals h1 h2 h3 h4 h5 h6=>by
  have:=h.AJ σ' ha b D g w vals h1 h2 h3 h4 h5 h6;have e:eG σ' [(l1,c1),(l2,c2)]=eG σ' []:=by
   show aU (aU σ' l1 c1) l2 c2=σ';rw [B7 ((ha l1 m1).trans e1),B7 ((ha l2 m2).trans e2)]
  simp_all⟩
theorem Xr {P:Program} {m0 n:Nat} {f:FuncId} {args:List ae} {σ:az} {rx:List Go.Am.aS} {l0 l1 l2:Go.Am.aS} {c0 c1 c2:bs} {res:ae} (h:mi P m0 f args σ n rx [(l0,c0),(l1,c1),(l2,c2)] res) (n1:l1≠l0) (n2:l2≠l0) (m1:l1∈rx) (m2:l2∈rx) (e1:σ l1=c1) (e2:σ l2=c2):mi P m0 f args σ n rx [(l0,c0)] res:=
 ⟨h.AI,λσ' ha b D g w vals h1 h2 h3 h4 h5 h6=>by
  have:=h.AJ σ' ha b D g w vals h1 h2 h3 h4 h5 h6;have e:eG σ' [(l0,c0),(l1,c1),(l2,c2)]=eG σ' [(l0,c0)]:=by
   show aU (aU (aU σ' l0 c0) l1 c1) l2 c2=aU σ' l0 c0;grind [B7,cL]
  simp_all⟩
theorem aip (m:bM) (c:bu) (hm:py m):bz Tryz.prog 84 [.ar 10 0] (aD (nQ m c)) 11
  (cG 11 (λr es=>r= .cE (.aa .i64 (ue (bI m c)).2)/\es=qO (ue (bI m c)).1)):=by
 have hB0:ue (bI m c)=if (m.dO.ab.any λs=>decide (s.iI=c.cR))=false/\(m.de.ab.any λs=>decide (s.ic=c.cR))=false then (bI m c,191)
  else ({bI m c with bp:={m with dO:=m.dO.gL λs=>decide (s.iI=c.cR),de:=m.de.gL λs=>decide (s.ic=c.cR)}},0):=rfl
 have hs:=ah4 m c m.dO m.de m.dO.bZ m.dO.ab (Nat.le_trans hm.Kd dd);have hw:=ah8 m c m.dO m.de m.de.bZ m.de.ab (Nat.le_trans hm.GZ dd);generalize ue (bI m c)=B at*;refine bz.na 10 ?_;refine bz.xG dW (fn:=Tryz.f84) aG rfl aG rfl rfl ?_;refine eK ?_;refine eK ?_;refine eK ?_
 by_cases hno:(m.dO.ab.any λs=>decide (s.iI=c.cR))=false/\(m.de.ab.any λs=>decide (s.ic=c.cR))=false
 ·rw [if_pos hno] at hB0;subst hB0;rw [hno.1] at hs;rw [hno.2] at hw;refine eK ?_;refine eJ ?_;exact fM
 rw [if_neg hno] at hB0;subst hB0;refine db.OP 12 (OS m c m.dO m.de) (λhy=>?_) ?_
 ·refine cn ?_;refine eJ ?_;cases hs1:(m.dO.ab.any λs=>decide (s.iI=c.cR)) with
  |true=>
   refine ak ?_;exact db.CG (show lB _ 12 [(.aj 1, .ah (.ar 11 0)),(.aj 3, .ah (.aP 143 [] [.ar 11 0])),(.aj 4, .ah (.aP 144 [] [.ar 11 0])),(.af 10, .au 117 (iQ m c m.dO m.de)),(.af 11, .au 115 [.ar 10 0])] from ⟨rfl,rfl,rfl,rfl,rfl,rfl,rfl,rfl,rfl,rfl,trivial⟩) dd hy
  |false=>
   have hw1:(m.de.ab.any λs=>decide (s.ic=c.cR))=true:=by
    simp_all
   rw [hw1] at hw;refine eJ ?_;exact db.CG (show lB _ 12 [(.aj 1, .ah (.ar 11 0)),(.aj 3, .ah (.aP 143 [] [.ar 11 0])),(.aj 4, .ah (.aP 144 [] [.ar 11 0])),(.af 10, .au 117 (iQ m c m.dO m.de)),(.af 11, .au 115 [.ar 10 0])] from ⟨rfl,rfl,rfl,rfl,rfl,rfl,rfl,rfl,rfl,rfl,trivial⟩) dd hy
 clear hs hw hno;obtain ⟨log,seen,replica,⟨sq,S⟩,⟨wq,W⟩,next⟩:=m;have hmS:S.length<=1000:=hm.Kd;have hmW:W.length<=1000:=hm.GZ;clear hm;refine db.OP 12 (OS ⟨log,seen,replica,⟨sq,S⟩,⟨wq,W⟩,next⟩ c (cj.gL ⟨sq,S⟩ λs=>decide (s.iI=c.cR)) ⟨wq,W⟩) (λhy=>?_) ?_
 ·have hLn:S.length<=1048576:=Nat.le_trans hmS dd;cases S with
  |nil=>
   have hd:=ah2 ⟨log,seen,replica,⟨sq,[]⟩,⟨wq,W⟩,next⟩ c ⟨sq,[]⟩ ⟨wq,W⟩ (sq && true);refine db.wh ?_;refine cn ?_;refine ⟨0,_,_,_,rfl,mi.xR (U4 (sq && true)) rfl,rfl,?_⟩
   conv=>whnf
   refine ⟨0,_,_,_,rfl,Xq (mi.G0 (m:=12) (res:= .ag (sq && true) 2 [] .bR) (es:=Al ⟨log,seen,replica,⟨sq,[]⟩,⟨wq,W⟩,next⟩ c ⟨sq,[]⟩ ⟨wq,W⟩) (es':=Al ⟨log,seen,replica,⟨sq,[]⟩,⟨wq,W⟩,next⟩ c ⟨sq,[]⟩ ⟨wq,W⟩) ⟨rfl,rfl,rfl,rfl,trivial⟩ rfl rfl rfl rfl rfl rfl hd) (by simp) (by simp) rfl rfl,rfl,?_⟩;refine ak ?_;refine db.Xm 10 4 rfl rfl rfl ?_;refine db.CG (show lB _ 12 [(.aj 1, .ah (.ar 11 0)),(.aj 3, .ah (.aP 143 [] [.ar 11 0])),(.aj 4, .ah (.aP 144 [] [.ar 11 0])),(.af 10, .au 117 (iQ ⟨log,seen,replica,⟨sq,[]⟩,⟨wq,W⟩,next⟩ c (cj.gL ⟨sq,[]⟩ λs=>decide (s.iI=c.cR)) ⟨wq,W⟩)),(.af 11, .au 115 [.ar 10 0])] from ⟨rfl,rfl,rfl,rfl,rfl,rfl,?_,rfl,rfl,rfl,trivial⟩) dd hy;cases sq<;>rfl
  |cons a r=>
   have hd:=ah0 ⟨log,seen,replica,⟨sq,a::r⟩,⟨wq,W⟩,next⟩ c ⟨sq,a::r⟩ ⟨wq,W⟩ true (a::r) hLn;have hcl:((a::r).map iJ).length=(a::r).length:=List.length_map _;have hcs:nz Tryz.prog 142 [.ag (cj.bZ ⟨sq,a::r⟩) 2 ((a::r).map iJ) .av] 264 2 (a::r).length ((a::r).map iJ).flatten:=by
    grind [cj.bZ,U5]
   refine db.wh ?_;refine cn ?_;refine ⟨0,_,_,_,rfl,mi.tF hcs rfl,rfl,?_⟩
   conv=>whnf
   refine ⟨0,_,_,_,rfl,Xr (mi.G0 (m:=19) (res:= .aL 18 0 2 ((a::r).filter λs:jC=>!decide (s.iI=c.cR)).length true) (es:=(.af 18, .aR 264 (((a::r).map iJ).flatten))::Al ⟨log,seen,replica,⟨sq,a::r⟩,⟨wq,W⟩,next⟩ c ⟨sq,a::r⟩ ⟨wq,W⟩) (es':=(.af 18, .aR 264 ((((a::r).filter λs:jC=>!decide (s.iI=c.cR)).map iJ).flatten))::Al ⟨log,seen,replica,⟨sq,a::r⟩,⟨wq,W⟩,next⟩ c ⟨sq,a::r⟩ ⟨wq,W⟩) ⟨rfl,rfl,rfl,rfl,rfl,rfl,trivial⟩ rfl rfl rfl rfl rfl rfl hd) (by intro e;cases e) (by intro e;cases e) (by simp) (by simp) rfl rfl,rfl,?_⟩;refine ak ?_;refine db.OO 10 4 18 (((a::r).filter λs:jC=>!decide (s.iI=c.cR)).map iJ) rfl rfl rfl rfl (List.length_map _) (λel hel=>by obtain ⟨z,_,rfl⟩:=List.mem_map.1 hel;rfl) (Xd _) rfl ?_;refine db.CG (show lB _ 12 [(.aj 1, .ah (.ar 11 0)),(.aj 3, .ah (.aP 143 [] [.ar 11 0])),(.aj 4, .ah (.aP 144 [] [.ar 11 0])),(.af 10, .au 117 (iQ ⟨log,seen,replica,⟨sq,a::r⟩,⟨wq,W⟩,next⟩ c (cj.gL ⟨sq,a::r⟩ λs=>decide (s.iI=c.cR)) ⟨wq,W⟩)),(.af 11, .au 115 [.ar 10 0])] from ⟨rfl,rfl,rfl,rfl,rfl,rfl,?_,rfl,rfl,rfl,trivial⟩) dd hy;cases sq<;>rfl
 refine db.OP 12 (OS ⟨log,seen,replica,⟨sq,S⟩,⟨wq,W⟩,next⟩ c (cj.gL ⟨sq,S⟩ λs=>decide (s.iI=c.cR)) (cj.gL ⟨wq,W⟩ λs=>decide (s.ic=c.cR))) (λhy=>?_) ?_
 ·have hLn:W.length<=1048576:=Nat.le_trans hmW dd;cases W with
  |nil=>
   have hd:=ah6 ⟨log,seen,replica,⟨sq,S⟩,⟨wq,[]⟩,next⟩ c (cj.gL ⟨sq,S⟩ λs=>decide (s.iI=c.cR)) ⟨wq,[]⟩ (wq && true);refine db.wh ?_;refine cn ?_;refine ⟨0,_,_,_,rfl,mi.xR (U6 (wq && true)) rfl,rfl,?_⟩
   conv=>whnf
   refine ⟨0,_,_,_,rfl,Xq (mi.G0 (m:=12) (res:= .ag (wq && true) 4 [] .bR) (es:=Al ⟨log,seen,replica,⟨sq,S⟩,⟨wq,[]⟩,next⟩ c (cj.gL ⟨sq,S⟩ λs=>decide (s.iI=c.cR)) ⟨wq,[]⟩) (es':=Al ⟨log,seen,replica,⟨sq,S⟩,⟨wq,[]⟩,next⟩ c (cj.gL ⟨sq,S⟩ λs=>decide (s.iI=c.cR)) ⟨wq,[]⟩) ⟨rfl,rfl,rfl,rfl,trivial⟩ rfl rfl rfl rfl rfl rfl hd) (by simp) (by simp) rfl rfl,rfl,?_⟩;refine ak ?_;refine db.Xm 10 5 rfl rfl rfl ?_;refine db.CG (show lB _ 12 [(.aj 1, .ah (.ar 11 0)),(.aj 3, .ah (.aP 143 [] [.ar 11 0])),(.aj 4, .ah (.aP 144 [] [.ar 11 0])),(.af 10, .au 117 (iQ ⟨log,seen,replica,⟨sq,S⟩,⟨wq,[]⟩,next⟩ c (cj.gL ⟨sq,S⟩ λs=>decide (s.iI=c.cR)) (cj.gL ⟨wq,[]⟩ λs=>decide (s.ic=c.cR)))),(.af 11, .au 115 [.ar 10 0])] from ⟨rfl,rfl,rfl,rfl,rfl,rfl,?_,rfl,rfl,rfl,trivial⟩) dd hy;cases wq<;>rfl
  |cons a r=>
   have hd:=aia ⟨log,seen,replica,⟨sq,S⟩,⟨wq,a::r⟩,next⟩ c (cj.gL ⟨sq,S⟩ λs=>decide (s.iI=c.cR)) ⟨wq,a::r⟩ true (a::r) hLn;have hcl:((a::r).map ej).length=(a::r).length:=List.length_map _;have hcs:nz Tryz.prog 89 [.ag (cj.bZ ⟨wq,a::r⟩) 4 ((a::r).map ej) .av] 184 4 (a::r).length ((a::r).map ej).flatten:=by
    grind [cj.bZ,JI]
   refine db.wh ?_;refine cn ?_;refine ⟨0,_,_,_,rfl,mi.tF hcs rfl,rfl,?_⟩
   conv=>whnf
   refine ⟨0,_,_,_,rfl,Xr (mi.G0 (m:=19) (res:= .aL 18 0 4 ((a::r).filter λs:fQ=>!decide (s.ic=c.cR)).length true) (es:=(.af 18, .aR 184 (((a::r).map ej).flatten))::Al ⟨log,seen,replica,⟨sq,S⟩,⟨wq,a::r⟩,next⟩ c (cj.gL ⟨sq,S⟩ λs=>decide (s.iI=c.cR)) ⟨wq,a::r⟩) (es':=(.af 18, .aR 184 ((((a::r).filter λs:fQ=>!decide (s.ic=c.cR)).map ej).flatten))::Al ⟨log,seen,replica,⟨sq,S⟩,⟨wq,a::r⟩,next⟩ c (cj.gL ⟨sq,S⟩ λs=>decide (s.iI=c.cR)) ⟨wq,a::r⟩) ⟨rfl,rfl,rfl,rfl,rfl,rfl,trivial⟩ rfl rfl rfl rfl rfl rfl hd) (by intro e;cases e) (by intro e;cases e) (by simp) (by simp) rfl rfl,rfl,?_⟩;refine ak ?_;refine db.OO 10 5 18 (((a::r).filter λs:fQ=>!decide (s.ic=c.cR)).map ej) rfl rfl rfl rfl (List.length_map _) (λel hel=>by obtain ⟨z,_,rfl⟩:=List.mem_map.1 hel;rfl) (Kf _) rfl ?_;refine db.CG (show lB _ 12 [(.aj 1, .ah (.ar 11 0)),(.aj 3, .ah (.aP 143 [] [.ar 11 0])),(.aj 4, .ah (.aP 144 [] [.ar 11 0])),(.af 10, .au 117 (iQ ⟨log,seen,replica,⟨sq,S⟩,⟨wq,a::r⟩,next⟩ c (cj.gL ⟨sq,S⟩ λs=>decide (s.iI=c.cR)) (cj.gL ⟨wq,a::r⟩ λs=>decide (s.ic=c.cR)))),(.af 11, .au 115 [.ar 10 0])] from ⟨rfl,rfl,rfl,rfl,rfl,rfl,?_,rfl,rfl,rfl,trivial⟩) dd hy;cases wq<;>rfl
 refine cn ?_;exact fM
end Go.Proofs.YtffboamedcmpaaaGreatDoor
