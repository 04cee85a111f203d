import Derived.Test.YtffboamedcmpaaaGreatDoorBq
set_option linter.all false
set_option maxHeartbeats 4000000
set_option maxRecDepth 100000
namespace Go.Am
section
variable {P:Program} {σ:az}
theorem bz.aid {f:FuncId} {args:List ae} {n:Nat} {K:ae->az->Nat->Prop} (h:bz P f args σ n (λv σ' n'=>K v (aU σ' (.aJ 0) (.ah .bV)) n')):bz P f args σ n K:=
 ⟨h.r9,λb g w vals hs hl hv=>(h.q8 b g w vals hs hl hv).mono λ_ _ ⟨v,x,_,n',g',e1,e2,e3,e4,e5,e6⟩=>⟨v,x,_,n',g',e1,e2,e3,e4,e5.IB,e6⟩⟩
end
end Go.Am
namespace Gw
theorem Xg {n:Int}:∀ {l:List fQ} {i:Nat} (hi:i<l.length),(∀ w∈l.take i,decide (w.ic=n)=false)->decide (l[i].ic=n)=true->vp n l=l.take i++⟨l[i].ic,l[i].kC,(sG l[i].l8).1⟩::l.drop (i+1)
 |w::l,0,_,_,h=>by
  have h:w.ic=n:=of_decide_eq_true h;grind [vp]
 |w::l,i+1,hi,hno,h=>by
  have h0:¬w.ic=n:=of_decide_eq_false (hno w (by simp));unfold vp;rw [if_neg h0,Xg (l:=l) (i:=i) (by simpa using hi) (λx hx=>hno x (by simp_all)) h];rfl
end Gw
namespace Go.Proofs.YtffboamedcmpaaaGreatDoor
open Gw
open Go.Am
theorem aie (m:bM) (c:bu) (hm:py m):bz Tryz.prog 86 [.ar 10 0] (aD (nQ m c)) 11
  (cG 11 (λr es=>r= .cE (.aa .i64 (uh (bI m c)).2)/\es=qO (uh (bI m c)).1)):=by
 have hel:(m.de.ab.map ej).length=m.de.ab.length:=List.length_map _;have hB0:uh (bI m c)=match m.de.ab.find? λw=>decide (w.ic=c.cR) with
  |none=>(bI m c,191)
  |some w=>({bI m c with gj:={fg 0 with mD:=(sG w.l8).2},bp:={m with de:=⟨m.de.dI,vp c.cR m.de.ab⟩}},0):=rfl
 have hix:=aic m c m.dO m.de m.de.bZ m.de.ab (Nat.le_trans hm.GZ dd);generalize uh (bI m c)=B at*;rcases BM (λs:fQ=>decide (s.ic=c.cR)) m.de.ab with ⟨h1,hno⟩|⟨i,hlt,h1,hno,hpi⟩
 ·rw [GF hno] at hB0;rw [h1] at hix;dsimp only at hB0;subst hB0;refine bz.na 10 ?_;refine bn Tryz.func86 ?_;refine eJ ?_;exact fM
 ·rw [GD hlt hno hpi] at hB0;rw [h1] at hix;have hpa:=Xg hlt hno hpi;dsimp only at hB0;rw [hpa] at hB0;have hq:=hm.W9 m.de.ab[i] (List.getElem_mem hlt);obtain ⟨log,seen,replica,snaps,⟨wq,W⟩,next⟩:=m;dsimp only at*;have hlt:i<W.length:=hlt;have hne:0<W.length:=om;have hcl:(W.map ej).length=W.length:=List.length_map _;have hcs:nz Tryz.prog 89 [.ag (cj.bZ ⟨wq,W⟩) 4 (W.map ej) .av] 184 4 (W.map ej).length (W.map ej).flatten:=by
   grind [cj.bZ,JI,hm.GZ]
  have o1:0+(i:Int).toNat*4=i*4:=om;have hL:=vA (enc:=ej) (sz:=4) (λ_=>rfl) hlt;have hR:=BK (enc:=ej) (sz:=4) (λ_=>rfl) hlt;have hset:=DZ (enc:=ej) (sz:=4) (λ_=>rfl) (W.take i) (W.drop (i+1)) W[i] ⟨W[i].ic,W[i].kC,(sG W[i].l8).1⟩;rw [<-List.drop_eq_getElem_cons hlt,List.take_append_drop,List.length_take,Nat.min_eq_left (Nat.le_of_lt hlt)] at hset;have hone:=Kf (W.take i++⟨W[i].ic,W[i].kC,(sG W[i].l8).1⟩::W.drop (i+1));have hll:(W.take i++⟨W[i].ic,W[i].kC,(sG W[i].l8).1⟩::W.drop (i+1)).length=W.length:=by grind
  have hfl:cj.bZ ⟨wq,W.take i++⟨W[i].ic,W[i].kC,(sG W[i].l8).1⟩::W.drop (i+1)⟩=false:=by
   grind [cj.bZ]
  generalize W.take i++⟨W[i].ic,W[i].kC,(sG W[i].l8).1⟩::W.drop (i+1)=W2 at*;have htk:=ae9 W[i].l8 (Nat.le_trans hq dd);rw [<-List.length_map (f:=fD)] at htk;generalize W[i]=x at*;generalize hM:(W.map ej).flatten=M at*;have hQ:=Eu hL 2 2 dd;have hE:=Xf hL 2 dd;have hN:=Eu hL 0 2 dd;rw [Nat.add_zero] at hN;have hset:M.take (i*4+2)++DX (sG x.l8).1++M.drop (i*4+2+2)=(W2.map ej).flatten:=by
   rw [List.take_add,hN,<-hset];simp only [List.append_assoc];rfl
  subst hB0;refine bz.na 10 ?_;refine bz.J9 10 5 28 ?_;refine bn Tryz.func86 ?_
  conv=>whnf
  refine bz.aid ?_;refine bz.Iy (es:=[(.af 10, .au 117 (iQ ⟨log,seen,replica,snaps,⟨wq,W⟩,next⟩ c snaps ⟨wq,W⟩)),(.af 11, .au 115 [.ar 10 0])]) ⟨rfl,rfl,rfl,rfl,trivial⟩ rfl dd rfl rfl hix ?_
  conv=>whnf
  refine fu om ?_
  conv=>whnf
  refine ⟨0,_,_,_,rfl,mi.tF hcs rfl,rfl,?_⟩
  conv=>whnf
  refine ⟨aG,?_⟩
  conv=>whnf
  refine ⟨⟨om,om⟩,?_⟩
  conv=>whnf
  rw [o1];refine ak ?_;refine ⟨_,hE,?_⟩
  conv=>whnf
  refine ⟨0,_,_,_,rfl,(CN.AP htk rfl).zi,rfl,?_⟩
  conv=>whnf
  refine ⟨om,?_⟩
  conv=>whnf
  refine ⟨aG,?_⟩
  conv=>whnf
  refine ⟨_,_,_,W2.map ej,4,_,rfl,rfl,congrArg (bs.aR _) hset,by simp_all,λel hel=>by obtain ⟨z,_,rfl⟩:=List.mem_map.1 hel;rfl,hone,?_⟩;refine ⟨_,_,_,rfl,rfl,?_,_,_,⟨rfl,rfl⟩,rfl,⟨rfl,rfl⟩,⟨rfl,rfl,trivial⟩⟩
  repeat (first|exact mO.fa|refine mO.aX (iL.bw _) ?_|refine mO.aX (iL.eR _ _ _) ?_|fail "end")
  refine mO.aX (iL.mj (by unfold cv;rw [hfl];rfl)) ?_
  repeat (first|exact mO.fa|refine mO.aX (iL.bw _) ?_|refine mO.aX (iL.eR _ _ _) ?_|fail "end")
theorem aih (o:aH) (nil:Bool) (l:List aH) (hl:l.length<=1048576):bz Tryz.prog 214 [.ag nil 7 (l.map cI) (.dB 34), .aP 153 [] [.ar 38 0]] (aD [(.af 38, .au 130 (cI o)),(.aJ 34, .aN 130 7 l.length)]) 39 (cG 39 (λx es=>x= .cE (.aa .i64 (fR (λf=>zR f.aT o.aT) l))/\es=[(.af 38, .au 130 (cI o)),(.aJ 34, .aN 130 7 l.length)])):=qK Tryz.func214 Tryz.func153 hl
theorem aif (o:aH) (nil:Bool) (l:List aH) (hl:l.length<=1048576):bz Tryz.prog 155 [.ag nil 7 (l.map cI) (.dB 34), .aP 153 [] [.ar 38 0]] (aD [(.af 38, .au 130 (cI o)),(.aJ 34, .aN 130 7 l.length)]) 39 (cG 39 (λx es=>x= .cE (.aE (l.any (λf=>zR f.aT o.aT)))/\es=[(.af 38, .au 130 (cI o)),(.aJ 34, .aN 130 7 l.length)])):=GG Tryz.func155 (aih o nil l hl)
end Go.Proofs.YtffboamedcmpaaaGreatDoor
namespace Gw
theorem Xk:∀ (f:Nat) (b:List UInt8) (acc l:List aH),(∀ o∈acc,cJ o=true)->mB f b acc=some l->∀ o∈l,cJ o=true
 |0,b,acc,l,ha,h=>by
  grind [mB]
 |f+1,b,acc,l,ha,h=>by
  unfold mB at h;split at h
  ·cases h;exact ha
  ·split at h
   ·cases h
   ·rename_i o r ht;refine Xk f r (acc++[o]) l (λx hx=>?_) h;rcases List.mem_append.1 hx with hx|hx
    ·exact ha x hx
    ·rw [List.mem_singleton] at hx;subst hx;exact (JT ht).1
theorem ail {b:List UInt8} {l:List aH} (h:pV b=some l):∀ o∈l,cJ o=true:=Xk _ _ [] l (λo ho=>by cases ho) h
theorem Xl:∀ (f:Nat) (b:List UInt8) (acc l:List aH),mB f b acc=some l->l.length<=acc.length+f
 |0,b,acc,l,h=>by
  grind [mB]
 |f+1,b,acc,l,h=>by
  unfold mB at h;split at h
  ·cases h;omega
  ·split at h
   ·cases h
   ·have:=Xl f _ _ l h;grind
theorem Xj (g:eh):∀ (l:List aH) (x:Int×cj aH),(∀ o∈(l.foldl (i7 g) x).2.ab,o∈x.2.ab\/o∈l)
 |[],x,o,h=> .inl h
 |a::l,x,o,h=>by
  rw [List.foldl_cons] at h;rcases Xj g l _ o h with h1|h1
  ·unfold i7 at h1;dsimp only at h1;split at h1
   ·rcases List.mem_append.1 h1 with h2|h2
    ·exact .inl h2
    simp_all
   ·exact .inl h1
  simp_all
theorem aik (g:eh) (x:Int×cj aH) (o:aH):(i7 g x o).2.ab.length<=x.2.ab.length+1:=by
 unfold i7;dsimp only;split
 ·show (x.2.ab++[o]).length<=_;simp_all
 omega
theorem Xi (g:eh):∀ (l:List aH) (x:Int×cj aH),(l.foldl (i7 g) x).2.ab.length<=x.2.ab.length+l.length
 |[],x=>Nat.le_refl _
 |a::l,x=>by
  have h1:=Xi g l (i7 g x a);grind [aik]
theorem aij (d:dj):nK d []=(d,0):=rfl
theorem Xh (d:dj) (o:aH) (l:List aH):nK d (o::l)=match uc d o with
  |(d',e)=>if e≠0 then (d',e) else nK d' l:=rfl
end Gw
namespace Go.Proofs.YtffboamedcmpaaaGreatDoor
open Gw
open Go.Am
theorem aii (m:bM) (c:bu) (hm:py m) (hd:c.ia.length<=100000):bz Tryz.prog 88 [.ar 10 0] (aD (nQ m c)) 11
  (cG 11 (λr es=>r= .cE (.aa .i64 (sK (bI m c)).2)/\es=qO (sK (bI m c)).1)):=by
 have hrd:=adO c.ia om;have hrc:=λl (h:pV c.ia=some l)=>ail h
 have hrl:∀ l,pV c.ia=some l->l.length<=100001:=λl h=>by
  have:=Xl _ _ _ l h;grind
 have hB0:sK (bI m c)=match pV c.ia with
  |none=>(bI m c,50)
  |some l=>if 200<m.aA.b8.ab.length+(l.foldl (i7 m.aA) (m.eC, .dE)).2.ab.length then (bI m c,193)
   else match nK (bI m c) (l.foldl (i7 m.aA) (m.eC, .dE)).2.ab with
   |(d',e)=>if e≠0 then (d',e) else ({d' with gj:={d'.gj with qF:=(l.foldl (i7 m.aA) (m.eC, .dE)).2.ab.length},bp:={d'.bp with eC:=(l.foldl (i7 m.aA) (m.eC, .dE)).1}},0):=rfl
 generalize sK (bI m c)=B at*;generalize pV c.ia=R at*;refine bz.na 10 ?_;cases R with
 |none=>
  dsimp only at hB0;subst hB0;refine bn Tryz.func88 ?_;refine ak ?_;exact fM
 |some l=>
  dsimp only at hB0;have hrc:=hrc l rfl;have hll:l.length<=100001:=hrl l rfl;have hel:(iw l).length=l.length:=List.length_map _;have hent:(m.aA.b8.ab.map dY).length=m.aA.b8.ab.length:=List.length_map _;have hfew:=hm.nR.qL;refine bn Tryz.func88 ?_;refine ak ?_;refine db.zd 6 130 7 rfl rfl (.inr rfl) ?_;refine db.cK (X:=Nat×Int×cj aH) (λx=>[(.af 10, .au 117 (Eo m c [] oH 0 oH oH)),(.aj 0, .ah (.ar 10 0)),(.aj 5, .ah (.aa .i64 x.2.1)),(.aj 6, .ah (.ag x.2.2.bZ 7 (x.2.2.ab.map cI) (.dB 34))),(.aJ 34, .aN 130 7 x.2.2.ab.length),
   (.aj 29, .ah (.ag (decide (l=[])) 7 (iw l) .av)),(.aj 30, .ah (.aa .i64 l.length)),(.aj 31, .ah (.aa .i64 x.1))]) 35
   (λx=>x.1<=l.length/\(l.take x.1).foldl (i7 m.aA) (m.eC, .dE)=x.2) (λx=>l.length - x.1) dd (0,m.eC, .dE) ⟨Nat.zero_le _,rfl⟩ ⟨rfl,rfl,rfl,rfl,rfl,rfl,rfl,rfl,rfl,rfl,rfl,rfl,?_,rfl,rfl,rfl,trivial⟩ ?_
  ·show bs.ah (ae.aa .i64 ((iw l).length:Nat))=_;rw [hel]
  rintro ⟨k,seen,F⟩ ⟨hk,hfold⟩;dsimp only at hk hfold ⊢;have hFl:F.ab.length<=100001:=by
   have h1:=Xi m.aA (l.take k) (m.eC, .dE);grind [cj.dE]
  have hFo:(F.ab.map cI).length=F.ab.length:=List.length_map _;refine cn ?_;refine ⟨λh=>?_,λh=>?_⟩
  ·have h:=of_decide_eq_true h;have hlt:k<l.length:=om;have hg:=lN cI hlt;have w1:IntKind.i64.wrap ((k:Int)+1)=((k+1:Nat):Int):=by grind [bj]
   have hnext:(l.take (k+1)).foldl (i7 m.aA) (m.eC, .dE)=i7 m.aA (seen,F) l[k]:=by grind [List.take_succ_eq_append_getElem]
   generalize l[k]=o at*;have hse:=U9 false seen o.aT;have hhas:=Vp m.aA o.aT (Nat.le_trans hfew dd);have hkn:=aif o F.bZ F.ab om;refine ak ?_;cases hh:kg m.aA o.aT with
   |true=>
    refine ak ?_;have hst:i7 m.aA (seen,F) o=(mY seen o.aT,F):=by
     grind [i7]
    rw [hst] at hnext;refine ⟨(k+1,mY seen o.aT,F),⟨om,hnext⟩,by grind,rfl,rfl,rfl,rfl,rfl,rfl,rfl,rfl,rfl,rfl,rfl,rfl,rfl,rfl,?_,rfl,trivial⟩;exact congrArg (λx=>bs.ah (ae.aa .i64 x)) w1
   |false=>
    refine ak ?_;refine .inr ⟨aG,aG,?_⟩;refine eJ ?_;cases ha:(F.ab.any λf=>zR f.aT o.aT) with
    |true=>
     refine ak ?_;have hst:i7 m.aA (seen,F) o=(mY seen o.aT,F):=by
      grind [i7]
     rw [hst] at hnext;refine ⟨(k+1,mY seen o.aT,F),⟨om,hnext⟩,by grind,rfl,rfl,rfl,rfl,rfl,rfl,rfl,rfl,rfl,rfl,rfl,rfl,rfl,rfl,?_,rfl,trivial⟩;exact congrArg (λx=>bs.ah (ae.aa .i64 x)) w1
    |false=>
     refine ak ?_;have hst:i7 m.aA (seen,F) o=(mY seen o.aT,F.jg o):=by
      grind [i7]
     rw [hst] at hnext;refine ⟨⟨hFo.symm,dG (by grind) dd⟩,?_⟩
     conv=>whnf
     refine ⟨(k+1,mY seen o.aT,F.jg o),⟨om,hnext⟩,by grind,rfl,rfl,rfl,rfl,rfl,rfl,?_,rfl,?_,rfl,rfl,rfl,rfl,rfl,?_,rfl,trivial⟩
     ·show bs.ah (ae.ag (F.bZ && false) 7 (F.ab.map cI++[cI o]) _)=bs.ah (ae.ag (false && (F.ab++[o]).isEmpty) 7 ((F.ab++[o]).map cI) _);simp_all
     ·show bs.aN _ 7 ((F.ab.map cI).length+1)=bs.aN _ 7 (F.ab++[o]).length;simp_all
     ·exact congrArg (λx=>bs.ah (ae.aa .i64 x)) w1
  ·have h:=of_decide_eq_false h;have hkl:k=l.length:=om;subst hkl;rw [List.take_length] at hfold;rw [hfold] at hB0;have hFc:∀ o∈F.ab,cJ o=true:=λo ho=>by
    rcases Xj m.aA l (m.eC, .dE) o (by simp_all) with h1|h1
    ·cases h1
    ·exact hrc o h1
   have ws:IntKind.i64.wrap (((m.aA.b8.ab.map dY).length:Int)+((F.ab.map cI).length:Int))=((m.aA.b8.ab.length+F.ab.length:Nat):Int):=by grind [bj]
   dsimp only at hB0
   by_cases h200:200<m.aA.b8.ab.length+F.ab.length
   ·rw [if_pos h200] at hB0;subst hB0
    conv=>whnf
    rw [ws];refine C8 om ?_;exact fM
   ·rw [if_neg h200] at hB0
    conv=>whnf
    rw [ws];refine fu om ?_
    conv=>whnf
    refine db.OH 10 17 130 7 rfl rfl rfl ?_;refine db.cK (X:=Nat×dj) (λx=>[(.aj 0, .ah (.ar 10 0)),(.af 10, .au 117 (Eo x.2.bp c [] oH 0 oH (.ag x.2.fP.bZ 7 (x.2.fP.ab.map cI) (.cO 50)))),(.aJ 50, .aN 130 7 x.2.fP.ab.length),
     (.aj 5, .ah (.aa .i64 seen)),(.aj 6, .ah (.ag F.bZ 7 (F.ab.map cI) (.dB 34))),(.aj 72, .ah (.ag F.bZ 7 (F.ab.map cI) (.dB 34))),(.aj 73, .ah (.aa .i64 F.ab.length)),(.aj 74, .ah (.aa .i64 x.1))]) 51
     (λx=>x.1<=F.ab.length/\x.2.gj=fg 0/\x.2.jh=c/\iy x.2.bp.aA/\x.2.fP.ab.length<=x.1/\nK (bI m c) F.ab=nK x.2 (F.ab.drop x.1)) (λx=>F.ab.length - x.1) dd (0,bI m c) ⟨Nat.zero_le _,rfl,rfl,hm.nR,Nat.zero_le _,rfl⟩ ⟨rfl,rfl,rfl,rfl,rfl,rfl,rfl,rfl,rfl,rfl,rfl,rfl,?_,rfl,rfl,rfl,trivial⟩ ?_
    ·show bs.ah (ae.aa .i64 ((F.ab.map cI).length:Nat))=_;rw [hFo]
    rintro ⟨k,⟨dm,da,dc,dops⟩⟩ ⟨hk,hda,hdc,hlog,hops,hadd⟩;dsimp only at hk hda hdc hlog hops hadd ⊢;subst hda hdc;have hdo:(dops.ab.map cI).length=dops.ab.length:=List.length_map _;refine cn ?_;refine ⟨λh=>?_,λh=>?_⟩
    ·have h:=of_decide_eq_true h;have hlt:k<F.ab.length:=om;have hg:=lN cI hlt;have w1:IntKind.i64.wrap ((k:Int)+1)=((k+1:Nat):Int):=by grind [bj]
     have hck:=hFc F.ab[k] (List.getElem_mem hlt);rw [List.drop_eq_getElem_cons hlt] at hadd;generalize F.ab[k]=o at*;have hap:=OF hlog o (GU hck);have hlog2:=hlog.Ea o;rw [Xh] at hadd;unfold uc at hadd;dsimp only at hadd;generalize eF dm.aA o=R at*;obtain ⟨g,e⟩:=R;dsimp only at*;refine ak ?_;refine bn Tryz.func156 ?_;refine ak ?_
     by_cases he:e=0
     ·subst he;have hb:(dops.bZ && false)=(dops.jg o).bZ:=by rw [Bool.and_false];rfl
      have hmp:dops.ab.map cI++[cI o]=(dops.jg o).ab.map cI:=by show _=(dops.ab++[o]).map cI;simp_all
      have hadd:nK (bI m dc) F.ab=nK ⟨{dm with aA:=g},fg 0,dc,dops.jg o⟩ (F.ab.drop (k+1)):=by rw [hadd];rfl
      refine ak ?_;refine ⟨⟨hdo.symm,dG (by grind) dd⟩,?_⟩;refine ak ?_;refine ⟨(k+1,⟨{dm with aA:=g},fg 0,dc,dops.jg o⟩),⟨om,rfl,rfl,hlog2,by show (dops.ab++[o]).length<=k+1;simp_all,hadd⟩,by grind,rfl,rfl,?_,rfl,?_,rfl,rfl,rfl,rfl,rfl,rfl,rfl,rfl,rfl,?_,rfl,trivial⟩
      ·show bs.au _ (Eo {dm with aA:=g} dc [] oH 0 oH (.ag (dops.bZ && false) 7 (dops.ab.map cI++[cI o]) (.cO 50)))=bs.au _ (Eo {dm with aA:=g} dc [] oH 0 oH (.ag (dops.jg o).bZ 7 ((dops.jg o).ab.map cI) (.cO 50)));rw [hb,hmp]
      ·show bs.aN _ 7 ((dops.ab.map cI).length+1)=bs.aN _ 7 (dops.ab++[o]).length;simp_all
      ·exact congrArg (λx=>bs.ah (ae.aa .i64 x)) w1
     ·have hadd:nK (bI m dc) F.ab=(⟨dm,fg 0,dc,dops⟩,e):=by simp_all
      rw [hadd] at hB0;dsimp only at hB0;rw [if_pos he] at hB0;subst hB0
      conv=>whnf
      refine ⟨λ_=>?_,λq=>absurd (by simpa using q) he⟩
      conv=>whnf
      refine ⟨λ_=>?_,λq=>absurd (by simpa using q) he⟩;exact fM
    ·have h:=of_decide_eq_false h;have hkl:k=F.ab.length:=om;subst hkl;rw [List.drop_length] at hadd;rw [hadd,aij] at hB0;dsimp only at hB0;rw [if_neg (show ¬((0:Int)≠0) by decide)] at hB0;subst hB0
     conv=>whnf
     refine ⟨_,_,_,rfl,rfl,?_,_,_,⟨rfl,rfl⟩,rfl,⟨rfl,rfl⟩,⟨rfl,rfl,trivial⟩⟩
     repeat (first|exact mO.fa|refine mO.aX (iL.bw _) ?_|refine mO.aX (iL.eR _ _ _) ?_|fail "end")
     refine mO.aX (iL.mj (congrArg (λx:Nat=>ae.aa .i64 x) hFo)) ?_
     repeat (first|exact mO.fa|refine mO.aX (iL.bw _) ?_|refine mO.aX (iL.eR _ _ _) ?_|fail "end")
end Go.Proofs.YtffboamedcmpaaaGreatDoor
namespace Go.Am
open Go.RowKit
section
variable {P:Program} {T:cN} {b:ek P} {t:nU} {σ:az} {D:Nat->Prop} {g:cf} {a:Act} {w:World}
def yV (es:List (aS×bs)):ae->Bool
 | .ar b _=>es.any λx=>match x.1 with| .af i=>Nat.beq b i|_=>false
 | .aL b _ _ _ _=>es.any λx=>match x.1 with| .af i=>Nat.beq b i|_=>false
 | .ag _ _ _ .av=>true
 | .ag _ _ _ .bR=>true
 | .aa _ _=>true
 | .aE _=>true
 | .bN=>true
 | .bo=>true
 | .ai _=>true
 | .bU=>true
 |_=>false
def OQ (es:List (aS×bs)):ae->Bool
 | .aK cs=>cs.all (yV es)
 |v=>yV es v
theorem aio {es:List (aS×bs)} {v:ae} (h:yV es v=true):OQ es v=true:=by
 cases v<;>first|exact h|cases h
def yU (es:List (aS×bs)):List (aS×bs)->Bool
 |[]=>true
 |(_, .au _ cells)::l=>cells.all (yV es) && yU es l
 |_::l=>yU es l
theorem aF.ain {es:List (aS×bs)} {g':cf} {x:ae} {v:Value} (hF:g'.bJ=g.bJ) (hx:yV es x=true) (h:aF w g x v) (ho:∀ b,(es.any λx=>match x.1 with| .af i=>Nat.beq b i|_=>false)=true->g'.aZ b=g.aZ b):aF w g' x v:=by
 cases h with
 |bC h=>exact .bC (by rw [hF];exact h)
 |ni h=>exact .ni (by rw [ho _ hx];exact h)
 |kH h ha hs hl hf=>exact .kH (by rw [ho _ hx];exact h) ha hs hl hf
 | @jc _ _ _ tk _ _ _ h ht=>
  refine .jc (by rw [hF];exact h) ?_;cases tk with
  |av=>trivial
  |bR=>exact ht
  |dB id=>cases hx
  |cO id=>cases hx
 |_=>cases hx
theorem Xo {es:List (aS×bs)}:∀ {l:List (aS×bs)},yU es l=true->∀ k t cells,(k,bs.au t cells)∈l->cells.all (yV es)=true
 |[],_,k,t,cells,h=>by cases h
 |(k',X)::l,hi,k,t,cells,h=>by
  rcases List.mem_cons.1 h with h|h
  ·grind [yU]
  ·have hl:yU es l=true:=by cases X<;>simp_all [yU]
   exact Xo hl k t cells h
theorem OR:∀ {es:List (aS×bs)},tH es=true->∀ x∈es,(∃ t cs,x.2= .au t cs)\/∃ t cs,x.2= .aR t cs
 |[],_,x,h=>by cases h
 |(l0,c)::es,hp,x,h=>by
  unfold tH at hp;split at hp
  ·trivial
  ·rename_i heq;cases heq;rw [Bool.and_eq_true] at hp;rcases List.mem_cons.1 h with h|h
   ·simp_all
   ·exact OR hp.2 x h
  ·rename_i heq;cases heq;rw [Bool.and_eq_true] at hp;rcases List.mem_cons.1 h with h|h
   ·simp_all
   ·exact OR hp.2 x h
  ·cases hp
theorem Xp:∀ {es:List (aS×bs)} {l:aS},aD es l≠ .bq->(l,aD es l)∈es
 |[],l,h=>absurd rfl h
 |(l',c)::es,l,h=>by
  by_cases e:l=l'
  ·subst e;rw [aD,gY];simp_all
  ·rw [aD,cL e] at h ⊢;exact List.mem_cons_of_mem _ (Xp h)
theorem mI.aim {es es':List (aS×bs)} {g':cf} {c id:Nat} (h:mI w g c (aD es' (.af id))) (hp:tH es'=true) (hin:yU es es'=true) (hF:g'.bJ=g.bJ) (hv:∀ {x:ae} {v:Value},yV es x=true->aF w g x v->aF w g' x v):mI w g' c (aD es' (.af id)):=by
 by_cases hne:aD es' (.af id)= .bq
 ·rw [hne];trivial
 have hmem:=Xp hne;rcases OR hp _ hmem with ⟨t,cells,hx⟩|⟨t,cells,hx⟩
 ·have hx:aD es' (.af id)= .au t cells:=hx;rw [hx] at h ⊢;obtain ⟨arr,h1,h2,h3⟩:=h;have hm:=Xo hin (.af id) t cells (by simp_all);exact ⟨arr,h1,h2,λi x v hx' hv'=>hv (List.all_eq_true.1 hm x (List.mem_of_getElem? hx')) (h3 i x v hx' hv')⟩
 ·have hx:aD es' (.af id)= .aR t cells:=hx;rw [hx] at h ⊢;obtain ⟨arr,z,h1,h2,h3,h4⟩:=h;exact ⟨arr,z,h1,h2,h3,λi x v hx' hv'=>by grind⟩
open Classical in
theorem mi.Xn {f:FuncId} {args:List ae} {m n:Nat} {es es':List (aS×bs)} {res:ae} (hw0:lB σ m es) (hpl:tH es=true) (hpl':tH es'=true) (hsame:es'.map (·.1)=es.map (·.1)) (hargs:oc m args=true) (hin:yU es es'=true) (hinr:OQ es res=true)
  (h:bz P f args (aD es) m (cG m (λx e=>x= .cE res/\e=es'))):mi P 0 f args σ n (es.map (·.1)) es' res:=by
 refine ⟨h.r9,λσq hag0 b D g w vals hlow hs hfr1 hfr2 hvl hv=>?_⟩;obtain ⟨pl1,pl2,pl3,pl4⟩:=LM hpl;obtain ⟨pm1,pm2,pm3,pm4⟩:=LM hpl';have hag:∀ l,l∈es.map (·.1)->σq l=σ l:=λl hl=>by
  grind
 have hiff:∀ l,aD es' l= .bq↔aD es l= .bq:=λl=>by
  grind [FA]
 have cutown:∀ id c,(g.fj m).aZ id=some c->g.aZ id=some c/\id<m:=λid c hc=>by
  grind [cf.fj]
 have cutrow:∀ id c,(g.fj m).cu id=some c->g.cu id=some c/\id<m:=λid c hc=>by
  grind [cf.fj]
 have ownc:∀ id,id<m->(g.fj m).aZ id=g.aZ id:=λid h=>by simp [cf.fj,h]
 have rowc:∀ id,id<m->(g.fj m).cu id=g.cu id:=λid h=>by simp [cf.fj,h]
 have hb:∀ id,aD es (.af id)≠ .bq->aD es (.af id)=σq (.af id)/\id<m/\rf m (σq (.af id))=true:=λid hne=>by
  have hq:=hag (.af id) (FA hne);rcases hw0.nZ (.af id) with h1|⟨h1,h2,h3⟩
  ·exact absurd h1 hne
  ·rw [hq];exact ⟨h1,eH h2,h3⟩
 have hrw0:∀ id,aD es (.aJ id)= .bq:=λid=>by
  grind
 have hrw0':∀ id,aD es' (.aJ id)= .bq:=λid=>(hiff _).2 (hrw0 id)
 have isb:∀ id,(aD es (.af id)).dw=true->aD es (.af id)≠ .bq:=λid hl e=>by rw [e] at hl;cases hl
 let ex:Nat->Prop:=λc=>∃ id,(aD es (.af id)).dw=true/\g.aZ id=some c
 have exMine:∀ c,ex c->b.rP c:=λc hc=>by
  obtain ⟨id,h1,h2⟩:=hc;obtain ⟨c',q1,q2,_⟩:=hs.dq id (by grind);simp_all
 have hidden:∀ id c,aD es (.af id)= .bq->(σq (.af id)).dw=true->g.aZ id=some c->¬ex c:=λid c hm hl hc he=>by
  obtain ⟨id',h1,h2⟩:=he;obtain ⟨e1,e2,_⟩:=hb id' (isb id' h1);have:=hs.iT id id' c hl (by simp_all) hc h2;grind
 have hiddenR:∀ id t sz N c N',σq (.aJ id)= .aN t sz N->g.cu id=some (some c,N')->¬ex c:=λid t sz N c N' hl hc he=>by
  obtain ⟨bk,q1,q2⟩:=hs.fA id t sz N hl;grind
 have notMine:∀ k,k<b.lr.heap.size->¬b.oK k->¬ex k:=λk h1 h2 h3=>by
  rcases exMine k h3 with h|h
  ·omega
  ·exact h2 h
 have tr:∀ {w':World},oL ex w.heap.size w w'->oL b.oK b.lr.heap.size b.lr w':=fun {w'} hx=>by
  have hsz:=hs.dU.kX;exact hs.dU.xl ⟨hx.Cb,hx.Cd,hx.Cc,hx.kX,λk hk hn=>hx.qR k om (notMine k hk hn),λk hk=>hx.uB k om⟩
 let b':ek P:=⟨w,λk o=>g.bJ k o/\¬ex k,ex,λw' hx=>b.EB w' (tr hx),λk o hk=>hs.fU k o hk.1,λ_ _ hk=>hk.2⟩
 have hsim:bh b' (aD es) (·<m) (g.fj m) w:=by
  refine bh.lQ (oL.EC _ _ _) hs.fU (λ_ _ hk=>hk.1) (λk o hk _ hx=>⟨hk,hx⟩) (λid c hc=>(cutown id c hc).2) (λid c hc=>(cutrow id c hc).2) (λid c hc=>hs.eU id c (cutown id c hc).1) (λid c N hc=>hs.gV id c N (cutrow id _ hc).1)
   (λid hl=>?_) (λid c hl hc=>?_) (λi j k hi hj hci hcj=>?_) (λid Y c hs' _=>absurd hs' (pl2 _ _)) (λid t' sz N hs'=>by simp_all)
  ·obtain ⟨e1,e2,_⟩:=hb id (isb id hl);obtain ⟨c,h1,h2,h3,h4⟩:=hs.dq id (by simp_all);exact ⟨c,by simp_all, .inr ⟨id,hl,h1⟩,h3,h4⟩
  ·obtain ⟨e1,e2,e3⟩:=hb id (isb id hl);rw [e1] at hl ⊢;exact (hs.kF (cutown id c hc).1).Fv e3 rfl ownc rowc
  ·obtain ⟨e1,_,_⟩:=hb i (isb i hi);obtain ⟨e2,_,_⟩:=hb j (isb j hj);exact hs.iT i j k (by simp_all) (by simp_all) (cutown _ _ hci).1 (cutown _ _ hcj).1
 refine (h.q8 b' (g.fj m) w vals hsim hvl λi x v hx hv'=>(hv i x v hx hv').A1 (mQ hargs i x hx) rfl ownc rowc).mono ?_;rintro e w' ⟨v,x,σ1,n1,g1,rfl,⟨y,ez,⟨rfl,rfl⟩,_,⟨rfl,hres⟩,hw'⟩,hmn1,hrep,hs1,hE⟩;have hb1:∀ id,aD ez (.af id)≠ .bq->aD ez (.af id)=σ1 (.af id)/\id<m/\rf m (σ1 (.af id))=true:=λid hne=>by
  rcases hw'.nZ (.af id) with h1|⟨h1,h2,h3⟩
  ·exact absurd h1 hne
  grind
 have hsz:w.heap.size<=w'.heap.size:=hE.rR;have hF1:∀ c o,g1.bJ c o->c<w.heap.size->¬ex c->g.bJ c o:=λc o h1 h2 h3=>(hs1.kh c o h1 h2 h3).1
 let g':cf:=⟨g1.bJ,λi=>if aD es (.af i)= .bq then g.aZ i else g1.aZ i,g.cu⟩
 have go1:∀ i,aD es (.af i)≠ .bq->g'.aZ i=g1.aZ i:=λi hi=>by simp [g',hi]
 have go2:∀ i,aD es (.af i)= .bq->g'.aZ i=g.aZ i:=λi hi=>by simp [g',hi]
 have hinv:∀ {x:ae} {v:Value},yV es x=true->aF w' g1 x v->aF w' g' x v:=λhx hr=>aF.ain (g:=g1) (g':=g') rfl hx hr λb hb=>go1 b (by
  grind [Nat.eq_of_beq_eq_true])
 have hinvR:∀ {x:ae} {v:Value},OQ es x=true->aF w' g1 x v->aF w' g' x v:=fun {x v} hx hr=>by
  cases x with
  |aK cs=>
   cases hr with
   |nT hl h=>
    refine .nT hl λi x v h1 h2=>hinv ?_ (h i x v h1 h2)
    exact List.all_eq_true.1 hx _ (List.mem_of_getElem? h1)
   |bC h=>exact .bC h
  |_=>exact hinv hx hr
 have hbm:∀ id,aD es (.af id)≠ .bq->id<m:=λid hne=>(hb id hne).2.1
 have gkeep:∀ i c,g.aZ i=some c->g'.aZ i=some c:=λi c hc=>by
  by_cases hi:aD es (.af i)= .bq
  ·simp_all
  ·rw [go1 i hi];exact (hE.kE i c (by simp_all)).1
 have hC:vR g w g' w':=by
  refine ⟨hE.ee,λid c hc=>⟨gkeep id c hc,hs1.dU.uB c (hs.eU id c hc)⟩,λid bk N hr=>?_,λid c N hr=> .inl ⟨N,hr⟩⟩;exact ⟨bk,N,hr,Nat.le_refl _,λ_=>⟨rfl,λc hc=>hs1.dU.uB c (hs.gV id c N (by rw [hr,hc]))⟩⟩
 have og:∀ id,aD es (.af id)≠ .bq->eG σq ez (.af id)=σ1 (.af id):=λid hne=>by
  grind
 have on:∀ id,aD es (.af id)= .bq->eG σq ez (.af id)=σq (.af id):=λid he=>by
  grind
 have orr:∀ id,eG σq ez (.aJ id)=σq (.aJ id):=λid=>by rw [pm3,hrw0' id]
 have gv:∀ id,aD es (.af id)≠ .bq->id<m:=λid h=>(hb id h).2.1
 have kind:∀ id c,(eG σq ez (.af id)).dw=true->g'.aZ id=some c->(aD es (.af id)≠ .bq/\(σ1 (.af id)).dw=true/\g1.aZ id=some c)\/(aD es (.af id)= .bq/\(σq (.af id)).dw=true/\g.aZ id=some c):=λid c hl hc=>by
  grind
 have new1:∀ k c,(σ1 (.af k)).dw=true->g1.aZ k=some c->w.heap.size<=c\/ex c:=λk c hl hc=>by
  obtain ⟨c',q1,q2,_⟩:=hs1.dq k hl;rw [hc] at q1;cases q1;exact q2
 have old1:∀ id c,aD es (.af id)= .bq->(σq (.af id)).dw=true->g.aZ id=some c->¬(w.heap.size<=c\/ex c):=λid c hm hl hc h=>by
  rcases h with h|h
  ·have:=hs.eU id c hc;omega
  grind
 have mine1:∀ c,w.heap.size<=c\/ex c->b.rP c:=λc h=>by
  rcases h with h|h
  ·exact .inl (Nat.le_trans hs.dU.kX h)
  ·exact exMine c h
 refine ⟨v,g',rfl,hinvR hinr hrep,?_,⟨hC,hE.rR,hE.uC,hE.rQ⟩⟩;refine bh.lQ (tr hs1.dU) hs1.fU (λk o hk=>(hE.ee k o (hs.kY k o hk)).1) (λk o hk hlt hx=>hs.kh k o (hF1 k o hk (Nat.lt_of_lt_of_le hlt hs.dU.kX) (notMine k hlt hx)) hlt hx)
   (λid c hc=>?_) (λid c hc=>?_) (λid c hc=>?_) (λid c N hc=>?_) (λid hl=>?_) (λid c hl hc=>?_) (λi j c hi hj hci hcj=>?_) (λid Y c hs' hc=>?_) (λid t' sz N hs'=>?_)
 ·by_cases hi:aD es (.af id)= .bq
  ·rw [go2 id hi] at hc;exact .inl (hs.lu id c hc)
  ·obtain ⟨e1,_,_⟩:=hb id hi;obtain ⟨c0,h1,_⟩:=hs.dq id (by grind);exact .inl (hs.lu id c0 h1)
 ·exact .inl (hs.ki id c hc)
 ·by_cases hi:aD es (.af id)= .bq
  ·rw [go2 id hi] at hc;exact Nat.lt_of_lt_of_le (hs.eU id c hc) hsz
  ·rw [go1 id hi] at hc;exact hs1.eU id c hc
 ·exact Nat.lt_of_lt_of_le (hs.gV id c N hc) hsz
 ·by_cases hi:aD es (.af id)= .bq
  ·rw [on id hi] at hl;obtain ⟨c,h1,h2,h3,h4⟩:=hs.dq id hl;grind
  ·rw [og id hi] at hl;obtain ⟨c,h1,h2,h3,h4⟩:=hs1.dq id hl;grind
 ·rcases kind id c hl hc with ⟨hi,h2,h3⟩|⟨hi,h2,h3⟩
  ·rw [og id hi];have hne':aD ez (.af id)≠ .bq:=λe=>hi ((hiff _).1 e)
   have hcl:=hs1.kF h3;have e1:=(hb1 id hne').1;rw [<-e1] at hcl ⊢;exact hcl.aim hpl' hin rfl hinv
  ·rw [on id hi];exact (hs.kF h3).ED hC (hs1.dU.qR c (hs.eU id c h3) (hidden id c hi h2 h3))
 ·rcases kind i c hi hci with ⟨h1,h2,h3⟩|⟨h1,h2,h3⟩<;>rcases kind j c hj hcj with ⟨h1',h2',h3'⟩|⟨h1',h2',h3'⟩
  ·exact hs1.iT i j c h2 h2' h3 h3'
  ·grind
  ·grind
  ·exact hs.iT i j c h2 h2' h3 h3'
 ·by_cases hi:aD es (.af id)= .bq
  ·rw [on id hi] at hs';rw [go2 id hi] at hc;exact hs.lv id Y c hs' hc
  grind
 ·rw [orr id] at hs';obtain ⟨bk,h1,h2⟩:=hs.fA id t' sz N hs';refine ⟨bk,h1,λc hc=>?_⟩;obtain ⟨b1,b2,b3,b4,b5,arr,z,b6,b7⟩:=h2 c hc;have hne:¬ex c:=hiddenR id t' sz N c N hs' (by rw [h1,hc]);refine ⟨b1,Nat.lt_of_lt_of_le b2 hsz,λo ho=>b3 o (hF1 c o ho b2 hne),λj hl hc'=>?_,λj t'' sz'' M M' hj hr=>?_,arr,z,(hs1.dU.qR c b2 hne).trans b6,b7⟩
  ·grind
  grind
theorem mi.G0 {f:FuncId} {args:List ae} {m n:Nat} {es es':List (aS×bs)} {res:ae} (hw0:lB σ m es) (hpl:tH es=true) (hpl':tH es'=true) (hsame:es'.map (·.1)=es.map (·.1)) (hargs:oc m args=true) (hin:yU es es'=true) (hinr:yV es res=true)
  (h:bz P f args (aD es) m (cG m (λx e=>x= .cE res/\e=es'))):mi P 0 f args σ n (es.map (·.1)) es' res:=mi.Xn hw0 hpl hpl' hsame hargs hin (aio hinr) h
theorem db.Xm {r:Option Nat} {nt lo n:Nat} {c:Code} {K:Exit->az->Nat->Prop} (k j:Nat) {bt:TypeId} {cells cells':List ae} {x:ae} (hs:σ (.af k)= .au bt cells) (hj:cells[j]? =some x) (hc:cells.set j (xA x)=cells') (h:db P r nt lo c (aU σ (.af k) (.au bt cells')) n K):db P r nt lo c σ n K:=by
 subst hc;refine ⟨λb t a w hl hsim=>h.jG b t a w hl ?_⟩;obtain ⟨g,hh,hf,hE,hn⟩:=hsim;refine ⟨g,hh.Ka hs (List.length_set) (λi y v hy hx=>?_),hf.qo (λi=>by trivial),hE,hn⟩;grind [QF]
theorem db.OP {r:Option Nat} {nt lo n:Nat} {x y:Code} {K:Exit->az->Nat->Prop} (m:Nat) (es:List (aS×bs)) (hx:db P r nt lo y (aD es) m K->db P r nt lo x σ n (Lw (λσ n=>db P r nt lo y σ n K) K)) (hy:db P r nt lo y (aD es) m K):db P r nt lo (.seq x y) σ n K:=
 db.CF (hx hy)
end
end Go.Am
namespace Go.Proofs.YtffboamedcmpaaaGreatDoor
open Gw
open Go.Am
abbrev Al (m:bM) (c:bu) (sv:cj jC) (wv:cj fQ):List (Go.Am.aS×bs):=[(.af 10, .au 117 (iQ m c sv wv)),(.af 11, .au 115 [.ar 10 0])]
abbrev OS (m:bM) (c:bu) (sv:cj jC) (wv:cj fQ):List (Go.Am.aS×bs):=[(.aj 1, .ah (.ar 11 0)),(.aj 3, .ah (.aP 143 [] [.ar 11 0])),(.aj 4, .ah (.aP 144 [] [.ar 11 0])),(.af 10, .au 117 (iQ m c sv wv)),(.af 11, .au 115 [.ar 10 0])]
theorem B7 {σ:az} {l:Go.Am.aS} {c:bs} (h:σ l=c):aU σ l c=σ:=by
 grind [gY,cL]
theorem Xq {P:Program} {m0 n:Nat} {f:FuncId} {args:List ae} {σ:az} {rx:List Go.Am.aS} {l1 l2:Go.Am.aS} {c1 c2:bs} {res:ae} (h:mi P m0 f args σ n rx [(l1,c1),(l2,c2)] res) (m1:l1∈rx) (m2:l2∈rx) (e1:σ l1=c1) (e2:σ l2=c2):mi P m0 f args σ n rx [] res:=
 ⟨h.AI,λσ' ha b D g w vals h1 h2 h3 h4 h5 h6=>by
  have:=h.AJ σ' ha b D g w vals h1 h2 h3 h4 h5 h6;have e:eG σ' [(l1,c1),(l2,c2)]=eG σ' []:=by
   show aU (aU σ' l1 c1) l2 c2=σ';rw [B7 ((ha l1 m1).trans e1),B7 ((ha l2 m2).trans e2)]
  simp_all⟩
theorem Xr {P:Program} {m0 n:Nat} {f:FuncId} {args:List ae} {σ:az} {rx:List Go.Am.aS} {l0 l1 l2:Go.Am.aS} {c0 c1 c2:bs} {res:ae} (h:mi P m0 f args σ n rx [(l0,c0),(l1,c1),(l2,c2)] res) (n1:l1≠l0) (n2:l2≠l0) (m1:l1∈rx) (m2:l2∈rx) (e1:σ l1=c1) (e2:σ l2=c2):mi P m0 f args σ n rx [(l0,c0)] res:=
 ⟨h.AI,λσ' ha b D g w vals h1 h2 h3 h4 h5 h6=>by
  have:=h.AJ σ' ha b D g w vals h1 h2 h3 h4 h5 h6;have e:eG σ' [(l0,c0),(l1,c1),(l2,c2)]=eG σ' [(l0,c0)]:=by
   show aU (aU (aU σ' l0 c0) l1 c1) l2 c2=aU σ' l0 c0;grind [B7,cL]
  simp_all⟩
theorem aip (m:bM) (c:bu) (hm:py m):bz Tryz.prog 84 [.ar 10 0] (aD (nQ m c)) 11
  (cG 11 (λr es=>r= .cE (.aa .i64 (ue (bI m c)).2)/\es=qO (ue (bI m c)).1)):=by
 have hB0:ue (bI m c)=if (m.dO.ab.any λs=>decide (s.iI=c.cR))=false/\(m.de.ab.any λs=>decide (s.ic=c.cR))=false then (bI m c,191)
  else ({bI m c with bp:={m with dO:=m.dO.gL λs=>decide (s.iI=c.cR),de:=m.de.gL λs=>decide (s.ic=c.cR)}},0):=rfl
 have hs:=ah4 m c m.dO m.de m.dO.bZ m.dO.ab (Nat.le_trans hm.Kd dd);have hw:=ah8 m c m.dO m.de m.de.bZ m.de.ab (Nat.le_trans hm.GZ dd);generalize ue (bI m c)=B at*;refine bz.na 10 ?_;refine bz.xG dW (fn:=Tryz.f84) aG rfl aG rfl rfl ?_;refine eK ?_;refine eK ?_;refine eK ?_
 by_cases hno:(m.dO.ab.any λs=>decide (s.iI=c.cR))=false/\(m.de.ab.any λs=>decide (s.ic=c.cR))=false
 ·rw [if_pos hno] at hB0;subst hB0;rw [hno.1] at hs;rw [hno.2] at hw;refine eK ?_;refine eJ ?_;exact fM
 rw [if_neg hno] at hB0;subst hB0;refine db.OP 12 (OS m c m.dO m.de) (λhy=>?_) ?_
 ·refine cn ?_;refine eJ ?_;cases hs1:(m.dO.ab.any λs=>decide (s.iI=c.cR)) with
  |true=>
   refine ak ?_;exact db.CG (show lB _ 12 [(.aj 1, .ah (.ar 11 0)),(.aj 3, .ah (.aP 143 [] [.ar 11 0])),(.aj 4, .ah (.aP 144 [] [.ar 11 0])),(.af 10, .au 117 (iQ m c m.dO m.de)),(.af 11, .au 115 [.ar 10 0])] from ⟨rfl,rfl,rfl,rfl,rfl,rfl,rfl,rfl,rfl,rfl,trivial⟩) dd hy
  |false=>
   have hw1:(m.de.ab.any λs=>decide (s.ic=c.cR))=true:=by
    simp_all
   rw [hw1] at hw;refine eJ ?_;exact db.CG (show lB _ 12 [(.aj 1, .ah (.ar 11 0)),(.aj 3, .ah (.aP 143 [] [.ar 11 0])),(.aj 4, .ah (.aP 144 [] [.ar 11 0])),(.af 10, .au 117 (iQ m c m.dO m.de)),(.af 11, .au 115 [.ar 10 0])] from ⟨rfl,rfl,rfl,rfl,rfl,rfl,rfl,rfl,rfl,rfl,trivial⟩) dd hy
 clear hs hw hno;obtain ⟨log,seen,replica,⟨sq,S⟩,⟨wq,W⟩,next⟩:=m;have hmS:S.length<=1000:=hm.Kd;have hmW:W.length<=1000:=hm.GZ;clear hm;refine db.OP 12 (OS ⟨log,seen,replica,⟨sq,S⟩,⟨wq,W⟩,next⟩ c (cj.gL ⟨sq,S⟩ λs=>decide (s.iI=c.cR)) ⟨wq,W⟩) (λhy=>?_) ?_
 ·have hLn:S.length<=1048576:=Nat.le_trans hmS dd;cases S with
  |nil=>
   have hd:=ah2 ⟨log,seen,replica,⟨sq,[]⟩,⟨wq,W⟩,next⟩ c ⟨sq,[]⟩ ⟨wq,W⟩ (sq && true);refine db.wh ?_;refine cn ?_;refine ⟨0,_,_,_,rfl,mi.xR (U4 (sq && true)) rfl,rfl,?_⟩
   conv=>whnf
   refine ⟨0,_,_,_,rfl,Xq (mi.G0 (m:=12) (res:= .ag (sq && true) 2 [] .bR) (es:=Al ⟨log,seen,replica,⟨sq,[]⟩,⟨wq,W⟩,next⟩ c ⟨sq,[]⟩ ⟨wq,W⟩) (es':=Al ⟨log,seen,replica,⟨sq,[]⟩,⟨wq,W⟩,next⟩ c ⟨sq,[]⟩ ⟨wq,W⟩) ⟨rfl,rfl,rfl,rfl,trivial⟩ rfl rfl rfl rfl rfl rfl hd) (by simp) (by simp) rfl rfl,rfl,?_⟩;refine ak ?_;refine db.Xm 10 4 rfl rfl rfl ?_;refine db.CG (show lB _ 12 [(.aj 1, .ah (.ar 11 0)),(.aj 3, .ah (.aP 143 [] [.ar 11 0])),(.aj 4, .ah (.aP 144 [] [.ar 11 0])),(.af 10, .au 117 (iQ ⟨log,seen,replica,⟨sq,[]⟩,⟨wq,W⟩,next⟩ c (cj.gL ⟨sq,[]⟩ λs=>decide (s.iI=c.cR)) ⟨wq,W⟩)),(.af 11, .au 115 [.ar 10 0])] from ⟨rfl,rfl,rfl,rfl,rfl,rfl,?_,rfl,rfl,rfl,trivial⟩) dd hy;cases sq<;>rfl
  |cons a r=>
   have hd:=ah0 ⟨log,seen,replica,⟨sq,a::r⟩,⟨wq,W⟩,next⟩ c ⟨sq,a::r⟩ ⟨wq,W⟩ true (a::r) hLn;have hcl:((a::r).map iJ).length=(a::r).length:=List.length_map _;have hcs:nz Tryz.prog 142 [.ag (cj.bZ ⟨sq,a::r⟩) 2 ((a::r).map iJ) .av] 264 2 (a::r).length ((a::r).map iJ).flatten:=by
    grind [cj.bZ,U5]
   refine db.wh ?_;refine cn ?_;refine ⟨0,_,_,_,rfl,mi.tF hcs rfl,rfl,?_⟩
   conv=>whnf
   refine ⟨0,_,_,_,rfl,Xr (mi.G0 (m:=19) (res:= .aL 18 0 2 ((a::r).filter λs:jC=>!decide (s.iI=c.cR)).length true) (es:=(.af 18, .aR 264 (((a::r).map iJ).flatten))::Al ⟨log,seen,replica,⟨sq,a::r⟩,⟨wq,W⟩,next⟩ c ⟨sq,a::r⟩ ⟨wq,W⟩) (es':=(.af 18, .aR 264 ((((a::r).filter λs:jC=>!decide (s.iI=c.cR)).map iJ).flatten))::Al ⟨log,seen,replica,⟨sq,a::r⟩,⟨wq,W⟩,next⟩ c ⟨sq,a::r⟩ ⟨wq,W⟩) ⟨rfl,rfl,rfl,rfl,rfl,rfl,trivial⟩ rfl rfl rfl rfl rfl rfl hd) (by intro e;cases e) (by intro e;cases e) (by simp) (by simp) rfl rfl,rfl,?_⟩;refine ak ?_;refine db.OO 10 4 18 (((a::r).filter λs:jC=>!decide (s.iI=c.cR)).map iJ) rfl rfl rfl rfl (List.length_map _) (λel hel=>by obtain ⟨z,_,rfl⟩:=List.mem_map.1 hel;rfl) (Xd _) rfl ?_;refine db.CG (show lB _ 12 [(.aj 1, .ah (.ar 11 0)),(.aj 3, .ah (.aP 143 [] [.ar 11 0])),(.aj 4, .ah (.aP 144 [] [.ar 11 0])),(.af 10, .au 117 (iQ ⟨log,seen,replica,⟨sq,a::r⟩,⟨wq,W⟩,next⟩ c (cj.gL ⟨sq,a::r⟩ λs=>decide (s.iI=c.cR)) ⟨wq,W⟩)),(.af 11, .au 115 [.ar 10 0])] from ⟨rfl,rfl,rfl,rfl,rfl,rfl,?_,rfl,rfl,rfl,trivial⟩) dd hy;cases sq<;>rfl
 refine db.OP 12 (OS ⟨log,seen,replica,⟨sq,S⟩,⟨wq,W⟩,next⟩ c (cj.gL ⟨sq,S⟩ λs=>decide (s.iI=c.cR)) (cj.gL ⟨wq,W⟩ λs=>decide (s.ic=c.cR))) (λhy=>?_) ?_
 ·have hLn:W.length<=1048576:=Nat.le_trans hmW dd;cases W with
  |nil=>
   have hd:=ah6 ⟨log,seen,replica,⟨sq,S⟩,⟨wq,[]⟩,next⟩ c (cj.gL ⟨sq,S⟩ λs=>decide (s.iI=c.cR)) ⟨wq,[]⟩ (wq && true);refine db.wh ?_;refine cn ?_;refine ⟨0,_,_,_,rfl,mi.xR (U6 (wq && true)) rfl,rfl,?_⟩
   conv=>whnf
   refine ⟨0,_,_,_,rfl,Xq (mi.G0 (m:=12) (res:= .ag (wq && true) 4 [] .bR) (es:=Al ⟨log,seen,replica,⟨sq,S⟩,⟨wq,[]⟩,next⟩ c (cj.gL ⟨sq,S⟩ λs=>decide (s.iI=c.cR)) ⟨wq,[]⟩) (es':=Al ⟨log,seen,replica,⟨sq,S⟩,⟨wq,[]⟩,next⟩ c (cj.gL ⟨sq,S⟩ λs=>decide (s.iI=c.cR)) ⟨wq,[]⟩) ⟨rfl,rfl,rfl,rfl,trivial⟩ rfl rfl rfl rfl rfl rfl hd) (by simp) (by simp) rfl rfl,rfl,?_⟩;refine ak ?_;refine db.Xm 10 5 rfl rfl rfl ?_;refine db.CG (show lB _ 12 [(.aj 1, .ah (.ar 11 0)),(.aj 3, .ah (.aP 143 [] [.ar 11 0])),(.aj 4, .ah (.aP 144 [] [.ar 11 0])),(.af 10, .au 117 (iQ ⟨log,seen,replica,⟨sq,S⟩,⟨wq,[]⟩,next⟩ c (cj.gL ⟨sq,S⟩ λs=>decide (s.iI=c.cR)) (cj.gL ⟨wq,[]⟩ λs=>decide (s.ic=c.cR)))),(.af 11, .au 115 [.ar 10 0])] from ⟨rfl,rfl,rfl,rfl,rfl,rfl,?_,rfl,rfl,rfl,trivial⟩) dd hy;cases wq<;>rfl
  |cons a r=>
   have hd:=aia ⟨log,seen,replica,⟨sq,S⟩,⟨wq,a::r⟩,next⟩ c (cj.gL ⟨sq,S⟩ λs=>decide (s.iI=c.cR)) ⟨wq,a::r⟩ true (a::r) hLn;have hcl:((a::r).map ej).length=(a::r).length:=List.length_map _;have hcs:nz Tryz.prog 89 [.ag (cj.bZ ⟨wq,a::r⟩) 4 ((a::r).map ej) .av] 184 4 (a::r).length ((a::r).map ej).flatten:=by
    grind [cj.bZ,JI]
   refine db.wh ?_;refine cn ?_;refine ⟨0,_,_,_,rfl,mi.tF hcs rfl,rfl,?_⟩
   conv=>whnf
   refine ⟨0,_,_,_,rfl,Xr (mi.G0 (m:=19) (res:= .aL 18 0 4 ((a::r).filter λs:fQ=>!decide (s.ic=c.cR)).length true) (es:=(.af 18, .aR 184 (((a::r).map ej).flatten))::Al ⟨log,seen,replica,⟨sq,S⟩,⟨wq,a::r⟩,next⟩ c (cj.gL ⟨sq,S⟩ λs=>decide (s.iI=c.cR)) ⟨wq,a::r⟩) (es':=(.af 18, .aR 184 ((((a::r).filter λs:fQ=>!decide (s.ic=c.cR)).map ej).flatten))::Al ⟨log,seen,replica,⟨sq,S⟩,⟨wq,a::r⟩,next⟩ c (cj.gL ⟨sq,S⟩ λs=>decide (s.iI=c.cR)) ⟨wq,a::r⟩) ⟨rfl,rfl,rfl,rfl,rfl,rfl,trivial⟩ rfl rfl rfl rfl rfl rfl hd) (by intro e;cases e) (by intro e;cases e) (by simp) (by simp) rfl rfl,rfl,?_⟩;refine ak ?_;refine db.OO 10 5 18 (((a::r).filter λs:fQ=>!decide (s.ic=c.cR)).map ej) rfl rfl rfl rfl (List.length_map _) (λel hel=>by obtain ⟨z,_,rfl⟩:=List.mem_map.1 hel;rfl) (Kf _) rfl ?_;refine db.CG (show lB _ 12 [(.aj 1, .ah (.ar 11 0)),(.aj 3, .ah (.aP 143 [] [.ar 11 0])),(.aj 4, .ah (.aP 144 [] [.ar 11 0])),(.af 10, .au 117 (iQ ⟨log,seen,replica,⟨sq,S⟩,⟨wq,a::r⟩,next⟩ c (cj.gL ⟨sq,S⟩ λs=>decide (s.iI=c.cR)) (cj.gL ⟨wq,a::r⟩ λs=>decide (s.ic=c.cR)))),(.af 11, .au 115 [.ar 10 0])] from ⟨rfl,rfl,rfl,rfl,rfl,rfl,?_,rfl,rfl,rfl,trivial⟩) dd hy;cases wq<;>rfl
 refine cn ?_;exact fM
end Go.Proofs.YtffboamedcmpaaaGreatDoor
namespace Gw
structure vM (m:bM) (d:dj):Prop where
 G1:iy d.bp.aA
 Kh:d.bp.de=m.de
theorem Xt:∀ (l:List aH) {d:dj},iy d.bp.aA->vM d.bp (nK d l).1
 |[],d,h=>⟨h,rfl⟩
 |o::l,d,h=>by
  rw [Xh];unfold uc;have h2:=h.Ea o;generalize eF d.bp.aA o=R at*;obtain ⟨g,e⟩:=R;dsimp only at*
  by_cases he:e=0
  ·subst he;have:=Xt l (d:={d with bp:={d.bp with aA:=g},fP:=d.fP.jg o}) h2;exact ⟨this.G1,this.Kh⟩
  ·simp only [ne_eq,he,not_false_eq_true,if_true];exact ⟨h,rfl⟩
end Gw
namespace Go.Proofs.YtffboamedcmpaaaGreatDoor
open Gw
open Go.Am
theorem aiv (A B:List dH):(vj A B).length<=A.length+B.length+B.length:=by
 unfold vj Gn DK Gp;have h1:=List.length_filter_le (λt=>!wY B t) A.reverse;have h2:=List.length_filter_le (λt=>!wY A t) B;have h3:=List.length_filter_le (λt=>Gq A t) B;rw [List.length_reverse] at h1;simp only [List.length_append,List.length_map];omega
theorem Kg {m:bM} (h:iy m.aA) (c:bu) (o:aH):vM m (ll (bI m c) o).1:=by
 rw [GY];split
 ·exact ⟨h.Ea _,rfl⟩
 ·exact ⟨h,rfl⟩
theorem Ew {m:bM} (hm:py m) (c:bu):vM m (bI m c):=⟨hm.nR,rfl⟩
theorem Xs {m:bM} (hm:py m) (c:bu):vM m (ud (bI m c)).1:=by
 unfold ud
 repeat' (first|exact Ew hm c|exact Kg hm.nR c _|(split<;>try dsimp only))
theorem aiB {m:bM} (hm:py m) (c:bu):vM m (uq (bI m c)).1:=by
 unfold uq
 repeat' (first|exact Ew hm c|exact Kg hm.nR c _|(split<;>try dsimp only))
theorem aiu {m:bM} (hm:py m) (c:bu):vM m (ug (bI m c)).1:=by
 unfold ug
 repeat' (first|exact Ew hm c|exact Kg hm.nR c _|(split<;>try dsimp only))
theorem aiy {m:bM} (hm:py m) (c:bu):vM m (uj (bI m c)).1:=by
 unfold uj
 repeat' (first|exact Ew hm c|exact Kg hm.nR c _|(split<;>try dsimp only))
theorem ait {m:bM} (hm:py m) (c:bu):vM m (sK (bI m c)).1:=by
 unfold sK;split
 ·exact Ew hm c
 ·dsimp only;split
  ·exact Ew hm c
  ·rename_i l _ _;have h2:=Xt (l.foldl (i7 m.aA) (m.eC, .dE)).2.ab (d:=bI m c) hm.nR;split
   ·exact ⟨h2.G1,h2.Kh⟩
   ·exact ⟨h2.G1,h2.Kh⟩
theorem aix (m:bM) (c:bu):(ui (bI m c)).1.fP= .dE:=by
 unfold ui
 repeat' (first|rfl|(split<;>try dsimp only))
theorem ais (m:bM) (c:bu):(uf (bI m c)).1.fP= .dE:=by
 unfold uf
 repeat' (first|rfl|(split<;>try dsimp only))
theorem aiz (m:bM) (c:bu):(um (bI m c)).1.fP= .dE:=by
 unfold um
 repeat' (first|rfl|(split<;>try dsimp only))
theorem air (m:bM) (c:bu):(ue (bI m c)).1.fP= .dE:=by
 unfold ue
 repeat' (first|rfl|(split<;>try dsimp only))
theorem aiA (m:bM) (c:bu):(uo (bI m c)).1.fP= .dE:=by
 unfold uo
 repeat' (first|rfl|(split<;>try dsimp only))
theorem aiw (m:bM) (c:bu):(uh (bI m c)).1.fP= .dE:=by
 unfold uh
 repeat' (first|rfl|(split<;>try dsimp only))
theorem sW {m:bM} {c:bu} (hm:py m) (hp:c.bY.length<=1048576) (ht:c.fO.length<=1048576) (hc:yt c=true) {f:FuncId} (hl:qv (.aa .i64 c.dD) WY=some (.aP f [] [])) {y:dj×Int}
  (hR:dR m c=match y with|(d,e)=>if e≠0 then (m,fg e, .dE) else if d.fP.ab=[] then (d.bp,d.gj,d.fP) else ((DU d m.aA.aQ.ab).bp,d.gj,d.fP))
  (hac:bz Tryz.prog f [.ar 10 0] (aD (nQ m c)) 11 (cG 11 (λr es=>r= .cE (.aa .i64 y.2)/\es=qO y.1))) (hgd:vM m y.1\/y.1.fP= .dE):
  aC Tryz.prog 18 [zU m,tX c] (.aw [zU (dR m c).1,JD (dR m c).2.1,cv 7 cI (dR m c).2.2]):=by
 have hck:=Uw c hp ht;rw [hc] at hck;generalize dR m c=R at*;obtain ⟨D,e⟩:=y;dsimp only at*;refine aC.IH (Rj.II dW (fn:=Tryz.f18) aG rfl aG rfl rfl ?_);refine eK ?_;refine eK ?_;refine cC ?_;refine eK ?_;refine db.wh ?_;refine eK ?_;refine ⟨0,_,_,_,rfl,mi.WT ahJ,rfl,?_⟩
 conv=>whnf
 refine ⟨aG,aG,?_⟩;refine mf.xQ dW (kt:=3) (et:=118) (d:= .int .i64) aG aG rfl rfl aG rfl rfl (.inl rfl) rfl (mG rfl) _ hl ?_;refine cC ?_;refine db.LF ?_;refine cn ?_;refine mq ?_
 by_cases he:e=0
 ·subst he;rw [if_neg (show ¬((0:Int)≠0) by decide)] at hR;obtain ⟨dm,da,dc,⟨q,L⟩⟩:=D;cases L with
  |nil=>
   rw [if_pos rfl] at hR;subst hR;refine mq ?_;exact ⟨_,iL.bw _,iL.bw _⟩
  |cons o r=>
   rw [if_neg (by intro h;cases h)] at hR;subst hR;have hgd:vM m ⟨dm,da,dc,⟨q,o::r⟩⟩:=hgd.elim id (λh=>by cases h);have hwl:dm.de=m.de:=hgd.Kh;have htl:=ahZ ⟨dm,da,dc,⟨q,o::r⟩⟩ m.aA.aQ.bZ m.aA.aQ.ab (vL hm.nR) (vL hgd.G1) (by show dm.de.ab.length<=_;rw [hwl];exact hm.GZ) (λw hw=>hm.W9 w (by rw [<-hwl];exact hw)) (λw hw=>by
    have h1:=aiv (eL m.aA.aQ.ab w.kC) (eL dm.aA.aQ.ab w.kC);have h2:=Ju m.aA.aQ.ab w.kC;have h3:=Ju dm.aA.aQ.ab w.kC;have h4:=(vL hm.nR).vK;have h5:dm.aA.aQ.ab.length<=200:=(vL hgd.G1).vK;show (vj (eL m.aA.aQ.ab w.kC) (eL dm.aA.aQ.ab w.kC)).length<=100000;omega)
   refine cC ?_;refine ⟨λ_=>?_,λh=>absurd (of_decide_eq_false h) (by show ¬¬(0:Int)<(((List.map cI r).length+1:Nat):Int);omega)⟩;refine mq ?_;exact ⟨_,iL.bw _,iL.bw _⟩
 ·rw [if_pos he] at hR;subst hR
  conv=>whnf
  refine ⟨λ_=>?_,λq=>absurd (by simpa using q) he⟩
  conv=>whnf
  exact ⟨_,iL.ml (.aX (iL.bw _) (.aX (iL.np oT) (.aX (iL.eR _ _ _) .fa))),iL.bw _⟩
theorem aiq {c:bu} (h:yt c=true):1<=c.dD/\c.dD<=13:=by
 unfold yt at h;cases hh:vg c.dD with
 |none=>rw [hh] at h;cases h
 |some p=>have:=Ux hh;omega
theorem OT (m:bM) (c:bu) (hm:py m) (hp:c.bY.length<=1048576) (ht:c.fO.length<=1048576) (hd:c.ia.length<=100000):
  aC Tryz.prog 18 [zU m,tX c] (.aw [zU (dR m c).1,JD (dR m c).2.1,cv 7 cI (dR m c).2.2]):=by
 cases hc:yt c with
 |false=>
  have hck:=Uw c hp ht;rw [hc] at hck;have hR:dR m c=(m,fg 180, .dE):=by unfold dR;rw [if_pos hc]
  rw [hR];refine aC.CL dW jd (fn:=Tryz.f18) aG rfl aG rfl rfl ?_;refine cC ?_;exact iL.ml (.aX (iL.bw _) (.aX (iL.np oT) (.aX (iL.eR _ _ _) .fa)))
 |true=>
  have hk:=aiq hc;rcases (by omega:c.dD=1\/c.dD=2\/c.dD=3\/c.dD=4\/c.dD=5\/c.dD=6\/c.dD=7\/c.dD=8\/c.dD=9\/c.dD=10\/c.dD=11\/c.dD=12\/c.dD=13) with h|h|h|h|h|h|h|h|h|h|h|h|h
  ·exact sW hm hp ht hc (by rw [h];rfl) (by unfold dR;rw [if_neg (by rw [hc];decide),h];rfl) (W6 m c hm.nR hp) (.inl (Xs hm c))
  ·exact sW hm hp ht hc (by rw [h];rfl) (by unfold dR;rw [if_neg (by rw [hc];decide),h];rfl) (W6 m c hm.nR hp) (.inl (Xs hm c))
  ·exact sW hm hp ht hc (by rw [h];rfl) (by unfold dR;rw [if_neg (by rw [hc];decide),h];rfl) (ahO m c hm.nR hp (Nat.le_trans hd dd)) (.inl (aiB hm c))
  ·exact sW hm hp ht hc (by rw [h];rfl) (by unfold dR;rw [if_neg (by rw [hc];decide),h];rfl) (ahU m c hm hp) (.inr (aix m c))
  ·exact sW hm hp ht hc (by rw [h];rfl) (by unfold dR;rw [if_neg (by rw [hc];decide),h];rfl) (ahM m c hm.nR hp ht) (.inl (aiu hm c))
  ·exact sW hm hp ht hc (by rw [h];rfl) (by unfold dR;rw [if_neg (by rw [hc];decide),h];rfl) (ahN m c hm.nR hp) (.inl (aiy hm c))
  ·exact sW hm hp ht hc (by rw [h];rfl) (by unfold dR;rw [if_neg (by rw [hc];decide),h];rfl) (ahS m c hm hp) (.inr (ais m c))
  ·exact sW hm hp ht hc (by rw [h];rfl) (by unfold dR;rw [if_neg (by rw [hc];decide),h];rfl) (ahW m c hm) (.inr (aiz m c))
  ·exact sW hm hp ht hc (by rw [h];rfl) (by unfold dR;rw [if_neg (by rw [hc];decide),h];rfl) (aip m c hm) (.inr (air m c))
  ·exact sW hm hp ht hc (by rw [h];rfl) (by unfold dR;rw [if_neg (by rw [hc];decide),h];rfl) (ahY m c hm hp) (.inr (aiA m c))
  ·exact sW hm hp ht hc (by rw [h];rfl) (by unfold dR;rw [if_neg (by rw [hc];decide),h];rfl) (aie m c hm) (.inr (aiw m c))
  ·exact sW hm hp ht hc (by rw [h];rfl) (y:=(bI m c,0)) (by unfold dR;rw [if_neg (by rw [hc];decide),h];rfl) (ahV m c) (.inr rfl)
  ·exact sW hm hp ht hc (by rw [h];rfl) (by unfold dR;rw [if_neg (by rw [hc];decide),h];rfl) (aii m c hm hd) (.inl (ait hm c))
end Go.Proofs.YtffboamedcmpaaaGreatDoor
namespace Gw
section
variable {α β:Type} {enc:α->List β} {sz:Nat}
theorem aiC {mem es:List β} {k n j:Nat} {x:β} (h:(mem.drop k).take n=es) (hj:es[j]? =some x):mem[k+j]? =some x:=by
 subst h;rw [List.getElem?_take] at hj
 by_cases hjn:j<n
 ·rw [if_pos hjn,List.getElem?_drop] at hj;exact hj
 ·rw [if_neg hjn] at hj;cases hj
theorem aiD {A B p s:List β} {y x:β}:(A++((p++y::s)++B)).take (A.length+p.length)++[x]++(A++((p++y::s)++B)).drop (A.length+p.length+1)=A++((p++x::s)++B):=by
 have e1:(A++((p++y::s)++B))=(A++p)++(y::(s++B)):=by simp only [List.append_assoc,List.cons_append]
 have h1:(A++p).length=A.length+p.length:=List.length_append;rw [e1,List.take_left' h1,<-h1,<-List.drop_drop,List.drop_left' rfl];simp only [List.append_assoc,List.cons_append,List.nil_append,List.drop_succ_cons,List.drop_zero]
theorem G2 (hs:∀ a,(enc a).length=sz) {l:List α} {i k:Nat} (hi:i<l.length) {b:α} {p s:List β} {y x:β} (h1:enc l[i]=p++y::s) (h2:enc b=p++x::s) (hk:k=i*sz+p.length):
  ((l.map enc).flatten).take k++[x]++((l.map enc).flatten).drop (k+1)=((l.set i b).map enc).flatten:=by
 subst hk;have e:l=l.take i++l[i]::l.drop (i+1):=by rw [<-List.drop_eq_getElem_cons hi,List.take_append_drop]
 have hl:(((l.take i).map enc).flatten).length=i*sz:=by rw [pq hs,List.length_take,Nat.min_eq_left (Nat.le_of_lt hi)]
 have e2:(l.map enc).flatten=((l.take i).map enc).flatten++(enc l[i]++((l.drop (i+1)).map enc).flatten):=by
  conv=>lhs;rw [e,GC,DY]
 have e3:((l.set i b).map enc).flatten=((l.take i).map enc).flatten++(enc b++((l.drop (i+1)).map enc).flatten):=by
  rw [List.set_eq_take_append_cons_drop,if_pos hi,GC,DY]
 rw [e2,e3,h1,h2,<-hl];exact aiD
theorem Ki (hs:∀ a,(enc a).length=sz) {l:List α} {i j:Nat} (hi:i<l.length) {x:β} (hj:(enc l[i])[j]? =some x):((l.map enc).flatten)[i*sz+j]? =some x:=aiC (vA hs hi) hj
end
end Gw
namespace Go.Proofs.YtffboamedcmpaaaGreatDoor
open Gw
open Go.Am
theorem aiG (t:Int) (nil:Bool) (l:List fI) (hl:l.length<=1048576):bz Tryz.prog 230 [.ag nil 2 (l.map dz) .av, .aP 191 [] [.ar 1 0]] (aD [(.af 1, .au 3 [.aa .i64 t])]) 2 (cG 2 (λx es=>x= .cE (.aa .i64 (fR (λw=>decide (w.fJ=t)) l))/\es=[(.af 1, .au 3 [.aa .i64 t])])):=qK Tryz.func230 Tryz.func191 hl
theorem aiF (t:Int) (nil:Bool) (l:List fI) (hl:l.length<=1048576):bz Tryz.prog 190 [.ag nil 2 (l.map dz) .av, .aP 191 [] [.ar 1 0]] (aD [(.af 1, .au 3 [.aa .i64 t])]) 2 (cG 2 (λx es=>x= .cE (.aE (l.any (λw=>decide (w.fJ=t))))/\es=[(.af 1, .au 3 [.aa .i64 t])])):=GG Tryz.func190 (aiG t nil l hl)
theorem aiE (t:Int) (nil:Bool) (l:List fI) (hl:l.length<=1048576):bz Tryz.prog 230 [.ag nil 2 (l.map dz) .bR, .aP 276 [] [.ar 1 0]] (aD [(.af 1, .au 3 [.aa .i64 t])]) 2 (cG 2 (λx es=>x= .cE (.aa .i64 (fR (λw=>decide (w.fJ=t)) l))/\es=[(.af 1, .au 3 [.aa .i64 t])])):=qK Tryz.func230 Tryz.func276 hl
theorem Xu (t:Int) (full:Bool) (l pad:List fI) (hl:l.length<=1048576):bz Tryz.prog 230 [.aL 6 0 2 l.length full, .aP 276 [] [.ar 1 0]] (aD [(.af 6, .aR 331 (((l++pad).map dz).flatten)),(.af 1, .au 3 [.aa .i64 t])]) 8 (cG 8 (λx es=>x= .cE (.aa .i64 (fR (λw=>decide (w.fJ=t)) l))/\es=[(.af 6, .aR 331 (((l++pad).map dz).flatten)),(.af 1, .au 3 [.aa .i64 t])])):=zW Tryz.func230 Tryz.func276 hl
theorem OU {α:Type} {enc:α->List ae} {s:cj α} (h:s.bZ=true):s.ab.map enc=[]:=by rw [cj.wZ h];rfl
theorem Xv (g:l6) (th:Int) (hl:g.gi.ab.length<=1048576):aC Tryz.prog 120 [l9 g, .aa .i64 th] (.aE (rv g th)):=by
 have hi:=aiF th g.gi.bZ g.gi.ab hl;unfold rv;refine bK Tryz.func120 ?_;exact dC
def OV (m:Int) (x:fI):Int:=max m x.oA
theorem aiJ (g:l6) (hl:g.gi.ab.length<=1048576):aC Tryz.prog 189 [l9 g] (.aw [.aa .i64 (((DL g).map (·.1)).getD 0), .aa .i64 (((DL g).map (·.2)).getD 0), .aE (DL g).isSome]):=by
 obtain ⟨kept,⟨q,l⟩⟩:=g;cases l with
 |nil=>
  refine bK Tryz.func189 ?_
  conv=>whnf
  refine ⟨λ_=>?_,λh=>absurd (show false=true from h.symm) dd⟩;exact bm
 |cons a l=>
  have hel:((a::l).map dz).length=(a::l).length:=List.length_map _;dsimp only at hl;rw [show DL ⟨kept,⟨q,a::l⟩⟩=some (a.fJ,(a::l).foldl OV a.oA) from rfl];refine bK Tryz.func189 ?_
  conv=>whnf
  refine ⟨λh=>?_,λ_=>?_⟩
  ·have h:((((a::l).map dz).length:Int)==0)=true:=h;rw [hel] at h;exact absurd (eq_of_beq h) (by trivial)
  conv=>whnf
  refine ⟨_,⟨dd,rfl⟩,?_⟩
  conv=>whnf
  refine db.cK (X:=Nat) (λk=>[(.aj 5, .ah (.aa .i64 (((a::l).take k).foldl OV a.oA))),(.aj 18, .ah (cv 2 dz ⟨q,a::l⟩)),(.aj 19, .ah (.aa .i64 (a::l).length)),(.aj 20, .ah (.aa .i64 k)),(.af 0, .au 37 (BI ⟨kept,⟨q,a::l⟩⟩)),(.aj 1, .ah (.ar 0 0))]) 1
   (λk=>k<=(a::l).length) (λk=>(a::l).length - k) dd 0 (Nat.zero_le _) ⟨rfl,rfl,rfl,rfl,?_,rfl,rfl,rfl,rfl,rfl,rfl,rfl,trivial⟩ ?_
  ·show bs.ah (ae.aa .i64 (((a::l).map dz).length:Nat))=_;rw [hel]
  rintro k hk;refine cn ?_;refine ⟨λh=>?_,λh=>?_⟩
  ·have h:=of_decide_eq_true h;have hlt:k<(a::l).length:=om;have hg:=lN dz hlt;have htj:=List.take_succ_eq_append_getElem hlt;have w1:IntKind.i64.wrap ((k:Int)+1)=((k+1:Nat):Int):=by grind [bj]
   generalize hx:(a::l)[k]=b at*
   conv=>whnf
   refine ⟨_,⟨om,hg⟩,?_⟩
   conv=>whnf
   refine ⟨k+1,om,by grind,⟨?_,rfl,rfl,rfl,rfl,rfl,?_,rfl,rfl,rfl,rfl,rfl,trivial⟩⟩
   ·show bs.ah (ae.aa .i64 _)=bs.ah (ae.aa .i64 (((a::l).take (k+1)).foldl OV a.oA));rw [htj,List.foldl_append];rfl
   ·exact dh
  ·have h:=of_decide_eq_false h;obtain rfl:k=(a::l).length:=om;rw [List.take_length]
   conv=>whnf
   refine ⟨_,⟨dd,rfl⟩,?_⟩;exact bm
theorem aiH (q:Bool) (kept:Int) (l:List fI) (w:fI):l9 ⟨kept,cj.jg ⟨q,l⟩ w⟩= .aK [.aa .i64 kept, .ag false 2 (l.map dz++[dz w]) .av]:=by
 unfold l9 BI cv cj.jg cj.bZ;simp_all
theorem aiK (g:l6) (th upto:Int) (hl:g.gi.ab.length<=1048576) (h0:upto<=g.nH):aC Tryz.prog 238 [l9 g, .aa .i64 th, .aa .i64 upto] (.aw [l9 g, .aE true]):=by
 obtain ⟨kept,⟨q,l⟩⟩:=g;dsimp only at*;have hc:=aeO (cj.bZ ⟨q,l⟩) (l.map dz) (OU (s:=⟨q,l⟩)) (by simp_all);refine cU Tryz.func238 ?_;refine ak ?_;refine ⟨λ_=>?_,λh=>absurd h0 (of_decide_eq_false h)⟩;exact bm
theorem aiL (g:l6) (th upto:Int) (hl:g.gi.ab.length<=1000000) (h0:¬upto<=g.nH) (h1:rv g th=false):aC Tryz.prog 238 [l9 g, .aa .i64 th, .aa .i64 upto] (.aw [l9 ⟨g.nH,g.gi.jg ⟨th,upto⟩⟩, .aE false]):=by
 obtain ⟨kept,⟨q,l⟩⟩:=g;dsimp only at*;have hx:fR (λw:fI=>decide (w.fJ=th)) l=-1:=by
  grind [rv,ND]
 rw [aiH];cases l with
 |nil=>
  have hi:=aiE th q [] (Nat.zero_le _);rw [show l9 ⟨kept,⟨q,[]⟩⟩= .aK [.aa .i64 kept, .ag q 2 [] .av] from by unfold l9 BI;rw [D0]];refine cU Tryz.func238 ?_
  conv=>whnf
  refine bz.Iz (aeN q) rfl ?_
  conv=>whnf
  refine fu h0 ?_;refine eJ ?_;rw [hx];refine ak ?_;refine ⟨dG (Nat.le_of_ble_eq_true rfl) dd,?_⟩
  conv=>whnf
  cases q with
  |true=>exact iL.bw _
  |false=>exact iL.bw _
 |cons a l=>
  have hi:=Xu th true (a::l) [] om;have hp:=NO ((a::l).map dz) (Nat.succ_pos _) (by grind);rw [List.length_map] at hp;rw [hx,List.append_nil] at hi;rw [show l9 ⟨kept,⟨q,a::l⟩⟩= .aK [.aa .i64 kept, .ag false 2 ((a::l).map dz) .av] from by unfold l9 BI;rw [sQ]];refine cU Tryz.func238 ?_
  conv=>whnf
  refine bz.xP hp rfl ?_
  conv=>whnf
  refine fu h0 ?_;refine eJ ?_;refine ⟨(a::l).map dz,⟨List.length_map _,λel he=>?_,rfl,xa (λ_=>rfl) _,dG (by grind) dd⟩,?_⟩
  ·obtain ⟨x,_,rfl⟩:=List.mem_map.1 he;rfl
  exact bm
theorem Xw (th upto:Int):∀ (l:List fI) {i:Nat} (hi:i<l.length),(∀ a∈l.take i,decide (a.fJ=th)=false)->decide (l[i].fJ=th)=true->
  BD th upto l=l.set i ⟨l[i].fJ,max l[i].oA upto⟩
 |a::l,0,_,_,h=>by
  have h:=of_decide_eq_true h;exact if_pos h
 |a::l,i+1,hi,hno,h=>by
  have h1:=of_decide_eq_false (hno a (by simp));refine (if_neg h1).trans ?_;exact congrArg (a::·) (Xw th upto l (Nat.lt_of_succ_lt_succ hi) (λb hb=>hno b (by simp [hb])) h)
theorem aiI {σ:az} {l:List fI} {i:Nat} {b:fI} {m:List ae} (hS:m=((l.set i b).map dz).flatten) (h:σ (.af 6)= .aR 331 m):Am.km σ (.aL 6 0 2 l.length true) (.ag false 2 ((l.set i b).map dz) .av):=by
 subst hS;have h2:=D3 (enc:=dz) (sz:=2) (full:=true) (λ_=>rfl) (λ_=>rfl) h;simp_all
theorem aiM (g:l6) (th upto:Int) (hl:g.gi.ab.length<=1000000) (h0:¬upto<=g.nH) (h1:rv g th=true):aC Tryz.prog 238 [l9 g, .aa .i64 th, .aa .i64 upto] (.aw [l9 ⟨g.nH,⟨g.gi.dI,BD th upto g.gi.ab⟩⟩, .aE false]):=by
 obtain ⟨kept,⟨q,l⟩⟩:=g;unfold rv at h1;dsimp only at*;obtain ⟨a,l',rfl⟩:∃ a l',l=a::l':=by
  cases l with
  |nil=>cases h1
  |cons a l'=>simp_all
 have hi:=Xu th true (a::l') [] om;have hp:=NO ((a::l').map dz) (Nat.succ_pos _) (by grind);rw [List.length_map] at hp;rw [show l9 ⟨kept,⟨q,a::l'⟩⟩= .aK [.aa .i64 kept, .ag false 2 ((a::l').map dz) .av] from by unfold l9 BI;rw [sQ]];rcases BM (λw:fI=>decide (w.fJ=th)) (a::l') with ⟨h2,hno⟩|⟨i,hlt,h2,hno,hpi⟩
 ·rw [List.any_eq_true] at h1;obtain ⟨x,hx,hy⟩:=h1;rw [hno x hx] at hy;cases hy
 rw [h2] at hi;rw [Xw th upto (a::l') hlt hno hpi];refine cU Tryz.func238 ?_
 conv=>whnf
 refine bz.xP hp rfl ?_
 conv=>whnf
 refine fu h0 ?_
 conv=>whnf
 rw [List.append_nil] at hi;refine eJ ?_;have hL:=Ki (enc:=dz) (sz:=2) (λ_=>rfl) hlt (j:=1) rfl;have hR:=BK (enc:=dz) (sz:=2) (λ_=>rfl) hlt;have hS:=G2 (enc:=dz) (sz:=2) (λ_=>rfl) hlt (b:=⟨(a::l')[i].fJ,max (a::l')[i].oA upto⟩) (p:=[.aa .i64 (a::l')[i].fJ]) (s:=[]) rfl rfl (k:=i*2+1) rfl;generalize hx:(a::l')[i]=b at*;have o1:0+(i:Int).toNat*2=i*2:=om;refine ak ?_;rw [o1];refine ⟨_,hL,?_⟩;refine ak ?_;rw [o1];refine ak ?_;have he:l9 ⟨kept,⟨q,(a::l').set i ⟨b.fJ,max b.oA upto⟩⟩⟩= .aK [.aa .i64 kept, .ag false 2 (((a::l').set i ⟨b.fJ,max b.oA upto⟩).map dz) .av]:=by
  unfold l9 BI;cases i with
  |zero=>grind [sQ]
  |succ j=>grind [sQ]
 rw [he];exact yE.yF (.gM (yE.zV (.gM (.mh (v:= .aa .i64 kept) rfl) (.gM (aiI hS rfl) .mZ))) (.gM (.mh (v:= .bo) rfl) .mZ))
end Go.Proofs.YtffboamedcmpaaaGreatDoor
