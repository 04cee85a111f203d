import Derived.Test.YtffboamedcmpaaaGreatDoorAm
set_option linter.all false
set_option maxHeartbeats 4000000
set_option maxRecDepth 100000
namespace Go.Proofs.YtffboamedcmpaaaGreatDoor
open Gw
open Go.Am
open Go.Proofs.Tryz Tryz
theorem Yr (l:List nH):kT (l.map mw).flatten=true:=by
 induction l with
 |nil=>rfl
 |cons a l i=>exact i
theorem ajx (m:fX) (c:fG) (i:tF m):fF prog 83 [.c8 10 0] (eJ (rP m c)) 11
  (gP 11 (λr es=>r= .gO (.ax .i64 (tA (fO m c)).2)/\es=vf (tA (fO m c)).1)):=by
 have e:(m.iq.al.map mw).length=m.iq.al.length:=ap _;have b:tA (fO m c)=if 8<=m.iq.al.length then (fO m c,193) else ({fO m c with kg:={iL 0 with qd:=m.jg},e8:={m with iq:=m.iq.lR ⟨m.jg,m.cy.ec⟩,jg:=m.jg+1}},0):=rfl
 have d:=XQ m.cy.ec.gg (m.cy.ec.al.map mD) (λh=>by rw [gp.Af h];rfl) (by grind [Hp,i.rQ]);have x:=i.Ym;have k:IntKind.i64.wrap (m.jg+1)=m.jg+1:=fq om om;generalize tA (fO m c)=B at*
 by_cases g:8<=m.iq.al.length
 .refine fF.rh 10 ?_;rw [ak g] at b;subst b;refine fz func83 ?_
  conv=>whnf
  refine GC om ?_;exact kU
 .rw [ai g] at b;subst b;have t:¬(8:Int)<=((m.iq.al.map mw).length:Nat):=by rw [e];omega
  obtain ⟨l,j,p,⟨q,S⟩,w,next⟩:=m;cases S with
  |nil=>
   refine fF.rh 10 ?_;refine fF.MZ 10 4 53 ?_;refine fF.CR ?_;refine fz func83 ?_;refine gI ?_;refine ⟨0,_,_,_,rfl,(Gf.Ea d rfl).CM,rfl,?_⟩;refine cx ?_;refine ⟨0,_,_,_,rfl,qx.Bx (XR _) rfl,rfl,?_⟩
   conv=>whnf
   refine ⟨⟨rfl,by show 0<1;decide,ji (by simp_all) dd⟩,?_⟩;refine cx ?_;refine ⟨_,_,_,[mw ⟨next,l.ec⟩],_,_,rfl,rfl,rfl,rfl,λo e=>by rw [aw] at e;subst e;rfl,rfl,?_⟩;refine ⟨_,_,_,rfl,rfl,?_,_,_,⟨rfl,rfl⟩,rfl,⟨rfl,rfl⟩,⟨rfl,rfl,trivial⟩⟩
   repeat (first|exact qV.kv|refine qV.fj (mR.fC _) ?_|refine qV.fj (mR.kd _ _ _) ?_|fail "end")
   refine qV.fj (mR.qy (congrArg (b9.ax .i64) k)) ?_
   repeat (first|exact qV.kv|refine qV.fj (mR.fC _) ?_|refine qV.fj (mR.kd _ _ _) ?_|fail "end")
  |cons s r=>
   have f:rE prog 142 [.a8 (gp.gg ⟨q,s::r⟩) 2 ((s::r).map mw) .dm] 264 2 ((s::r).map mw).length ((s::r).map mw).flatten:=by
    grind [gp.gg,XS]
   refine fF.rh 10 ?_;refine fF.CR ?_;refine fz func83 ?_
   conv=>whnf
   refine kD t ?_
   conv=>whnf
   refine ⟨0,_,_,_,rfl,(Gf.Ea d rfl).CM,rfl,?_⟩;refine cx ?_;refine ⟨0,_,_,_,rfl,qx.xT f rfl,rfl,?_⟩
   conv=>whnf
   refine ⟨(s::r).map mw,⟨rfl,λo e=>by obtain ⟨z,_,rfl⟩:=aE.1 e;rfl,rfl,Yr _,ji (by grind) dd⟩,?_⟩;refine cx ?_;refine ⟨_,_,_,rfl,rfl,?_,_,_,⟨rfl,rfl⟩,rfl,⟨rfl,rfl⟩,⟨rfl,rfl,trivial⟩⟩
   repeat (first|exact qV.kv|refine qV.fj (mR.fC _) ?_|refine qV.fj (mR.kd _ _ _) ?_|fail "end")
   refine qV.fj (mR.qy (by show b9.a8 false 2 ((s::r).map mw++[mw ⟨next,l.ec⟩]) .dm=b9.a8 false 2 (((s::r)++[(⟨next,l.ec⟩:nH)]).map mw) .dm;simp_all)) ?_
   repeat (first|exact qV.kv|refine qV.fj (mR.fC _) ?_|refine qV.fj (mR.kd _ _ _) ?_|fail "end")
   exact qV.fj (mR.qy (congrArg (b9.ax .i64) k)) s9
theorem Yq {q:Bool} {sz:Nat} {els l:List (List b9)} (r:l.length=els.length) (h:∀ (i:Nat) (e a:List b9),els[i]? =some e->l[i]? =some a->qV e a):mR (.a8 q sz els .dm) (.a8 q sz l .dm):=⟨λw F v m=>by
 cases m with| @mG _ _ _ E c vals n z D y u B=>
 have t:∀ (i:Nat) (a:List b9),l[i]? =some a->∃ e,els[i]? =some e/\qV e a:=λi a b=>by
  grind
 have g:∀ (i:Nat) (a:List b9) (j:Nat) (f:b9),l[i]? =some a->a[j]? =some f->∃ e x,els[i]? =some e/\e[j]? =some x/\mR x f:=λi a j f b d=>by
  obtain ⟨e,k,s⟩:=t i a b;have p:j<e.length:=by grind [s.zY]
  exact ⟨e,e[j],k,aj p,s.Ge j _ _ (aj p) d⟩
 rw [<-r];refine .mG vals n (by rw [r];exact z) (λH o=>?_) (λi a j f b d=>?_) (λi a j f b d=>?_) (λi a j f b d=>?_)
 .obtain ⟨i,A,rfl⟩:=bC o;obtain ⟨e,k,s⟩:=t i _ (aj A);grind [s.zY]
 .obtain ⟨e,x,k,m,_⟩:=g i a j f b d;exact y i e j x k m
 .grind
 .obtain ⟨e,x,k,m,s⟩:=g i a j f b d;exact s.ue _ _ _ (B i e j x k m)⟩
theorem M5 (l:List k7):kT (l.map jH).flatten=true:=by
 induction l with
 |nil=>rfl
 |cons a l i=>exact i
def Rg (next id:Int):List b9:=[.ax .i64 next, .ax .i64 id, .a8 true 1 [] .dm, .eD false]
theorem ajy (next id:Int):qV (Rg next id) (jH ⟨next,id,⟨.g6,false⟩⟩):= .fj (.fC _) (.fj (.fC _) (.fj (.kd _ _ _) (.fj (.fC _) .kv)))
theorem Ys (l:List k7) (next id:Int):mR (.a8 false 4 (l.map jH++[Rg next id]) .dm) (.a8 false 4 ((l++[(⟨next,id,⟨.g6,false⟩⟩:k7)]).map jH) .dm):=by
 grind [Yq,qV.IS,ajy]
theorem ajz (m:fX) (c:fG) (u:tF m) (hp:c.fR.length<=1048576):fF prog 85 [.c8 10 0] (eJ (rP m c)) 11
  (gP 11 (λr es=>r= .gO (.ax .i64 (vc (fO m c)).2)/\es=vf (vc (fO m c)).1)):=by
 have l:(m.iG.al.map jH).length=m.iG.al.length:=ap _;have N:=ET u.rQ;have k:=Hp u.rQ;have t:=Hm m.cy.ec.gg m.cy.ec.al N k c.fR hp;have g:=Ho N c.fR;have i:=w7 _ g;have h:vc (fO m c)=if (kj m.cy.ec.al c.fR).2≠0 then (fO m c,(kj m.cy.ec.al c.fR).2) else if iy (kj m.cy.ec.al c.fR).1=false then (fO m c,81) else if 8<=m.iG.al.length then (fO m c,193)
  else ({fO m c with kg:={iL 0 with qd:=m.jg},e8:={m with iG:=m.iG.lR ⟨m.jg,(kj m.cy.ec.al c.fR).1,⟨.g6,false⟩⟩,jg:=m.jg+1}},0):=rfl
 have E:=u.Ym;have y:IntKind.i64.wrap (m.jg+1)=m.jg+1:=fq om om;generalize vc (fO m c)=B at*;generalize kj m.cy.ec.al c.fR=A at*;obtain ⟨b,e⟩:=A;dsimp only at*
 by_cases f:e=0
 .subst f;rw [ai (show ¬((0:Int)≠0) by decide)] at h;cases d:iy b with
  |false=>
   refine fF.rh 10 ?_;rw [ak d] at h;rw [d] at i;subst h;refine fz func85 ?_;refine cx ?_;exact kU
  |true=>
   rw [ai (by rw [d];decide)] at h;rw [d] at i
   by_cases w:8<=m.iG.al.length
   .refine fF.rh 10 ?_;rw [ak w] at h;subst h;refine fz func85 ?_;refine cx ?_;refine GC om ?_;exact kU
   .rw [ai w] at h;subst h;have o:¬(8:Int)<=((m.iG.al.map jH).length:Nat):=by rw [l];omega
    obtain ⟨F,x,p,v,⟨H,W⟩,next⟩:=m;cases W with
    |nil=>
     refine fF.rh 10 ?_;refine fF.MZ 10 5 65 ?_;refine fF.CR ?_;refine fz func85 ?_
     conv=>whnf
     refine ⟨0,_,_,_,rfl,(Gf.Ea t rfl).CM,rfl,?_⟩;refine gI ?_;refine ⟨0,_,_,_,rfl,qx.Bx (XT _) rfl,rfl,?_⟩
     conv=>whnf
     refine ⟨⟨rfl,by show 0<1;decide,ji (by simp_all) dd⟩,?_⟩;refine cx ?_;refine ⟨_,_,_,[Rg next b],_,_,rfl,rfl,rfl,rfl,λD l=>by rw [aw] at l;subst l;rfl,rfl,?_⟩;refine ⟨_,_,_,rfl,rfl,?_,_,_,⟨rfl,rfl⟩,rfl,⟨rfl,rfl⟩,⟨rfl,rfl,trivial⟩⟩
     repeat (first|exact qV.kv|refine qV.fj (mR.fC _) ?_|refine qV.fj (mR.kd _ _ _) ?_|fail "end")
     refine qV.fj (Ys [] next b) ?_;exact qV.fj (mR.qy (congrArg (b9.ax .i64) y)) s9
    |cons s r=>
     have j:rE prog 89 [.a8 (gp.gg ⟨H,s::r⟩) 4 ((s::r).map jH) .dm] 184 4 ((s::r).map jH).length ((s::r).map jH).flatten:=by
      grind [gp.gg,MX]
     refine fF.rh 10 ?_;refine fF.CR ?_;refine fz func85 ?_
     conv=>whnf
     refine ⟨0,_,_,_,rfl,(Gf.Ea t rfl).CM,rfl,?_⟩;refine cx ?_;refine kD o ?_
     conv=>whnf
     refine ⟨0,_,_,_,rfl,qx.xT j rfl,rfl,?_⟩
     conv=>whnf
     refine ⟨(s::r).map jH,⟨rfl,λD l=>by obtain ⟨z,_,rfl⟩:=aE.1 l;rfl,rfl,M5 _,ji (by grind) dd⟩,?_⟩;refine cx ?_;refine ⟨_,_,_,rfl,rfl,?_,_,_,⟨rfl,rfl⟩,rfl,⟨rfl,rfl⟩,⟨rfl,rfl,trivial⟩⟩
     repeat (first|exact qV.kv|refine qV.fj (mR.fC _) ?_|refine qV.fj (mR.kd _ _ _) ?_|fail "end")
     refine qV.fj (Ys (s::r) next b) ?_;exact qV.fj (mR.qy (congrArg (b9.ax .i64) y)) s9
 .refine fF.rh 10 ?_;rw [ak f] at h;subst h;refine fz func85 ?_;refine cx ?_;refine ⟨λ_=>?_,λq=>absurd (by simpa using q) f⟩;exact kU
def EU (f:k7->k7) (l:List k7) (k:Nat):List k7:=(l.take k).map f++l.drop k
theorem Hs {M cs:List b9} {o sz:Nat} (h:(M.drop o).take sz=cs) (i j:Nat) (a:i+j<=sz):(M.drop (o+i)).take j=(cs.drop i).take j:=by
 grind [List.drop_take,List.drop_drop]
theorem Yt {M cs:List b9} {o sz:Nat} (h:(M.drop o).take sz=cs) (i:Nat) (a:i<sz):M[o+i]? =cs[i]?:=by
 grind
theorem ajA (d:iY) (K:Bool) (b:List eF) (J:Hq b) (I:Hq d.e8.cy.ec.al) (S:d.e8.iG.al.length<=1000) (U:∀ w∈d.e8.iG.al,w.qe.sy.al.length<=1000)
  (D:∀ w∈d.e8.iG.al,(yS (jo b w.oP) (jo d.e8.cy.ec.al w.oP)).length<=100000):
  fF prog 41 [.c8 10 0, .a8 K 8 (ib b) .dm] (eJ (vf d)) 11 (gP 11 (λr es=>r= .gO (.dn [])/\es=vf (GW d b))):=by
 have g:(d.e8.iG.al.map jH).length=d.e8.iG.al.length:=ap _;have B:=λy=>ahy K d.e8.cy.ec.gg b d.e8.cy.ec.al y J.xc I.xc (av J.B3 dd) (av I.B3 dd) J.Hr I.Hr
 unfold GW;obtain ⟨⟨l,f,e,n,⟨v,W⟩,next⟩,a,c,u⟩:=d;dsimp only at*;cases W with
 |nil=>
  have hc:=aik (gp.gg ⟨v,([]:List k7)⟩) [] (λ_=>rfl) dd;refine fz func41 ?_;refine cx ?_;refine iE.gY (X:=Unit) (λ_=>[(.ay 10, .dc 117 (QO ⟨⟨l,f,e,n,⟨v,[]⟩,next⟩,a,c,u⟩)),(.ct 21, .bg (.ax .i64 0)),(.ct 22, .bg (.ax .i64 0))]) 11 (λ_=>True) (λ_=>0) dd () trivial ⟨rfl,rfl,rfl,rfl,rfl,rfl,trivial⟩ ?_;rintro ⟨⟩ _;refine gk ?_;refine cx ?_;exact ⟨_,_,⟨rfl,rfl⟩,rfl,⟨rfl,rfl⟩,⟨rfl,rfl,trivial⟩⟩
 |cons s r=>
  have j:rE prog 89 [.a8 (gp.gg ⟨v,s::r⟩) 4 ((s::r).map jH) .dm] 184 4 ((s::r).map jH).length ((s::r).map jH).flatten:=by
   grind [gp.gg,MX]
  refine fF.rh 10 ?_;refine fF.MZ 10 5 17 ?_;refine fz func41 ?_
  conv=>whnf
  refine fF.Bv j rfl ?_
  conv=>whnf
  have hW:(s::r).length<=1000:=S;generalize A:s::r=W at*;clear j;refine iE.gY (λk:Nat=>[(.ct 0, .bg (.c8 10 0)),(.ct 1, .bg (.a8 K 8 (ib b) .dm)),(.ay 10, .dc 117 ((QO ⟨⟨l,f,e,n,⟨v,W⟩,next⟩,a,c,u⟩).set 5 (.eP 17 0 4 (W.map jH).length true))),
   (.ay 17, .eY 184 (((EU (rK b l.ec.al) W k).map jH).flatten)),(.ct 21, .bg (.ax .i64 W.length)),(.ct 22, .bg (.ax .i64 k))]) 18
   (λk=>k<=W.length) (λk=>W.length - k) dd 0 (ar _) ⟨rfl,rfl,rfl,rfl,rfl,rfl,rfl,rfl,?_,af⟩ ?_
  .show gC.bg (b9.ax .i64 ((W.map jH).length:Nat))=_;rw [g]
  intro k hk;refine gk ?_;refine ab (λh=>?_) λh=>?_
  .have o:k<W.length:=om;have Z:IntKind.i64.wrap ((k:Int)+1)=((k+1:Nat):Int):=by grind [fq]
   have Y:0+(k:Int).toNat*4=k*4:=om;have Q:=aY o;have q:W[k]∈W:=aI o;have T:EU (rK b l.ec.al) W k=(W.take k).map (rK b l.ec.al)++W[k]::W.drop (k+1):=by grind [EU]
   have i:EU (rK b l.ec.al) W (k+1)=(W.take k).map (rK b l.ec.al)++rK b l.ec.al W[k]::W.drop (k+1):=by
    grind [EU]
   rw [T];generalize hx:W[k]=x at*;have H:((W.take k).map (rK b l.ec.al)).length=k:=by simp_all
   have p:=ajj x.qe (decide (yS (jo b x.oP) (jo l.ec.al x.oP)=[])) (yS (jo b x.oP) (jo l.ec.al x.oP)) (av (U x q) dd) (D x q);have t:=Hf (enc:=jH) (sz:=4) (λ_=>rfl) ((W.take k).map (rK b l.ec.al)) (W.drop (k+1)) x (rK b l.ec.al x);have m:k<((W.take k).map (rK b l.ec.al)++x::W.drop (k+1)).length:=by simp_all
   have E:((W.take k).map (rK b l.ec.al)++x::W.drop (k+1))[k]=x:=by
    simp_all
   have L:=za (enc:=jH) (sz:=4) (λ_=>rfl) m;have hR:=EN (enc:=jH) (sz:=4) (λ_=>rfl) m;rw [E] at L;rw [H] at t;generalize (((W.take k).map (rK b l.ec.al)++x::W.drop (k+1)).map jH).flatten=M at*;have hQ:=Hs L 2 2 dd;have N:=Hs L 0 2 dd;have O:=Yt L 1 dd;rw [cI] at N;have t:M.take (k*4+2)++Hb (GS x.qe (yS (jo b x.oP) (jo l.ec.al x.oP)))++M.drop (k*4+2+2)=(((W.take k).map (rK b l.ec.al)++rK b l.ec.al x::W.drop (k+1)).map jH).flatten:=by
    rw [List.take_add,N,<-t];simp only [aA];rfl
   have R:(W.map jH).length=W.length:=ap _
   conv=>whnf
   refine ⟨⟨om,om⟩,?_⟩
   conv=>whnf
   rw [Y];refine cx ?_;refine ⟨_,O,?_⟩
   conv=>whnf
   refine ⟨_,rfl,B x.oP,?_⟩
   conv=>whnf
   refine ⟨_,rfl,p,?_⟩
   conv=>whnf
   refine ⟨om,?_⟩
   conv=>whnf
   refine ⟨eI,?_⟩
   conv=>whnf
   refine ⟨k+1,om,by grind,rfl,rfl,rfl,rfl,rfl,rfl,?_,rfl,rfl,rfl,?_,rfl,ae⟩
   .rw [i];exact congrArg (gC.eY _) t
   .exact congrArg (λx=>gC.bg (b9.ax .i64 x)) Z
  .have F:k=W.length:=om;subst F;have P:EU (rK b l.ec.al) W W.length=W.map (rK b l.ec.al):=by grind [EU]
   rw [P]
   conv=>whnf
   refine ⟨_,_,_,(W.map (rK b l.ec.al)).map jH,4,_,rfl,rfl,rfl,by simp_all,λel g=>by obtain ⟨z,_,rfl⟩:=aE.1 g;rfl,M5 _,?_⟩;refine ⟨_,_,_,rfl,rfl,?_,_,_,⟨rfl,rfl⟩,rfl,⟨rfl,rfl⟩,⟨rfl,rfl,trivial⟩⟩
   repeat (first|exact qV.kv|refine qV.fj (mR.fC _) ?_|refine qV.fj (mR.kd _ _ _) ?_|fail "end")
   refine qV.fj (mR.qy (by rw [<-A];exact (xb 4 jH v _ _).symm)) ?_
   repeat (first|exact qV.kv|refine qV.fj (mR.fC _) ?_|refine SubL.cons (SubV.nil _ _ _) ?_|fail "end")
end Go.Proofs.YtffboamedcmpaaaGreatDoor
namespace Go.Am
section
variable {P:Program} {σ:eK} {n:Nat}
theorem iE.Rh {r:Option Nat} {nt T:Nat} {c:Code} {K:Exit->eK->Nat->Prop} (k j id:Nat) (els:List (List b9)) {bt mt:TypeId} {cells cells':List b9} {sz len:Nat} {U:List b9} (v:σ (.ay k)= .dc bt cells) (L:cells[j]? =some (.eP id 0 sz len true)) (N:σ (.ay id)= .eY mt U) (J:U=els.flatten) (q4:els.length=len)
  (q5:∀ Y∈els,Y.length=sz) (q6:kT els.flatten=true) (hc:cells.set j (.a8 false sz els .dm)=cells') (h:iE P r nt T c (fc (fc σ (.ay id) .fB) (.ay k) (.dc bt cells')) (n+1) K):iE P r nt T c σ n K:=by
 subst hc J;refine ⟨λb t a w hl s=>h.nM b t a w hl ?_⟩;obtain ⟨g,E,D,hE,hn⟩:=s;obtain ⟨O,m,_⟩:=E.iR k (by rw [v];rfl);obtain ⟨d,z,A,f⟩:=E.sc k bt _ O v m;have H:j<cells.length:=(aB.1 L).1;have F:d[j]? =some d[j]:=aj om;obtain ⟨Z,R,x,h3,h4⟩:=E.X4 id els N q4 q5 q6 (f j _ _ L F);have I:k≠id:=λe=>by subst e;rw [v] at N;cases N
 have q:(fc σ (.ay id) .fB) (.ay k)= .dc bt cells:=by rw [g9 (by intro e;cases e;exact I rfl)];exact v
 obtain ⟨Q,l,_⟩:=R.iR k (by rw [q];rfl);have B:Q=O:=by rw [h3,m] at l;cases l;rfl
 subst B;refine ⟨Z,?_,⟨D.qU,D.sg,λi hi=>?_⟩,hE.lF x,om⟩
 .refine (R.ot (X:= .dc bt (cells.set j (.a8 false sz els .dm))) (by rw [q];rfl) l (oH.By Q w) (λ_=>⟨d,z,by rw [cF];exact A,λi y u p S=>?_⟩)).1
  by_cases o:i=j
  .subst o;rw [di H] at p;cases p;exact h4 u (f i _ u L S)
  .rw [List.getElem?_set_ne (λe=>o e.symm)] at p;exact (f i y u p S).oU x
 .have W:jx (fc (fc σ (.ay id) .fB) (.ay k) (.dc bt (cells.set j (.a8 false sz els .dm)))) i=jx σ i:=by
   unfold jx;rw [g9 (by intro e;cases e),g9 (by intro e;cases e)]
  rw [W];exact (D.oW i hi).oU x
end
end Go.Am
namespace Go.Proofs.YtffboamedcmpaaaGreatDoor
open Gw
open Go.Am
open Go.Proofs.Tryz Tryz
def mN (m:fX) (c:fG) (s:gp nH) (w:gp k7):List b9:=[gE 17 jB m.cy.fZ,gE 8 mD m.cy.ec, .ax .i64 m.jk, .ax .i64 m.ky,gE 2 mw s,gE 4 jH w, .ax .i64 m.jg,
 .ax .i64 0, .cp [],sG, .ax .i64 0,sG, .ax .i64 c.gD, .cp c.fR, .cp c.kE, .cp c.lS, .ax .i64 c.g7,sG]
theorem ajG (m:fX) (c:fG) (v:gp nH) (w:gp k7) (i:Bool) (l:List nH) (h:l.length<=1048576):fF prog 211 [.a8 i 2 (l.map mw) .dm, .eW 143 [] [.c8 11 0]] (eJ [(.ay 10, .dc 117 (mN m c v w)),(.ay 11, .dc 115 [.c8 10 0])]) 12 (gP 12 (λx es=>x= .gO (.ax .i64 (k9 (λs=>decide (s.lZ=c.g7)) l))/\es=[(.ay 10, .dc 117 (mN m c v w)),(.ay 11, .dc 115 [.c8 10 0])])):=vd func211 func143 h
theorem ajF (m:fX) (c:fG) (v:gp nH) (w:gp k7) (i:Bool) (l:List nH) (h:l.length<=1048576):fF prog 145 [.a8 i 2 (l.map mw) .dm, .eW 143 [] [.c8 11 0]] (eJ [(.ay 10, .dc 117 (mN m c v w)),(.ay 11, .dc 115 [.c8 10 0])]) 12 (gP 12 (λx es=>x= .gO (.eD (l.any (λs=>decide (s.lZ=c.g7))))/\es=[(.ay 10, .dc 117 (mN m c v w)),(.ay 11, .dc 115 [.c8 10 0])])):=JU func145 (ajG m c v w i l h)
theorem ajE (m:fX) (c:fG) (v:gp nH) (w:gp k7) (i:Bool) (l:List nH) (h:l.length<=1048576):fF prog 211 [.a8 i 2 (l.map mw) .fW, .eW 143 [] [.c8 11 0]] (eJ [(.ay 10, .dc 117 (mN m c v w)),(.ay 11, .dc 115 [.c8 10 0])]) 12 (gP 12 (λx es=>x= .gO (.ax .i64 (k9 (λs=>decide (s.lZ=c.g7)) l))/\es=[(.ay 10, .dc 117 (mN m c v w)),(.ay 11, .dc 115 [.c8 10 0])])):=vd func211 func143 h
theorem ajK (m:fX) (c:fG) (v:gp nH) (w:gp k7) (i:Bool) (l:List k7) (h:l.length<=1048576):fF prog 149 [.a8 i 4 (l.map jH) .dm, .eW 144 [] [.c8 11 0]] (eJ [(.ay 10, .dc 117 (mN m c v w)),(.ay 11, .dc 115 [.c8 10 0])]) 12 (gP 12 (λx es=>x= .gO (.ax .i64 (k9 (λs=>decide (s.l0=c.g7)) l))/\es=[(.ay 10, .dc 117 (mN m c v w)),(.ay 11, .dc 115 [.c8 10 0])])):=vd func149 func144 h
theorem ajJ (m:fX) (c:fG) (v:gp nH) (w:gp k7) (i:Bool) (l:List k7) (h:l.length<=1048576):fF prog 146 [.a8 i 4 (l.map jH) .dm, .eW 144 [] [.c8 11 0]] (eJ [(.ay 10, .dc 117 (mN m c v w)),(.ay 11, .dc 115 [.c8 10 0])]) 12 (gP 12 (λx es=>x= .gO (.eD (l.any (λs=>decide (s.l0=c.g7))))/\es=[(.ay 10, .dc 117 (mN m c v w)),(.ay 11, .dc 115 [.c8 10 0])])):=JU func146 (ajK m c v w i l h)
theorem ajI (m:fX) (c:fG) (v:gp nH) (w:gp k7) (i:Bool) (l:List k7) (h:l.length<=1048576):fF prog 149 [.a8 i 4 (l.map jH) .fW, .eW 144 [] [.c8 11 0]] (eJ [(.ay 10, .dc 117 (mN m c v w)),(.ay 11, .dc 115 [.c8 10 0])]) 12 (gP 12 (λx es=>x= .gO (.ax .i64 (k9 (λs=>decide (s.l0=c.g7)) l))/\es=[(.ay 10, .dc 117 (mN m c v w)),(.ay 11, .dc 115 [.c8 10 0])])):=vd func149 func144 h
theorem ajN (m:fX) (c:fG) (v:gp nH) (w:gp k7) (i:Bool) (l:List k7) (h:l.length<=1048576):fF prog 149 [.a8 i 4 (l.map jH) .dm, .eW 150 [] [.c8 11 0]] (eJ [(.ay 10, .dc 117 (mN m c v w)),(.ay 11, .dc 115 [.c8 10 0])]) 12 (gP 12 (λx es=>x= .gO (.ax .i64 (k9 (λs=>decide (s.l0=c.g7)) l))/\es=[(.ay 10, .dc 117 (mN m c v w)),(.ay 11, .dc 115 [.c8 10 0])])):=vd func149 func150 h
theorem ajC (m:fX) (c:fG) (v:gp nH) (w:gp k7) (full:Bool) (l pad:List nH) (h:l.length<=1048576):fF prog 211 [.eP 18 0 2 l.length full, .eW 143 [] [.c8 11 0]] (eJ [(.ay 18, .eY 264 (((l++pad).map mw).flatten)),(.ay 10, .dc 117 (mN m c v w)),(.ay 11, .dc 115 [.c8 10 0])]) 19 (gP 19 (λx es=>x= .gO (.ax .i64 (k9 (λs=>decide (s.lZ=c.g7)) l))/\es=[(.ay 18, .eY 264 (((l++pad).map mw).flatten)),(.ay 10, .dc 117 (mN m c v w)),(.ay 11, .dc 115 [.c8 10 0])])):=Dc func211 func143 h
theorem ajB (m:fX) (c:fG) (v:gp nH) (w:gp k7) (full:Bool) (l:List nH) (b:l.length<=1048576):fF prog 147 [.eP 18 0 2 l.length full, .eW 143 [] [.c8 11 0]] (eJ [(.ay 18, .eY 264 (((l).map mw).flatten)),(.ay 10, .dc 117 (mN m c v w)),(.ay 11, .dc 115 [.c8 10 0])]) 19 (gP 19 (λx es=>x= .gO (.eP 18 0 2 (l.filter λa=>!(λs=>decide (s.lZ=c.g7)) a).length full)/\es=[(.ay 18, .eY 264 (((l.filter λa=>!(λs=>decide (s.lZ=c.g7)) a).map mw).flatten)),(.ay 10, .dc 117 (mN m c v w)),(.ay 11, .dc 115 [.c8 10 0])])):=by
 have h:=ajC m c v w full l [] b;rw [aH] at h;exact JV func147 func143 b h
theorem ajM (m:fX) (c:fG) (v:gp nH) (w:gp k7) (full:Bool) (l pad:List k7) (h:l.length<=1048576):fF prog 149 [.eP 18 0 4 l.length full, .eW 144 [] [.c8 11 0]] (eJ [(.ay 18, .eY 184 (((l++pad).map jH).flatten)),(.ay 10, .dc 117 (mN m c v w)),(.ay 11, .dc 115 [.c8 10 0])]) 19 (gP 19 (λx es=>x= .gO (.ax .i64 (k9 (λs=>decide (s.l0=c.g7)) l))/\es=[(.ay 18, .eY 184 (((l++pad).map jH).flatten)),(.ay 10, .dc 117 (mN m c v w)),(.ay 11, .dc 115 [.c8 10 0])])):=Dc func149 func144 h
theorem ajL (m:fX) (c:fG) (v:gp nH) (w:gp k7) (full:Bool) (l:List k7) (b:l.length<=1048576):fF prog 148 [.eP 18 0 4 l.length full, .eW 144 [] [.c8 11 0]] (eJ [(.ay 18, .eY 184 (((l).map jH).flatten)),(.ay 10, .dc 117 (mN m c v w)),(.ay 11, .dc 115 [.c8 10 0])]) 19 (gP 19 (λx es=>x= .gO (.eP 18 0 4 (l.filter λa=>!(λs=>decide (s.l0=c.g7)) a).length full)/\es=[(.ay 18, .eY 184 (((l.filter λa=>!(λs=>decide (s.l0=c.g7)) a).map jH).flatten)),(.ay 10, .dc 117 (mN m c v w)),(.ay 11, .dc 115 [.c8 10 0])])):=by
 have h:=ajM m c v w full l [] b;rw [aH] at h;exact JV func148 func144 b h
theorem ajD (m:fX) (c:fG) (v:gp nH) (w:gp k7) (q:Bool):fF prog 147 [.a8 q 2 [] .fW, .eW 143 [] [.c8 11 0]] (eJ [(.ay 10, .dc 117 (mN m c v w)),(.ay 11, .dc 115 [.c8 10 0])]) 12 (gP 12 (λx es=>x= .gO (.a8 q 2 [] .fW)/\es=[(.ay 10, .dc 117 (mN m c v w)),(.ay 11, .dc 115 [.c8 10 0])])):=by
 have h:=ajE m c v w q [] (ar _);refine fz func147 ?_;refine qD ?_;rw [show k9 (λs:nH=>decide (s.lZ=c.g7)) []=-1 from rfl];refine gI ?_;exact ⟨_,_,⟨rfl,rfl⟩,rfl,⟨rfl,rfl⟩,af⟩
theorem ajH (m:fX) (c:fG) (v:gp nH) (w:gp k7) (q:Bool):fF prog 148 [.a8 q 4 [] .fW, .eW 144 [] [.c8 11 0]] (eJ [(.ay 10, .dc 117 (mN m c v w)),(.ay 11, .dc 115 [.c8 10 0])]) 12 (gP 12 (λx es=>x= .gO (.a8 q 4 [] .fW)/\es=[(.ay 10, .dc 117 (mN m c v w)),(.ay 11, .dc 115 [.c8 10 0])])):=by
 have h:=ajI m c v w q [] (ar _);refine fz func148 ?_;refine qD ?_;rw [show k9 (λs:k7=>decide (s.l0=c.g7)) []=-1 from rfl];refine gI ?_;exact ⟨_,_,⟨rfl,rfl⟩,rfl,⟨rfl,rfl⟩,af⟩
end Go.Proofs.YtffboamedcmpaaaGreatDoor
namespace Go.Am
section
variable {P:Program} {σ:eK}
theorem fF.ajO {f:FuncId} {args:List b9} {n:Nat} {K:b9->eK->Nat->Prop} (h:fF P f args σ n (λv σ' c=>K v (fc σ' (.eT 0) (.bg .ga)) c)):fF P f args σ n K:=
 ⟨h.wL,λb g w a s o p=>(h.vC b g w a s o p).mono λ_ _ ⟨v,x,_,c,m,e,d,i,j,k,l⟩=>⟨v,x,_,c,m,e,d,i,j,k.Mc,l⟩⟩
end
end Go.Am
namespace Gw
theorem Yu {n:Int}:∀ {l:List k7} {i:Nat} (a:i<l.length),(∀ w∈l.take i,decide (w.l0=n)=false)->decide (l[i].l0=n)=true->yT n l=l.take i++⟨l[i].l0,l[i].oP,(wY l[i].qe).1⟩::l.drop (i+1)
 |w::l,0,_,_,h=>by
  have h:w.l0=n:=ah h;grind [yT]
 |w::l,i+1,a,o,h=>by
  have b:¬w.l0=n:=ag (o w (by simp));unfold yT;rw [ai b,Yu (l:=l) (i:=i) (by simpa using a) (λx c=>o x (by simp_all)) h];rfl
end Gw
namespace Go.Proofs.YtffboamedcmpaaaGreatDoor
open Gw
open Go.Am
open Go.Proofs.Tryz Tryz
theorem ajP (m:fX) (c:fG) (A:tF m):fF prog 86 [.c8 10 0] (eJ (rP m c)) 11
  (gP 11 (λr es=>r= .gO (.ax .i64 (vb (fO m c)).2)/\es=vf (vb (fO m c)).1)):=by
 have l:(m.iG.al.map jH).length=m.iG.al.length:=ap _;have b:vb (fO m c)=match m.iG.al.find? λw=>decide (w.l0=c.g7) with
  |none=>(fO m c,191)
  |some w=>({fO m c with kg:={iL 0 with qH:=(wY w.qe).2},e8:={m with iG:=⟨m.iG.ie,yT c.g7 m.iG.al⟩}},0):=rfl
 have d:=ajN m c m.iq m.iG m.iG.gg m.iG.al (av A.J3 dd);generalize vb (fO m c)=B at*;rcases EP (λs:k7=>decide (s.l0=c.g7)) m.iG.al with ⟨u,o⟩|⟨i,h,u,o,j⟩
 .rw [JT o] at b;rw [u] at d;dsimp only at b;subst b;refine fF.rh 10 ?_;refine fz func86 ?_;refine j5 ?_;exact kU
 .rw [JS h o j] at b;rw [u] at d;have D:=Yu h o j;dsimp only at b;rw [D] at b;have O:=A.Yn m.iG.al[i] (aI h);obtain ⟨E,k,p,n,⟨q,W⟩,next⟩:=m;dsimp only at*;have h:i<W.length:=h;have K:0<W.length:=om;have I:(W.map jH).length=W.length:=ap _;have v:rE prog 89 [.a8 (gp.gg ⟨q,W⟩) 4 (W.map jH) .dm] 184 4 (W.map jH).length (W.map jH).flatten:=by
   grind [gp.gg,MX,A.J3]
  have Q:0+(i:Int).toNat*4=i*4:=om;have L:=za (enc:=jH) (sz:=4) (λ_=>rfl) h;have U:=EN (enc:=jH) (sz:=4) (λ_=>rfl) h;have e:=Hf (enc:=jH) (sz:=4) (λ_=>rfl) (W.take i) (W.drop (i+1)) W[i] ⟨W[i].l0,W[i].oP,(wY W[i].qe).1⟩;rw [<-aY h,bJ,aT,cj (cU h)] at e;have g:=M5 (W.take i++⟨W[i].l0,W[i].oP,(wY W[i].qe).1⟩::W.drop (i+1));have J:(W.take i++⟨W[i].l0,W[i].oP,(wY W[i].qe).1⟩::W.drop (i+1)).length=W.length:=by grind
  have y:gp.gg ⟨q,W.take i++⟨W[i].l0,W[i].oP,(wY W[i].qe).1⟩::W.drop (i+1)⟩=false:=by
   grind [gp.gg]
  generalize W.take i++⟨W[i].l0,W[i].oP,(wY W[i].qe).1⟩::W.drop (i+1)=F at*;have t:=ajk W[i].qe (av O dd);rw [<-ap (f:=kL)] at t;generalize W[i]=x at*;generalize S:(W.map jH).flatten=M at*;have T:=Hs L 2 2 dd;have H:=Yt L 2 dd;have N:=Hs L 0 2 dd;rw [cI] at N;have e:M.take (i*4+2)++Hb (wY x.qe).1++M.drop (i*4+2+2)=(F.map jH).flatten:=by
   rw [List.take_add,N,<-e];simp only [aA];rfl
  subst b;refine fF.rh 10 ?_;refine fF.MZ 10 5 28 ?_;refine fz func86 ?_
  conv=>whnf
  refine fF.ajO ?_;refine fF.L8 (es:=[(.ay 10, .dc 117 (mN ⟨E,k,p,n,⟨q,W⟩,next⟩ c n ⟨q,W⟩)),(.ay 11, .dc 115 [.c8 10 0])]) ⟨rfl,rfl,rfl,rfl,trivial⟩ rfl dd rfl rfl d ?_
  conv=>whnf
  refine kD om ?_
  conv=>whnf
  refine ⟨0,_,_,_,rfl,qx.xT v rfl,rfl,?_⟩
  conv=>whnf
  refine ⟨eI,?_⟩
  conv=>whnf
  refine ⟨⟨om,om⟩,?_⟩
  conv=>whnf
  rw [Q];refine cx ?_;refine ⟨_,H,?_⟩
  conv=>whnf
  refine ⟨0,_,_,_,rfl,(Gf.Ea t rfl).CM,rfl,?_⟩
  conv=>whnf
  refine ⟨om,?_⟩
  conv=>whnf
  refine ⟨eI,?_⟩
  conv=>whnf
  refine ⟨_,_,_,F.map jH,4,_,rfl,rfl,congrArg (gC.eY _) e,by simp_all,λR l=>by obtain ⟨z,_,rfl⟩:=aE.1 l;rfl,g,?_⟩;refine ⟨_,_,_,rfl,rfl,?_,_,_,⟨rfl,rfl⟩,rfl,⟨rfl,rfl⟩,⟨rfl,rfl,trivial⟩⟩
  repeat (first|exact qV.kv|refine qV.fj (mR.fC _) ?_|refine qV.fj (mR.kd _ _ _) ?_|fail "end")
  refine qV.fj (mR.qy (by unfold gE;rw [y];rfl)) ?_
  repeat (first|exact qV.kv|refine qV.fj (mR.fC _) ?_|refine qV.fj (mR.kd _ _ _) ?_|fail "end")
theorem ajR (o:e7) (n:Bool) (l:List e7) (h:l.length<=1048576):fF prog 214 [.a8 n 7 (l.map gV) (.je 34), .eW 153 [] [.c8 38 0]] (eJ [(.ay 38, .dc 130 (gV o)),(.eT 34, .eU 130 7 l.length)]) 39 (gP 39 (λx es=>x= .gO (.ax .i64 (k9 (λf=>C6 f.fa o.fa) l))/\es=[(.ay 38, .dc 130 (gV o)),(.eT 34, .eU 130 7 l.length)])):=vd func214 func153 h
theorem ajQ (o:e7) (n:Bool) (l:List e7) (h:l.length<=1048576):fF prog 155 [.a8 n 7 (l.map gV) (.je 34), .eW 153 [] [.c8 38 0]] (eJ [(.ay 38, .dc 130 (gV o)),(.eT 34, .eU 130 7 l.length)]) 39 (gP 39 (λx es=>x= .gO (.eD (l.any (λf=>C6 f.fa o.fa)))/\es=[(.ay 38, .dc 130 (gV o)),(.eT 34, .eU 130 7 l.length)])):=JU func155 (ajR o n l h)
end Go.Proofs.YtffboamedcmpaaaGreatDoor
namespace Gw
theorem Rk {o} (h:g4 o=true):(o.iT=1/\wV o=true)\/(o.iT=2/\Ai o=true):=by
 grind [g4]
theorem Rl {o} (h:g4 o=true):(o.iT=1/\o.n9=[])\/(o.iT=2/\o.mI=[]/\o.iW=0/\o.n9.length<=64):=by
 grind [Rk,wV,Ai]
theorem Ri {o} (h:o.iT=1):jD o=gh o.fa.iH.toNat++(gh o.fa.jw.toNat++(gh 1++(gh o.eO.toNat++(gh o.iW.toNat++(gh o.mI.length++o.mI))))):=by
 grind [jD,GI,mU,nF]
theorem Rj {o} (h:o.iT=2):jD o=gh o.fa.iH.toNat++(gh o.fa.jw.toNat++(gh 2++(gh o.eO.toNat++(gh o.n9.length++o.n9)))):=by
 unfold jD GI mU nF;simp_all
theorem YF (s):∀ f p a l,s.length<p+f->td s f p a=some l->s.length+4*a.length<=4*l.length+p
 |0,p,a,l,b,h=>by grind [td]
 |f+1,p,a,l,b,h=>by
  rw [td] at h;have c:=Mi s p;have d:=P2 s p;split at h
  .split at h
   .have:=YF s f _ _ _ om h;grind
   .cases h
  grind
theorem ajU {s} (h:ta s=true):s.length<=80:=by
 unfold ta at h;cases a:qE s with
 |none=>simp_all
 |some l=>
  rw [a] at h;simp only at h;have b:=YF s _ _ _ _ om a;grind [GD]
theorem Rn {o} (h:g4 o=true):o.mI.length<=80/\o.n9.length<=64:=by
 rcases Rk h with ⟨k,a⟩|⟨k,a⟩
 .grind [wV,ajU]
 grind [Ai]
theorem AG {l m u} (h:lI l=some (m,u)):l=gh m++l.drop u:=by
 rw [agD l m u h,bJ]
theorem YB {m e r o} (h:rb m e=some (o,r)):∃ t,m t=o/\g4 o=true/\e=gh t.length++(t++r):=by
 unfold rb Go.Proofs.YtffboamedcmpaaaGreatDoor.uw at h;cases a:lI e with
 |none=>simp_all
 |some p=>
  obtain ⟨n,u⟩:=p;simp only [a] at h
  by_cases l:n+u<=e.length
  .rw [ak l] at h;simp only at h;unfold x8 at h;split at h
   .grind [List.drop_drop,List.take_append_drop,AG]
   .cases h
  simp_all
theorem M6 {l r o} (h:pb l=some (o,r)):g4 o=true/\l=jD o++r:=by
 unfold pb at h;cases a:lI l with
 |none=>simp_all
 |some x=>
 obtain ⟨c,u⟩:=x;simp only [a] at h;unfold At at h;cases b:lI (l.drop u) with
 |none=>simp_all
 |some y=>
 obtain ⟨E,i⟩:=y;simp only [b] at h;unfold Au at h;cases d:lI ((l.drop u).drop i) with
 |none=>simp_all
 |some z=>
 obtain ⟨k,s⟩:=z;simp only [d] at h;unfold Av at h;cases f:lI (((l.drop u).drop i).drop s) with
 |none=>simp_all
 |some A=>
 obtain ⟨n,D⟩:=A;simp only [f] at h;unfold yU at h;have F:=AG a;have H:=AG b;have I:=AG d;have J:=AG f
 by_cases q:k=1
 .rw [ak q] at h;unfold x9 at h;cases w:lI ((((l.drop u).drop i).drop s).drop D) with
  |none=>grind
  |some B=>
  obtain ⟨p,K⟩:=B;simp only [w] at h;unfold BO at h;grind [YB,AG,Ri,Int.toNat_natCast]
 .rw [ai q] at h;obtain ⟨t,j,m,v⟩:=YB h;refine ⟨m,?_⟩;have g:k=2:=by
   rcases Rk m with ⟨e,_⟩|⟨e,_⟩<;>rw [<-j] at e<;>simp only at e<;>omega
  rw [AG a,AG b,AG d,AG f,v,<-j,Rj (by simp only;omega),g];simp only [aA,aC]
theorem ajV (n):gh n≠[]:=by unfold gh;simp
theorem Yv (o):jD o≠[]:=by
 have h:=ajV o.fa.iH.toNat;intro e;unfold jD GI mU nF at e;split at e<;>simp [h] at e
theorem YD:∀ f b a l,b.length<f->qJ f b a=some l->∃ m,l=a++m/\m.all g4=true/\b=m.flatMap jD
 |f+1,b,a,l,k,h=>by
  rw [qJ] at h
  by_cases c:b=[]
  .simp_all
  .rw [ai c] at h;cases t:pb b with
   |none=>simp_all
   |some p=>
    obtain ⟨o,r⟩:=p;rw [t] at h;simp only at h;have d:=Qo t;obtain ⟨n,e⟩:=M6 t;obtain ⟨m,g,i,j⟩:=YD f r (a++[o]) l om h;simp_all
theorem YE {b l} (h:ux b=some l):l.all g4=true/\b=l.flatMap jD:=by
 obtain ⟨m,e,a,c⟩:=YD _ b [] l om h;simp_all
theorem ajS {o} (h:g4 o=true):(jD o).length=o9 o.fa.iH.toNat+o9 o.fa.jw.toNat+o9 o.iT.toNat+o9 o.eO.toNat+(if o.iT=1 then o9 o.iW.toNat else 0)+o9 (o.mI.length+o.n9.length)+(o.mI.length+o.n9.length):=by
 obtain ⟨d,r,k,n,p⟩:=GH h;have t:=Rn h;rcases Rl h with ⟨e,a⟩|⟨e,a,b,c⟩
 .grind [Ri,List.length_append,C0]
 grind [Rj,C0]
theorem Yw {o} (h:g4 o=true):(jD o).length<=150:=by
 obtain ⟨c,r,k,n,p⟩:=GH h;have t:=Rn h;have s:o.mI.length+o.n9.length<=80:=by
  grind [Rl]
 rw [ajS h];have a:o9 o.fa.iH.toNat<=3:=av (GV _ 1048576 om) dd;have b:o9 o.fa.jw.toNat<=1:=av (GV _ 63 om) dd;have d:o9 o.iT.toNat<=1:=av (GV _ 2 om) dd;have e:o9 o.eO.toNat<=4:=av (GV _ 134217856 om) dd;have f:o9 o.iW.toNat<=4:=av (GV _ 134217856 om) dd;have g:o9 (o.mI.length+o.n9.length)<=1:=av (GV _ 80 om) dd;split<;>omega
theorem ajW {l:List e7} (h:l.all g4=true):(l.flatMap jD).length<=150*l.length:=by
 induction l with
 |nil=>exact aq _
 |cons o l i=>
  grind [Yw]
theorem Rm {o} (h:g4 o=true):mK o.eO=true/\BG o.fa o.eO=false/\BG o.fa o.iW=false/\m9 o.fa=true:=by
 unfold g4 at h;split at h
 .grind [wV]
 .split at h
  .simp only [az,bR] at h;obtain ⟨b,c,a⟩:=h;unfold Ai at a;simp only [az,aM] at a;refine ⟨a.1,c,?_,b⟩;rw [a.2.2.2.1];rfl
  .cases h
end Gw
namespace Go.Proofs.YtffboamedcmpaaaGreatDoor
open Gw
open Go.Am
open Go.Proofs.Tryz Tryz
theorem aj0 (n:Nat) (h:n<9223372036854775808):(gh n).length<=9:=by
 have a:=XG n h;have b:=GL n h;have c:(QM n).size=(gh n).length:=rfl;omega
theorem YH (s:List Nat) (h:∀ z∈s,z<9223372036854775808):(mU s).length<=9*s.length:=by
 induction s with
 |nil=>simp [mU]
 |cons z s i=>
  grind [aj0,mU]
theorem aj1 (o:e7) (b:List UInt8) (hp:0<=o.iW/\o.iW<134217856) (d:b.length<=100000000) (n:o.mI.length<=1048576):er prog 330 [rc o, .cp b] (.cp (nF (b++mU [o.iW.toNat]) o.mI)):=by
 have a:=JO b false [o.iW] (λz h=>by grind) (by simp;omega);have c:=G9 (b++mU [o.iW.toNat]) o.mI (by
  have:=YH [o.iW.toNat] (λz h=>by grind);grind)
 refine fS func330 ?_;exact jf
theorem aj2 (o:e7) (b:List UInt8) (a:b.length<=100000000) (n:o.n9.length<=1048576):er prog 332 [rc o, .cp b] (.cp (nF b o.n9)):=by
 have h:=G9 b o.n9 om;refine fS func332 ?_;exact jf
theorem YI (b:List UInt8) (o:e7) (f:qf o) (r:b.length<=10000000):er prog 43 [.cp b,rc o] (.dn [.cp (CU b o), .ax .i64 (CV o)]):=by
 have c:=EH o f;unfold CU CV;cases e:g4 o with
 |false=>
  rw [e] at c;rw [ai dd,ai dd];refine fS func43 ?_;exact jf
 |true=>
  rw [e] at c;obtain ⟨m,n,p,q,i⟩:=GH e;rw [ak rfl,ak rfl];have g:=JO b false [o.fa.iH,o.fa.jw,o.iT,o.eO] (λz j=>by
   grind) (by simp;omega)
  have a:=Qw o;have t:(mU ([o.fa.iH,o.fa.jw,o.iT,o.eO].map Int.toNat)).length<=36:=YH _ (λz j=>by
   grind)
  have s:GI o=mU ([o.fa.iH,o.fa.jw,o.iT,o.eO].map Int.toNat):=rfl;unfold Ax at a
  by_cases k:o.iT=1
  .rw [ak k] at a;have d:=aj1 o (b++mU ([o.fa.iH,o.fa.jw,o.iT,o.eO].map Int.toNat)) i (by grind) f.Qu;have y:b++jD o=nF (b++mU ([o.fa.iH,o.fa.jw,o.iT,o.eO].map Int.toNat)++mU [o.iW.toNat]) o.mI:=by
    grind [jD,nF]
   refine fS func43 ?_
   conv=>whnf
   refine fF.kc c rfl ?_
   conv=>whnf
   refine ⟨λh=>absurd h dd,λ_=>?_⟩
   conv=>whnf
   refine fF.kc g rfl ?_
   conv=>whnf
   refine fF.kc a rfl ?_
   conv=>whnf
   refine ⟨330,eI,fF.kc d rfl ?_⟩
   conv=>whnf
   rw [y]
  .have l:o.iT=2:=om;rw [ai k,ak l] at a;have d:=aj2 o (b++mU ([o.fa.iH,o.fa.jw,o.iT,o.eO].map Int.toNat)) (by grind) f.WV;have y:b++jD o=nF (b++mU ([o.fa.iH,o.fa.jw,o.iT,o.eO].map Int.toNat)) o.n9:=by
    grind [jD,nF]
   refine fS func43 ?_
   conv=>whnf
   refine fF.kc c rfl ?_
   conv=>whnf
   refine ⟨λh=>absurd h dd,λ_=>?_⟩
   conv=>whnf
   refine fF.kc g rfl ?_
   conv=>whnf
   refine fF.kc a rfl ?_
   conv=>whnf
   refine ⟨332,eI,fF.kc d rfl ?_⟩
   conv=>whnf
   rw [y]
def aj6 (x:Option (e7×List UInt8)):b9:=match x with
 |none=> .dn [.eN [.ax .i64 0, .ax .i64 0, .ax .i64 0, .ax .i64 0, .ax .i64 0, .cp [], .cp []], .cp [], .ax .i64 50]
 |some (o,rest)=> .dn [rc o, .cp rest, .ax .i64 0]
theorem aj4 (o:e7) (h:o.iT=1):Ax o= .gm 287 (rc o):=by unfold Ax;rw [ak h]
theorem aj5 (o:e7) (h:¬o.iT=1) (a:o.iT=2):Ax o= .gm 288 (rc o):=by unfold Ax;rw [ai h,ak a]
theorem aj3 (o:e7) (h:¬o.iT=1) (a:¬o.iT=2):Ax o= .gy:=by unfold Ax;rw [ai h,ai a]
theorem YK {s:List UInt8} (h:lI s=none):uD s= .dn [.ax .i64 0, .cp [], .ax .i64 40]:=by unfold uD;rw [h]
theorem YL {s:List UInt8} {n u:Nat} (h:lI s=some (n,u)):uD s= .dn [.ax .i64 (n:Int), .cp (s.drop u), .ax .i64 0]:=by unfold uD;rw [h]
theorem YJ {s:List UInt8} {n u:Nat} (h:lI s=some (n,u)):n<9223372036854775808:=(Jt s 0 0 n u om h).2.2
def aj7 (b:List UInt8) (x:List Nat×List UInt8):Prop:=x.2.length<=1048576/\(∀ n∈x.1,n<9223372036854775808)/\match x.1 with
 |[]=>pb b=pb x.2
 |[c]=>pb b=At c x.2
 |[c,r]=>pb b=Au c r x.2
 |[c,r,k]=>pb b=Av c r k x.2
 |[c,r,k,n]=>pb b=yU c r k n x.2
 |_=>False
def aj8 (c r n:Nat) (a:Option (e7×List UInt8)) (x:List Nat×List UInt8):Prop:=x.2.length<=1048576/\(∀ n∈x.1,n<9223372036854775808)/\match x.1 with
 |[]=>a=x9 c r n x.2
 |[p]=>a=BO c r n p x.2
 |_=>False
theorem Ro (b:List UInt8) (U:b.length<=1048576):er prog 104 [.cp b] (aj6 (pb b)):=by
 refine fS func104 ?_
 conv=>whnf
 refine fz func176 ?_
 conv=>whnf
 refine iE.gY (X:=List Nat×List UInt8) (λx=>[(.ct 0, .bg (.cp x.2)),(.ct 11, .bg (.eP 11 0 1 4 false)),(.ct 12, .bg (.ax .i64 4)),(.ct 13, .bg (.ax .i64 x.1.length)),
  (.ay 0, .dc 130 [.ax .i64 0, .ax .i64 0, .ax .i64 0, .ax .i64 0, .ax .i64 0, .cp [], .cp []]),
  (.ay 3, .dc 130 [.ax .i64 (x.1.getD 0 0:Nat), .ax .i64 (x.1.getD 1 0:Nat), .ax .i64 (x.1.getD 2 0:Nat), .ax .i64 (x.1.getD 3 0:Nat), .ax .i64 0, .cp [], .cp []]),
  (.ay 11, .dc 308 [.c8 3 0, .c8 3 1, .c8 3 2, .c8 3 3])]) 12 (aj7 b) (λx=>4 - x.1.length) dd ([],b) ⟨U,(λn j=>by cases j),rfl⟩
  ⟨rfl,rfl,rfl,rfl,rfl,rfl,rfl,rfl,rfl,rfl,rfl,rfl,rfl,rfl,trivial⟩ ?_
 rintro ⟨g,s⟩ ⟨Q,j,A⟩;simp only at Q j A;have R:=JP s om;refine gk ?_
 by_cases P:g.length<4
 .have N:IntKind.i64.wrap ((g.length:Int)+1)=((g.length+1:Nat):Int):=by rw [fq om om];rfl
  rcases g with _|⟨c,_|⟨r,_|⟨k,_|⟨n,l⟩⟩⟩⟩
  all_goals first|(exfalso;simp only [aL] at P;omega)|skip
  all_goals
   cases q:lI s with
   |none=>
    have e:pb b=none:=Eq.trans A (by simp only [pb,At,Au,Av,q]);rw [YK q] at R;rw [e];refine qD ?_;refine ⟨by simp,?_⟩;refine gI ?_;exact jf
   |some O=>
    obtain ⟨y,u⟩:=O;have L:=YJ q;rw [YL q] at R;refine qD ?_;refine ⟨by simp,?_⟩;refine gI ?_;refine gI ?_;refine ⟨(_++[y],s.drop u),⟨by show (s.drop u).length<=_;rw [aV];omega,λz H=>(aF.1 H).elim (j z) λh=>aw.1 h▸L,Eq.trans A (by simp only [pb,At,Au,Av,q];try rfl)⟩,by show 4 - _<4 - _;simp,rfl,rfl,rfl,rfl,rfl,rfl,congrArg (λn=>gC.bg (.ax .i64 n)) N,af⟩
 match g,j,A with
 |[],_,_|[_],_,_|[_,_],_,_|[_,_,_],_,_=>exact absurd (by simp) P
 |[c,r,k,n],j,A=>
  have W:=j c (by simp);have hrb:=j r (by simp);have Y:=j k (by simp);have Z:=j n (by simp);refine qD ?_;have E:=Qw ⟨⟨c,r⟩,k,n,0,[],[]⟩;have A:pb b=yU c r k n s:=A;rw [A]
  by_cases S:k=1
  .subst S;rw [aj4 _ (show ((1:Nat):Int)=1 from rfl)] at E;unfold yU;rw [ak rfl];refine gI ?_;refine fz func176 ?_
   conv=>whnf
   refine iE.gY (X:=List Nat×List UInt8) (λx=>[(.ct 0, .bg (.cp x.2)),(.ct 11, .bg (.eP 38 0 1 1 false)),(.ct 12, .bg (.ax .i64 1)),(.ct 13, .bg (.ax .i64 x.1.length)),
    (.ay 0, .dc 130 [.ax .i64 0, .ax .i64 0, .ax .i64 0, .ax .i64 0, .ax .i64 0, .cp [], .cp []]),
    (.ay 3, .dc 130 [.ax .i64 c, .ax .i64 r, .ax .i64 (1:Nat), .ax .i64 n, .ax .i64 (x.1.getD 0 0:Nat), .cp [], .cp []]),
    (.ay 38, .dc 308 [.c8 3 4])]) 39 (aj8 c r n (x9 c r n s)) (λx=>1 - x.1.length) dd ([],s) ⟨Q,(λn j=>by cases j),rfl⟩
    ⟨rfl,rfl,rfl,rfl,rfl,rfl,rfl,rfl,rfl,rfl,rfl,rfl,rfl,rfl,trivial⟩ ?_
   generalize x9 c r n s=B;rintro ⟨ps,a⟩ ⟨K,o,I⟩;simp only at K o I;have F:=JP a om;refine gk ?_
   match ps,o,I with
   |[],o,I=>
    have I:B=x9 c r n a:=I;refine qD ?_;refine ⟨by simp,?_⟩
    conv=>whnf
    cases q:lI a with
    |none=>
     have e:B=none:=by rw [I];unfold x9;rw [q]
     rw [YK q] at F;rw [e];exact jf
    |some O=>
     obtain ⟨y,u⟩:=O;have L:=YJ q;rw [YL q] at F;refine fF.kc F rfl ?_
     conv=>whnf
     refine ⟨λh=>absurd h dd,λ_=>?_⟩
     conv=>whnf
     refine ⟨([y],a.drop u),⟨by show (a.drop u).length<=_;rw [aV];omega,λz H=>?_,?_⟩,by show 1 - _<1 - _;simp,rfl,rfl,rfl,rfl,rfl,rfl,?_,af⟩
     .have H:z∈[y]:=H;rw [aw.1 H];exact L
     .show B=BO c r n y (a.drop u);rw [I];unfold x9;rw [q]
     .show gC.bg (b9.ax .i64 (IntKind.i64.wrap ((([]:List Nat).length:Int)+1)))=_;rw [fq (by simp) (by simp)];rfl
   |[p],o,I=>
    have hpb:=o p (by simp);have I:B=BO c r n p a:=I;rw [I];unfold BO;refine qD ?_;have f:=G8 a om;cases i:uw a with
    |none=>
     have e:rb (λt=>⟨⟨c,r⟩,1,n,p,t,[]⟩) a=none:=by unfold rb;rw [i]
     have v:tD a= .dn [.cp [], .cp [], .ax .i64 40]:=by unfold tD;rw [i]
     rw [v] at f;rw [e];exact jf
    |some mu=>
     obtain ⟨m,u⟩:=mu;have v:tD a= .dn [.cp ((a.drop u).take m), .cp (a.drop (u+m)), .ax .i64 0]:=by unfold tD;rw [i]
     have w:((a.drop u).take m).length<=1048576:=by rw [aT,aV];omega
     have e:rb (λt=>⟨⟨c,r⟩,1,n,p,t,[]⟩) a=x8 ⟨⟨c,r⟩,1,n,p,((a.drop u).take m),[]⟩ (a.drop (u+m)):=by unfold rb;rw [i]
     rw [v] at f;rw [e];have d:=EH ⟨⟨c,r⟩,1,n,p,((a.drop u).take m),[]⟩ ⟨by unfold jv;simp only;omega,by unfold jv;simp only;omega,w,by simp⟩;refine gI ?_;unfold x8;cases D:g4 ⟨⟨c,r⟩,1,n,p,((a.drop u).take m),[]⟩ with
     |false=>
      rw [D] at d;rw [ai dd];exact jf
     |true=>
      rw [D] at d;rw [ak rfl];exact jf
   |_::_::_,o,I=>exact I.elim
  .have J:¬(k:Int)=1:=om;unfold yU;rw [ai S]
   by_cases T:(k:Int)=2
   .rw [aj5 _ J T] at E;refine gI ?_;have f:=G8 s om;cases i:uw s with
    |none=>
     have e:rb (λt=>⟨⟨c,r⟩,k,n,0,[],t⟩) s=none:=by unfold rb;rw [i]
     have v:tD s= .dn [.cp [], .cp [], .ax .i64 40]:=by unfold tD;rw [i]
     rw [v] at f;rw [e];exact jf
    |some mu=>
     obtain ⟨m,u⟩:=mu;have v:tD s= .dn [.cp ((s.drop u).take m), .cp (s.drop (u+m)), .ax .i64 0]:=by unfold tD;rw [i]
     have w:((s.drop u).take m).length<=1048576:=by rw [aT,aV];omega
     have e:rb (λt=>⟨⟨c,r⟩,k,n,0,[],t⟩) s=x8 ⟨⟨c,r⟩,k,n,0,[],((s.drop u).take m)⟩ (s.drop (u+m)):=by unfold rb;rw [i]
     rw [v] at f;rw [e];have d:=EH ⟨⟨c,r⟩,k,n,0,[],((s.drop u).take m)⟩ ⟨by unfold jv;simp only;omega,by unfold jv;simp only;omega,by simp,w⟩;refine gI ?_;unfold x8;cases D:g4 ⟨⟨c,r⟩,k,n,0,[],((s.drop u).take m)⟩ with
     |false=>
      rw [D] at d;rw [ai dd];exact jf
     |true=>
      rw [D] at d;rw [ak rfl];exact jf
   .rw [aj3 _ J T] at E;refine gI ?_;have f:=G8 s om;cases i:uw s with
    |none=>
     have e:rb (λt=>⟨⟨c,r⟩,k,n,0,[],t⟩) s=none:=by unfold rb;rw [i]
     have v:tD s= .dn [.cp [], .cp [], .ax .i64 40]:=by unfold tD;rw [i]
     rw [v] at f;rw [e];exact jf
    |some mu=>
     obtain ⟨m,u⟩:=mu;have v:tD s= .dn [.cp ((s.drop u).take m), .cp (s.drop (u+m)), .ax .i64 0]:=by unfold tD;rw [i]
     have w:((s.drop u).take m).length<=1048576:=by rw [aT,aV];omega
     have e:rb (λt=>⟨⟨c,r⟩,k,n,0,[],t⟩) s=x8 ⟨⟨c,r⟩,k,n,0,[],((s.drop u).take m)⟩ (s.drop (u+m)):=by unfold rb;rw [i]
     rw [v] at f;rw [e];have d:=EH ⟨⟨c,r⟩,k,n,0,[],((s.drop u).take m)⟩ ⟨by unfold jv;simp only;omega,by unfold jv;simp only;omega,by simp,w⟩;refine gI ?_;unfold x8;cases D:g4 ⟨⟨c,r⟩,k,n,0,[],((s.drop u).take m)⟩ with
     |false=>
      rw [D] at d;rw [ai dd];exact jf
     |true=>
      rw [D] at d;rw [ak rfl];exact jf
 |_::_::_::_::_::_,j,A=>exact A.elim
def aj9 (x:Option (List e7)):b9:=match x with
 |none=> .dn [.a8 true 7 [] .dm, .ax .i64 50]
 |some l=> .dn [.a8 (decide (l=[])) 7 (nj l) .dm, .ax .i64 0]
theorem aka (b:List UInt8) (k:b.length<=1048576):er prog 103 [.cp b] (aj9 (ux b)):=by
 refine ic func103 ?_
 conv=>whnf
 refine iE.CI 4 130 7 rfl rfl (.inr rfl) ?_;refine iE.gY (X:=List UInt8×List e7) (λx=>[(.ct 0, .bg (.cp x.1)),(.ct 4, .bg (.a8 (decide (x.2=[])) 7 (nj x.2) (.je 3))),(.eT 3, .eU 130 7 x.2.length)]) 4
  (λx=>x.1.length+x.2.length<=1048576/\∃ f,x.1.length<f/\ux b=qJ f x.1 x.2) (λx=>x.1.length) dd (b,[]) ⟨by simpa using k,b.length+1,Nat.lt_succ_self _,rfl⟩ ⟨rfl,rfl,rfl,rfl,rfl,rfl,trivial⟩ ?_
 rintro ⟨r,a⟩ ⟨j,f,m,c⟩;simp only at j m c;have t:=Ro r om;have d:=MC a;refine gk ?_;refine ⟨λh=>?_,λh=>?_⟩
 .have h:r≠[]:=by
   simp_all
  obtain ⟨f,rfl⟩:∃ g,f=g+1:=⟨f - 1,om⟩;rw [qJ,ai h] at c
  conv=>whnf
  cases i:pb r with
  |none=>
   rw [i] at t c;simp only at c;rw [c];refine cx ?_;exact mR.qA (.fj (.kd _ _ _) (.fj (.qy rfl) .kv))
  |some n=>
   obtain ⟨o,q⟩:=n;have l:=Qo i;rw [i] at t c;simp only at c;refine cx ?_;refine ⟨⟨d.symm,ji (by grind) dd⟩,?_⟩
   conv=>whnf
   refine ⟨(q,a++[o]),⟨by grind,f,by grind,c⟩,l,rfl,rfl,?_,rfl,?_,rfl,ae⟩
   .show gC.bg (b9.a8 (decide (a=[]) && false) 7 (nj a++[gV o]) _)=gC.bg (b9.a8 (decide (a++[o]=[])) 7 (nj (a++[o])) _);rw [cf,aJ (by simp),nj,nj,aU];rfl
   .show gC.eU _ 7 ((nj a).length+1)=gC.eU _ 7 (a++[o]).length;simp_all
 .have h:r=[]:=by
   simp_all
  have e:qJ f r a=some a:=by
   cases f with
   |zero=>rfl
   |succ f=>rw [qJ,ak h]
  rw [e] at c;rw [c];exact fu
end Go.Proofs.YtffboamedcmpaaaGreatDoor
namespace Gw
theorem YP:∀ (f:Nat) (b:List UInt8) (a l:List e7),(∀ o∈a,g4 o=true)->qJ f b a=some l->∀ o∈l,g4 o=true
 |0,b,a,l,d,h=>by
  grind [qJ]
 |f+1,b,a,l,d,h=>by
  unfold qJ at h;split at h
  .cases h;exact d
  .split at h
   .cases h
   .rename_i o r t;refine YP f r (a++[o]) l (λx c=>?_) h;rcases aF.1 c with c|c
    .exact d x c
    .rw [aw] at c;subst c;exact (M6 t).1
theorem ake {b:List UInt8} {l:List e7} (h:ux b=some l):∀ o∈l,g4 o=true:=YP _ _ [] l (λo a=>by cases a) h
theorem YQ:∀ (f:Nat) (b:List UInt8) (a l:List e7),qJ f b a=some l->l.length<=a.length+f
 |0,b,a,l,h=>by
  grind [qJ]
 |f+1,b,a,l,h=>by
  unfold qJ at h;split at h
  .cases h;omega
  .split at h
   .cases h
   .have:=YQ f _ _ l h;grind
theorem YO (g:li):∀ (l:List e7) (x:Int×gp e7),(∀ o∈(l.foldl (l5 g) x).2.al,o∈x.2.al\/o∈l)
 |[],x,o,h=> .inl h
 |a::l,x,o,h=>by
  rw [bw] at h;rcases YO g l _ o h with b|b
  .unfold l5 at b;dsimp only at b;split at b
   .rcases aF.1 b with c|c
    .exact .inl c
    simp_all
   .exact .inl b
  simp_all
theorem akd (g:li) (x:Int×gp e7) (o:e7):(l5 g x o).2.al.length<=x.2.al.length+1:=by
 unfold l5;dsimp only;split
 .show (x.2.al++[o]).length<=_;simp_all
 omega
theorem YN (g:li):∀ (l:List e7) (x:Int×gp e7),(l.foldl (l5 g) x).2.al.length<=x.2.al.length+l.length
 |[],x=>aq _
 |a::l,x=>by
  have h:=YN g l (l5 g x a);grind [akd]
theorem akc (d:iY):pa d []=(d,0):=rfl
theorem YM (d:iY) (o:e7) (l:List e7):pa d (o::l)=match rI d o with
  |(a,e)=>if e≠0 then (a,e) else pa a l:=rfl
end Gw
namespace Go.Proofs.YtffboamedcmpaaaGreatDoor
open Gw
open Go.Am
open Go.Proofs.Tryz Tryz
theorem akb (m:fX) (c:fG) (hm:tF m) (hd:c.lS.length<=100000):fF prog 88 [.c8 10 0] (eJ (rP m c)) 11
  (gP 11 (λr es=>r= .gO (.ax .i64 (tB (fO m c)).2)/\es=vf (tB (fO m c)).1)):=by
 have hrd:=aka c.lS om;have z:=λl (h:ux c.lS=some l)=>ake h
 have P:∀ l,ux c.lS=some l->l.length<=100001:=λl h=>by
  have:=YQ _ _ _ l h;grind
 have i:tB (fO m c)=match ux c.lS with
  |none=>(fO m c,50)
  |some l=>if 200<m.cy.fZ.al.length+(l.foldl (l5 m.cy) (m.jk, .g6)).2.al.length then (fO m c,193)
   else match pa (fO m c) (l.foldl (l5 m.cy) (m.jk, .g6)).2.al with
   |(J,e)=>if e≠0 then (J,e) else ({J with kg:={J.kg with qd:=(l.foldl (l5 m.cy) (m.jk, .g6)).2.al.length},e8:={J.e8 with jk:=(l.foldl (l5 m.cy) (m.jk, .g6)).1}},0):=rfl
 generalize tB (fO m c)=B at*;generalize ux c.lS=R at*;refine fF.rh 10 ?_;cases R with
 |none=>
  dsimp only at i;subst i;refine fz func88 ?_;refine cx ?_;exact kU
 |some l=>
  dsimp only at i;have z:=z l rfl;have Z:l.length<=100001:=P l rfl;have hel:(nj l).length=l.length:=ap _;have Q:(m.cy.fZ.al.map jB).length=m.cy.fZ.al.length:=ap _;have H:=hm.rQ.zf;refine fz func88 ?_;refine cx ?_;refine iE.CI 6 130 7 rfl rfl (.inr rfl) ?_;refine iE.gY (X:=Nat×Int×gp e7) (λx=>[(.ay 10, .dc 117 (Hn m c [] sG 0 sG sG)),(.ct 0, .bg (.c8 10 0)),(.ct 5, .bg (.ax .i64 x.2.1)),(.ct 6, .bg (.a8 x.2.2.gg 7 (x.2.2.al.map gV) (.je 34))),(.eT 34, .eU 130 7 x.2.2.al.length),
   (.ct 29, .bg (.a8 (decide (l=[])) 7 (nj l) .dm)),(.ct 30, .bg (.ax .i64 l.length)),(.ct 31, .bg (.ax .i64 x.1))]) 35
   (λx=>x.1<=l.length/\(l.take x.1).foldl (l5 m.cy) (m.jk, .g6)=x.2) (λx=>l.length - x.1) dd (0,m.jk, .g6) ⟨ar _,rfl⟩ ⟨rfl,rfl,rfl,rfl,rfl,rfl,rfl,rfl,rfl,rfl,rfl,rfl,?_,af⟩ ?_
  .show gC.bg (b9.ax .i64 ((nj l).length:Nat))=_;rw [hel]
  rintro ⟨k,seen,F⟩ ⟨hk,j⟩;dsimp only at hk j ⊢;have U:F.al.length<=100001:=by
   have h1:=YN m.cy (l.take k) (m.jk, .g6);grind [gp.g6]
  have v:(F.al.map gV).length=F.al.length:=ap _;refine gk ?_;refine ab (λh=>?_) λh=>?_
  .have hlt:k<l.length:=om;have hg:=pV gV hlt;have w1:IntKind.i64.wrap ((k:Int)+1)=((k+1:Nat):Int):=by grind [fq]
   have hnext:(l.take (k+1)).foldl (l5 m.cy) (m.jk, .g6)=l5 m.cy (seen,F) l[k]:=by grind [List.take_succ_eq_append_getElem]
   generalize l[k]=o at*;have hse:=Yd false seen o.fa;have S:=XX m.cy o.fa (av H dd);have Y:=ajQ o F.gg F.al om;refine cx ?_;cases hh:oy m.cy o.fa with
   |true=>
    refine cx ?_;have s:l5 m.cy (seen,F) o=(ra seen o.fa,F):=by
     grind [l5]
    rw [s] at hnext;refine ⟨(k+1,ra seen o.fa,F),⟨om,hnext⟩,by grind,rfl,rfl,rfl,rfl,rfl,rfl,rfl,rfl,rfl,rfl,rfl,rfl,rfl,rfl,?_,rfl,ae⟩;exact congrArg (λx=>gC.bg (b9.ax .i64 x)) w1
   |false=>
    refine cx ?_;refine .inr ⟨eI,eI,?_⟩;refine j5 ?_;cases ha:(F.al.any λf=>C6 f.fa o.fa) with
    |true=>
     refine cx ?_;have s:l5 m.cy (seen,F) o=(ra seen o.fa,F):=by
      grind [l5]
     rw [s] at hnext;refine ⟨(k+1,ra seen o.fa,F),⟨om,hnext⟩,by grind,rfl,rfl,rfl,rfl,rfl,rfl,rfl,rfl,rfl,rfl,rfl,rfl,rfl,rfl,?_,rfl,ae⟩;exact congrArg (λx=>gC.bg (b9.ax .i64 x)) w1
    |false=>
     refine cx ?_;have s:l5 m.cy (seen,F) o=(ra seen o.fa,F.lR o):=by
      grind [l5]
     rw [s] at hnext;refine ⟨⟨v.symm,ji (by grind) dd⟩,?_⟩
     conv=>whnf
     refine ⟨(k+1,ra seen o.fa,F.lR o),⟨om,hnext⟩,by grind,rfl,rfl,rfl,rfl,rfl,rfl,?_,rfl,?_,rfl,rfl,rfl,rfl,rfl,?_,rfl,ae⟩
     .show gC.bg (b9.a8 (F.gg && false) 7 (F.al.map gV++[gV o]) _)=gC.bg (b9.a8 (false && (F.al++[o]).isEmpty) 7 ((F.al++[o]).map gV) _);simp_all
     .show gC.eU _ 7 ((F.al.map gV).length+1)=gC.eU _ 7 (F.al++[o]).length;simp_all
     .exact congrArg (λx=>gC.bg (b9.ax .i64 x)) w1
  .have w:k=l.length:=om;subst w;rw [aN] at j;rw [j] at i;have K:∀ o∈F.al,g4 o=true:=λo ho=>by
    rcases YO m.cy l (m.jk, .g6) o (by simp_all) with h1|h1
    .cases h1
    .exact z o h1
   have T:IntKind.i64.wrap (((m.cy.fZ.al.map jB).length:Int)+((F.al.map gV).length:Int))=((m.cy.fZ.al.length+F.al.length:Nat):Int):=by grind [fq]
   dsimp only at i
   by_cases t:200<m.cy.fZ.al.length+F.al.length
   .rw [ak t] at i;subst i
    conv=>whnf
    rw [T];refine GC om ?_;exact kU
   .rw [ai t] at i
    conv=>whnf
    rw [T];refine kD om ?_
    conv=>whnf
    refine iE.Q9 10 17 130 7 rfl rfl rfl ?_;refine iE.gY (X:=Nat×iY) (λx=>[(.ct 0, .bg (.c8 10 0)),(.ay 10, .dc 117 (Hn x.2.e8 c [] sG 0 sG (.a8 x.2.kZ.gg 7 (x.2.kZ.al.map gV) (.hJ 50)))),(.eT 50, .eU 130 7 x.2.kZ.al.length),
     (.ct 5, .bg (.ax .i64 seen)),(.ct 6, .bg (.a8 F.gg 7 (F.al.map gV) (.je 34))),(.ct 72, .bg (.a8 F.gg 7 (F.al.map gV) (.je 34))),(.ct 73, .bg (.ax .i64 F.al.length)),(.ct 74, .bg (.ax .i64 x.1))]) 51
     (λx=>x.1<=F.al.length/\x.2.kg=iL 0/\x.2.kQ=c/\l8 x.2.e8.cy/\x.2.kZ.al.length<=x.1/\pa (fO m c) F.al=pa x.2 (F.al.drop x.1)) (λx=>F.al.length - x.1) dd (0,fO m c) ⟨ar _,rfl,rfl,hm.rQ,ar _,rfl⟩ ⟨rfl,rfl,rfl,rfl,rfl,rfl,rfl,rfl,rfl,rfl,rfl,rfl,?_,af⟩ ?_
    .show gC.bg (b9.ax .i64 ((F.al.map gV).length:Nat))=_;rw [v]
    rintro ⟨k,⟨A,da,u,d⟩⟩ ⟨hk,D,E,p,I,b⟩;dsimp only at hk D E p I b ⊢;subst D E;have N:(d.al.map gV).length=d.al.length:=ap _;refine gk ?_;refine ab (λh=>?_) λh=>?_
    .have hlt:k<F.al.length:=om;have hg:=pV gV hlt;have w1:IntKind.i64.wrap ((k:Int)+1)=((k+1:Nat):Int):=by grind [fq]
     have L:=K F.al[k] (aI hlt);rw [aY hlt] at b;generalize F.al[k]=o at*;have W:=Q7 p o (JW L);have y:=p.Hl o;rw [YM] at b;unfold rI at b;dsimp only at b;generalize jO A.cy o=R at*;obtain ⟨g,e⟩:=R;dsimp only at*;refine cx ?_;refine fz func156 ?_;refine cx ?_
     by_cases he:e=0
     .subst he;have hb:(d.gg && false)=(d.lR o).gg:=by rw [cf];rfl
      have O:d.al.map gV++[gV o]=(d.lR o).al.map gV:=by show _=(d.al++[o]).map gV;simp_all
      have b:pa (fO m u) F.al=pa ⟨{A with cy:=g},iL 0,u,d.lR o⟩ (F.al.drop (k+1)):=by rw [b];rfl
      refine cx ?_;refine ⟨⟨N.symm,ji (by grind) dd⟩,?_⟩;refine cx ?_;refine ⟨(k+1,⟨{A with cy:=g},iL 0,u,d.lR o⟩),⟨om,rfl,rfl,y,by show (d.al++[o]).length<=k+1;simp_all,b⟩,by grind,rfl,rfl,?_,rfl,?_,rfl,rfl,rfl,rfl,rfl,rfl,rfl,rfl,rfl,?_,rfl,ae⟩
      .show gC.dc _ (Hn {A with cy:=g} u [] sG 0 sG (.a8 (d.gg && false) 7 (d.al.map gV++[gV o]) (.hJ 50)))=gC.dc _ (Hn {A with cy:=g} u [] sG 0 sG (.a8 (d.lR o).gg 7 ((d.lR o).al.map gV) (.hJ 50)));rw [hb,O]
      .show gC.eU _ 7 ((d.al.map gV).length+1)=gC.eU _ 7 (d.al++[o]).length;simp_all
      .exact congrArg (λx=>gC.bg (b9.ax .i64 x)) w1
     .have b:pa (fO m u) F.al=(⟨A,iL 0,u,d⟩,e):=by simp_all
      rw [b] at i;dsimp only at i;rw [ak he] at i;subst i
      conv=>whnf
      refine ⟨λ_=>?_,λq=>absurd (by simpa using q) he⟩
      conv=>whnf
      refine ⟨λ_=>?_,λq=>absurd (by simpa using q) he⟩;exact kU
    .have w:k=F.al.length:=om;subst w;rw [cR] at b;rw [b,akc] at i;dsimp only at i;rw [ai (show ¬((0:Int)≠0) by decide)] at i;subst i
     conv=>whnf
     refine ⟨_,_,_,rfl,rfl,?_,_,_,⟨rfl,rfl⟩,rfl,⟨rfl,rfl⟩,⟨rfl,rfl,trivial⟩⟩
     repeat (first|exact qV.kv|refine qV.fj (mR.fC _) ?_|refine qV.fj (mR.kd _ _ _) ?_|fail "end")
     refine qV.fj (mR.qy (congrArg (λx:Nat=>b9.ax .i64 x) v)) ?_
     repeat (first|exact qV.kv|refine qV.fj (mR.fC _) ?_|refine qV.fj (mR.kd _ _ _) ?_|fail "end")
end Go.Proofs.YtffboamedcmpaaaGreatDoor
