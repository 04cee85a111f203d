import Derived.Lib.SmallJoins
import Derived.Deep.Slices
import Derived.Test.YtffboamedcmpaaaGreatDoorAb
import Derived.Test.YtffboamedcmpaaaGreatDoorAk
set_option linter.all false
set_option maxHeartbeats 4000000
set_option maxRecDepth 100000
namespace Go.Proofs.YtffboamedcmpaaaGreatDoor
open Gw
open Go.Am
open Go.Proofs.Tryz Tryz
theorem aiF {l:List eF} {o:e7} {u:Aj} {n:eF} (h:n∈wZ l o u):n∈l\/n.eM=o.eO:=by
 grind [wZ]
theorem aiE (l:List eF) (o:e7) (u:Aj):(wZ l o u).length<=l.length+1:=by
 have h:=Q1 l o.eO;have a:il l o.eO<=lB l o.eO:=by grind [lB]
 grind [wZ]
structure AB (N:Nat) (l:List eF):Prop where
 zb:∀ n∈l,jv n.eM
 vQ:l.length<=N
theorem AB.aiD {N:Nat} {l:List eF} (h:AB N l) (o:e7) (u:Aj) (c:jv o.eO):AB (N+1) (wZ l o u):=
 ⟨λn b=>by rcases aiF b with a|a;exact h.zb n a;rw [a];exact c,av (aiE l o u) (dF h.vQ)⟩
theorem AB.MY {N:Nat} {l:List eF} (h:AB N l) (o:e7) (c:jv o.eO):AB (N+1) (iF l o):=
 ⟨λn b=>by rcases Jq b with a|⟨_,_,a⟩;exact h.zb n a;rw [a];exact c,av (Wg l o) (dF h.vQ)⟩
theorem Q2 (at_:mJ):∀ (l:List oc) (k:Nat) (_:k<=l.length),(∀ e∈l.take k,ke at_ e.gN.fa=true)->(∀ h:k<l.length,ke at_ l[k].gN.fa=false)->vG at_ l=k
 |[],0,_,_,_=>rfl
 |a::l,0,_,_,h=>by
  grind [vG,List.takeWhile_cons]
 |a::l,k+1,hk,b,c=>by
  have f:=b a (by simp);have:=Q2 at_ l k (by simpa using hk) (λe d=>b e (by simp [d])) (λh=>c (by simpa using h));grind [vG,List.takeWhile_cons]
theorem aiG (g:li) (o:e7) (Q:qf o) (K:∀ e∈g.fZ.al,qf e.gN) (he:g.fZ.al.length<=100000) (W:AB 100000 g.ec.al):er prog 215 [yd g,rc o] (.dn [yd (jO g o).1, .ax .i64 (jO g o).2]):=by
 have hck:=EH o Q;have R:=XX g o.fa om;have H:=XY g om (Nat.le_trans W.vQ dd);unfold jO;refine ic func215 ?_;refine cx ?_;cases hq:g4 o with
 |false=>
  exact fu
 |true=>
 refine cx ?_;cases hq2:oy g o.fa with
 |true=>
  exact fu
 |false=>
 obtain ⟨⟨z,l⟩,⟨U,J⟩⟩:=g;have r:(l.map jB).length=l.length:=ap _;refine cx ?_;refine ⟨λb=>?_,λb=>?_⟩
 .have b:(((l.map jB).length:Nat):Int)>=200:=ah b;rw [r] at b;rw [ai dd,ai dl,ak (show 200<=l.length by omega)];exact fu
 have b:¬(((l.map jB).length:Nat):Int)>=200:=ag b;rw [r] at b;rw [ai dd,ai dl,ai (show ¬200<=l.length by omega)];have K:∀ e∈l,qf e.gN:=K;have W:AB 100000 J:=W;clear hck R H;refine cx ?_;refine iE.gY (X:=Nat×gp eF) (λx=>[(.ct 2, .bg (.c8 0 0)),(.ct 3, .bg (.c8 1 0)),(.ct 4, .bg (.c8 2 0)),(.ct 6, .bg (.c8 21 0)),(.ct 7, .bg (.ax .i64 (l.length - x.1:Nat))),(.ct 41, .bg (.ax .i64 l.length)),(.ct 42, .bg (.ax .i64 x.1)),
   (.ay 0, .dc 27 [.a8 (z && l.isEmpty) 17 (l.map jB) .dm, .a8 (U && J.isEmpty) 8 (J.map mD) .dm]),(.ay 1, .dc 130 [.ax .i64 o.fa.iH, .ax .i64 o.fa.jw, .ax .i64 o.iT, .ax .i64 o.eO, .ax .i64 o.iW, .cp o.mI, .cp o.n9]),(.ay 2, .dc 27 [.a8 true 1 [] .fW, .a8 true 1 [] .fW]),(.ay 21, .dc 25 [.a8 (x.2.ie && x.2.al.isEmpty) 8 (x.2.al.map mD) .dm])]) 22
  (λx=>x.1<=l.length/\(∀ e∈l.reverse.take x.1,ke o.fa e.gN.fa=true)/\x.2=(l.reverse.take x.1).foldl BM ⟨U,J⟩/\AB (100000+x.1) x.2.al) (λx=>l.length - x.1) dd (0,⟨U,J⟩) ⟨ar _,by simp,rfl,W⟩ ⟨rfl,rfl,rfl,rfl,rfl,rfl,rfl,rfl,?_,rfl,?_,af⟩ ?_
 .show gC.bg (b9.ax .i64 ((l.map jB).length:Nat))=gC.bg (b9.ax .i64 (l.length - 0:Nat));rw [r];rfl
 .show gC.bg (b9.ax .i64 ((l.map jB).length:Nat))=_;rw [r]
 rintro ⟨k,n⟩ ⟨hk,E,hn,N⟩;dsimp only at hk E hn N ⊢;refine gk ?_;have hrl:l.reverse.length=l.length:=dY
 conv=>whnf
 refine ab (λh=>?_) λh=>?_
 .have t:k<l.length:=om;have T:k<l.reverse.length:=om;have S:l.length - 1 - k<l.length:=om;have hrev:l.reverse[k]=l[l.length - 1 - k]:=List.getElem_reverse T;have hg:=pV jB S;have c:qf l[l.length - 1 - k].gN:=K _ (aI S);have B:=Qx o.fa l[l.length - 1 - k].gN.fa;have q:=aiB (n.ie && n.al.isEmpty) n.al l[l.length - 1 - k].gN l[l.length - 1 - k].va N.zb (av N.vQ om) c.Aw;have Z:=N.aiD l[l.length - 1 - k].gN l[l.length - 1 - k].va c.Aw;have htk:l.reverse.take (k+1)=l.reverse.take k++[l[l.length - 1 - k]]:=by grind [List.take_succ_eq_append_getElem]
  have L:=Q2 o.fa l.reverse k om E;have w0:IntKind.i64.wrap ((k:Int)+1)=((k+1:Nat):Int):=by grind [fq]
  have w1:IntKind.i64.wrap (IntKind.i64.wrap ((l.length:Int) - 1) - k)=((l.length - 1 - k:Nat):Int):=by rw [fq (x:=(l.length:Int) - 1) om om,fq om om];omega
  have w2:IntKind.i64.wrap (((l.length - k:Nat):Int) - 1)=((l.length - (k+1):Nat):Int):=by grind [fq]
  generalize hx:l[l.length - 1 - k]=a at*
  conv=>whnf
  rw [r,w1];refine cx ?_;cases hq3:ke o.fa a.gN.fa with
  |false=>
   refine kw ?_;have hb:vG o.fa l.reverse=k:=L λh=>by simp_all
   clear B q Z htk L hg c hx;rw [hb];have hdo:=MB (n.ie && n.al.isEmpty) n.al o N.zb (av N.vQ om) Q;have p:=N.MY o Q.Aw;have hfk:l.length - k<=l.length:=Nat.sub_le _ _;have hnl:n.al.length<=200000:=av N.vQ om;generalize l.length - k=F at*
   conv=>whnf
   refine ⟨⟨om,om,rfl⟩,?_⟩
   conv=>whnf
   refine fz func247 ?_;refine cx ?_;refine ⟨ji (by grind) dd,?_⟩;refine gI ?_;have P:(l.drop F).length=l.length - F:=aV;have A:((l.map jB).drop F)=(l.drop F).map jB:=jV.symm;have I:((l.map jB).take F)=(l.take F).map jB:=cr.symm;have htl:(l.take F).length=F:=by simp_all
   rw [aC,A,I];refine iE.gY (X:=Nat×List oc×List eF) (λx=>[(.ct 4, .bg (.c8 2 0)),(.ct 6, .bg (.c8 21 0)),(.ct 10, .bg (.c8 48 0)),(.ct 11, .bg (.eW 247 [] [.c8 21 0, .c8 48 0])),(.ct 83, .bg (.a8 (z && l.isEmpty) 17 ((l.drop F).map jB) .dm)),(.ct 84, .bg (.ax .i64 (l.length - F:Nat))),(.ct 85, .bg (.ax .i64 x.1)),
     (.eT 68, .eU 140 17 x.2.1.length),(.ay 2, .dc 27 [.a8 true 1 [] .fW, .a8 true 1 [] .fW]),(.ay 21, .dc 25 [.a8 false 8 (x.2.2.map mD) .dm]),(.ay 48, .dc 24 [.a8 false 17 (x.2.1.map jB) (.je 68)])]) 69
    (λx=>x.1<=l.length - F/\(((l.drop F).take x.1).map (·.gN)).foldl tv (tv ⟨⟨z,l.take F⟩,n⟩ o)=⟨⟨false,x.2.1⟩,⟨false,x.2.2⟩⟩/\x.2.1.length<=F+1+x.1/\AB (200001+x.1) x.2.2) (λx=>l.length - F - x.1) dd (0,l.take F++[⟨o,pw n.al o⟩],iF n.al o) ⟨ar _,rfl,by simp_all,⟨p.zb,av p.vQ om⟩⟩ ⟨rfl,rfl,rfl,rfl,rfl,rfl,rfl,rfl,rfl,rfl,?_,rfl,rfl,rfl,?_,rfl,rfl,rfl,rfl,rfl,?_,rfl,ae⟩ ?_
   .show gC.bg (b9.ax .i64 (((l.drop F).map jB).length:Nat))=_;simp_all
   .show gC.eU _ 17 (((l.take F).map jB).length+1)=gC.eU _ 17 (l.take F++[(⟨o,pw n.al o⟩:oc)]).length;simp_all
   .show gC.dc _ [b9.a8 ((z && l.isEmpty) && false) 17 ((l.take F).map jB++[jB ⟨o,pw n.al o⟩]) (.je 68)]=gC.dc _ [b9.a8 false 17 ((l.take F++[(⟨o,pw n.al o⟩:oc)]).map jB) (.je 68)];simp_all
   rintro ⟨j,d,m⟩ ⟨hj,f,u,s⟩;dsimp only at hj f u s ⊢;refine gk ?_;refine ab (λh=>?_) λh=>?_
   .have t:j<(l.drop F).length:=om;have hg:=pV jB t;have c:qf (l.drop F)[j].gN:=K _ (cV (aI t));have O:=MB false m (l.drop F)[j].gN s.zb (av s.vQ om) c;have i:=s.MY (l.drop F)[j].gN c.Aw;have y:(((l.drop F).take (j+1)).map (·.gN))=(((l.drop F).take j).map (·.gN))++[(l.drop F)[j].gN]:=by grind [List.take_succ_eq_append_getElem]
    have w0:IntKind.i64.wrap ((j:Int)+1)=((j+1:Nat):Int):=by grind [fq]
    have v:(d.map jB).length=d.length:=ap _;generalize hx2:(l.drop F)[j]=a at*;refine cx ?_;refine fz func247 ?_;refine cx ?_;refine ⟨⟨v.symm,ji (by grind) dd⟩,?_⟩
    conv=>whnf
    refine ⟨(j+1,d++[⟨a.gN,pw m a.gN⟩],iF m a.gN),⟨om,?_,by grind,⟨i.zb,av i.vQ om⟩⟩,by grind,rfl,rfl,rfl,rfl,rfl,rfl,rfl,rfl,rfl,rfl,rfl,rfl,?_,rfl,?_,rfl,rfl,rfl,rfl,rfl,?_,rfl,ae⟩
    .show (((l.drop F).take (j+1)).map (·.gN)).foldl _ _=_;rw [y,bX,f];rfl
    .exact ix
    .show gC.eU _ 17 ((d.map jB).length+1)=gC.eU _ 17 (d++[(⟨a.gN,pw m a.gN⟩:oc)]).length;simp_all
    .show gC.dc _ [b9.a8 (false && false) 17 (d.map jB++[jB ⟨a.gN,pw m a.gN⟩]) (.je 68)]=gC.dc _ [b9.a8 false 17 ((d++[(⟨a.gN,pw m a.gN⟩:oc)]).map jB) (.je 68)];simp_all
   .obtain rfl:j=l.length - F:=om;have Y:(l.drop F).take (l.length - F)=l.drop F:=List.take_of_length_le om;rw [Y] at f;have w:(o::(l.drop F).map (·.gN)).foldl tv ⟨⟨z,l.take F⟩,n⟩=⟨⟨false,d⟩,⟨false,m⟩⟩:=f;have D:(l.reverse.take k).foldl BM ⟨U,J⟩=n:=hn.symm;dsimp only;rw [D,w];exact fu
  |true=>
   refine kw ?_;refine fF.kc q rfl ?_
   conv=>whnf
   rw [w2];refine ⟨(k+1, .mS (wZ n.al a.gN a.va)),⟨om,λe he=>?_,?_,by trivial⟩,by grind,rfl,rfl,rfl,rfl,rfl,rfl,rfl,rfl,rfl,rfl,rfl,rfl,?_,rfl,rfl,rfl,rfl,rfl,rfl,rfl,rfl,rfl,trivial⟩
   .grind
   .grind [BM]
   .exact ix
 .have hb:vG o.fa l.reverse=k:=Q2 o.fa l.reverse k om E λh'=>absurd h' om
  rw [hb];have hdo:=MB (n.ie && n.al.isEmpty) n.al o N.zb (av N.vQ om) Q;have p:=N.MY o Q.Aw;have hfk:l.length - k<=l.length:=Nat.sub_le _ _;have hnl:n.al.length<=200000:=av N.vQ om;generalize l.length - k=F at*
  conv=>whnf
  refine ⟨⟨om,om,rfl⟩,?_⟩
  conv=>whnf
  refine fz func247 ?_;refine cx ?_;refine ⟨ji (by grind) dd,?_⟩;refine gI ?_;have P:(l.drop F).length=l.length - F:=aV;have A:((l.map jB).drop F)=(l.drop F).map jB:=jV.symm;have I:((l.map jB).take F)=(l.take F).map jB:=cr.symm;have htl:(l.take F).length=F:=by simp_all
  rw [aC,A,I];refine iE.gY (X:=Nat×List oc×List eF) (λx=>[(.ct 4, .bg (.c8 2 0)),(.ct 6, .bg (.c8 21 0)),(.ct 10, .bg (.c8 28 0)),(.ct 11, .bg (.eW 247 [] [.c8 21 0, .c8 28 0])),(.ct 83, .bg (.a8 (z && l.isEmpty) 17 ((l.drop F).map jB) .dm)),(.ct 84, .bg (.ax .i64 (l.length - F:Nat))),(.ct 85, .bg (.ax .i64 x.1)),
    (.eT 48, .eU 140 17 x.2.1.length),(.ay 2, .dc 27 [.a8 true 1 [] .fW, .a8 true 1 [] .fW]),(.ay 21, .dc 25 [.a8 false 8 (x.2.2.map mD) .dm]),(.ay 28, .dc 24 [.a8 false 17 (x.2.1.map jB) (.je 48)])]) 49
   (λx=>x.1<=l.length - F/\(((l.drop F).take x.1).map (·.gN)).foldl tv (tv ⟨⟨z,l.take F⟩,n⟩ o)=⟨⟨false,x.2.1⟩,⟨false,x.2.2⟩⟩/\x.2.1.length<=F+1+x.1/\AB (200001+x.1) x.2.2) (λx=>l.length - F - x.1) dd (0,l.take F++[⟨o,pw n.al o⟩],iF n.al o) ⟨ar _,rfl,by simp_all,⟨p.zb,av p.vQ om⟩⟩ ⟨rfl,rfl,rfl,rfl,rfl,rfl,rfl,rfl,rfl,rfl,?_,rfl,rfl,rfl,?_,rfl,rfl,rfl,rfl,rfl,?_,rfl,ae⟩ ?_
  .show gC.bg (b9.ax .i64 (((l.drop F).map jB).length:Nat))=_;simp_all
  .show gC.eU _ 17 (((l.take F).map jB).length+1)=gC.eU _ 17 (l.take F++[(⟨o,pw n.al o⟩:oc)]).length;simp_all
  .show gC.dc _ [b9.a8 ((z && l.isEmpty) && false) 17 ((l.take F).map jB++[jB ⟨o,pw n.al o⟩]) (.je 48)]=gC.dc _ [b9.a8 false 17 ((l.take F++[(⟨o,pw n.al o⟩:oc)]).map jB) (.je 48)];simp_all
  rintro ⟨j,d,m⟩ ⟨hj,f,u,s⟩;dsimp only at hj f u s ⊢;refine gk ?_;refine ab (λh=>?_) λh=>?_
  .have t:j<(l.drop F).length:=om;have hg:=pV jB t;have c:qf (l.drop F)[j].gN:=K _ (cV (aI t));have O:=MB false m (l.drop F)[j].gN s.zb (av s.vQ om) c;have i:=s.MY (l.drop F)[j].gN c.Aw;have y:(((l.drop F).take (j+1)).map (·.gN))=(((l.drop F).take j).map (·.gN))++[(l.drop F)[j].gN]:=by grind [List.take_succ_eq_append_getElem]
   have w0:IntKind.i64.wrap ((j:Int)+1)=((j+1:Nat):Int):=by grind [fq]
   have v:(d.map jB).length=d.length:=ap _;generalize hx2:(l.drop F)[j]=a at*;refine cx ?_;refine fz func247 ?_;refine cx ?_;refine ⟨⟨v.symm,ji (by grind) dd⟩,?_⟩
   conv=>whnf
   refine ⟨(j+1,d++[⟨a.gN,pw m a.gN⟩],iF m a.gN),⟨om,?_,by grind,⟨i.zb,av i.vQ om⟩⟩,by grind,rfl,rfl,rfl,rfl,rfl,rfl,rfl,rfl,rfl,rfl,rfl,rfl,?_,rfl,?_,rfl,rfl,rfl,rfl,rfl,?_,rfl,ae⟩
   .show (((l.drop F).take (j+1)).map (·.gN)).foldl _ _=_;rw [y,bX,f];rfl
   .exact ix
   .show gC.eU _ 17 ((d.map jB).length+1)=gC.eU _ 17 (d++[(⟨a.gN,pw m a.gN⟩:oc)]).length;simp_all
   .show gC.dc _ [b9.a8 (false && false) 17 (d.map jB++[jB ⟨a.gN,pw m a.gN⟩]) (.je 48)]=gC.dc _ [b9.a8 false 17 ((d++[(⟨a.gN,pw m a.gN⟩:oc)]).map jB) (.je 48)];simp_all
  .obtain rfl:j=l.length - F:=om;have Y:(l.drop F).take (l.length - F)=l.drop F:=bj om;rw [Y] at f;have w:(o::(l.drop F).map (·.gN)).foldl tv ⟨⟨z,l.take F⟩,n⟩=⟨⟨false,d⟩,⟨false,m⟩⟩:=f;have D:(l.reverse.take k).foldl BM ⟨U,J⟩=n:=hn.symm;dsimp only;rw [D,w];exact fu
end Go.Proofs.YtffboamedcmpaaaGreatDoor
namespace Gw
theorem X1 {l id n} (h:jN l id=some n):o8 l id=true:=by rw [CY,h];rfl
theorem aiK {l} (v:gU l=true) (o):wZ (iF l o) o (pw l o)=l:=by
 by_cases z:lH l o=true
 .obtain ⟨_,_,b⟩:=JC z;have c:=C7 v o;have y:=JB l o;have w:iF l o=l.take (il l o.eO)++[mj ((jN l o.eO).getD (tj o.eO)) o]++l.drop (lB l o.eO):=by grind [iF]
  have s:pw l o=⟨true,o8 l o.eO,(jN l o.eO).getD Js⟩:=by grind [pw]
  have A:=Jr l o.eO;have n:(l.take (il l o.eO)).length=il l o.eO:=by simp_all
  generalize E:mj ((jN l o.eO).getD (tj o.eO)) o=t at*;have p:il (iF l o) o.eO=il l o.eO:=by
   refine (Qi (l:=iF l o) (i:=il l o.eO) ?_ (λk j h=>?_) (λk j h=>?_)).symm
   .simp_all
   .have e:(iF l o)[k]=(l.take (il l o.eO))[k]'om:=by
     simp_all
    rw [e];exact Qr _ (aI _)
   .rcases bu (il l o.eO) k with q|q
    .have D:(iF l o)[il l o.eO]'om=t:=by
      simp_all
     have:=CX c q j;grind
    simp_all
  have r:t∈iF l o:=by rw [w];simp
  have x:jN (iF l o) o.eO=some t:=by grind [tf]
  have u:lB (iF l o) o.eO=il l o.eO+1:=by grind [lB,X1]
  have g:(iF l o).take (il l o.eO)=l.take (il l o.eO):=by simp_all
  have d:(iF l o).drop (il l o.eO+1)=l.drop (lB l o.eO):=by grind [List.drop_left']
  unfold wZ;rw [ak ⟨c,by rw [s]⟩,p,u,g,d,s];simp only;cases f:jN l o.eO with
  |none=>
   have a:o8 l o.eO=false:=by rw [CY,f];rfl
   rw [a,ai (by simp)];have:lB l o.eO=il l o.eO:=by grind [lB]
   simp_all
  |some m=>
   obtain ⟨F,B,H,I⟩:=tg f;have a:=X1 f;rw [a,ak ⟨b,rfl,B⟩];have:lB l o.eO=il l o.eO+1:=by grind [lB]
   rw [this];show l.take (il l o.eO)++[m]++l.drop (il l o.eO+1)=l;grind [List.drop_eq_getElem_cons,List.take_append_drop]
 grind [pw,iF,wZ]
inductive pe:List oc->List eF->Prop
 |AD:pe [] []
 |zd {es:List oc} {l:List eF} (h:pe es l) (o:e7):pe (es++[⟨o,pw l o⟩]) (iF l o)
theorem pe.XZ {es l} (h:pe es l):l=(es.map (·.gN)).foldl iF []:=by
 induction h with
 |AD=>rfl
 |zd h o i=>simp_all
theorem pe.zc {es l} (h:pe es l):gU l=true:=by
 induction h with
 |AD=>rfl
 |zd h o i=>exact C7 i o
theorem pe.aiI {es l} (h:pe es l):l.length<=es.length:=by
 induction h with
 |AD=>exact aq _
 |zd h o i=>
  grind [Wg]
theorem pe.aiH {es e l} (h:pe (es++[e]) l):pe es (wZ l e.gN e.va):=by
 generalize a:es++[e]=E at h;cases h with
 |AD=>simp at a
 |zd h o=>
  grind [List.append_inj',aiK,h.zc]
theorem pe.Q3 {l:List eF}:∀ (b:Nat) {es:List oc} {n:gp eF},pe es n.al->b<=es.length->pe (es.take (es.length - b)) ((es.reverse.take b).foldl BM n).al
 |0,es,n,h,_=>by
  simp_all
 |b+1,es,n,h,a=>by
  rcases List.eq_nil_or_concat es with rfl|⟨es,e,rfl⟩
  .simp at a
  .rw [List.concat_eq_append] at*;rw [au,cQ] at a;have:=pe.Q3 (l:=l) b (n:=BM n e) (pe.aiH h) om;grind
theorem pe.Q4:∀ (l:List e7) {x:li},pe x.fZ.al x.ec.al->pe (l.foldl tv x).fZ.al (l.foldl tv x).ec.al/\(l.foldl tv x).fZ.al.map (·.gN)=x.fZ.al.map (·.gN)++l
 |[],x,h=>⟨h,by simp⟩
 |o::l,x,h=>by
  obtain ⟨a,b⟩:=pe.Q4 l (x:=tv x o) (pe.zd h o);refine ⟨a,?_⟩;rw [bw,b];show ((x.fZ.al++[_]).map _)++l=_;simp_all
theorem X0 (at_ l):vG at_ l<=l.length:=(List.takeWhile_sublist _).length_le
theorem aiJ {g} (h:pe g.fZ.al g.ec.al) (o):pe (jO g o).1.fZ.al (jO g o).1.ec.al/\(∀ p∈(jO g o).1.fZ.al.map (·.gN),p∈g.fZ.al.map (·.gN)\/(p=o/\g4 o=true))/\((jO g o).1.fZ.al.length<=g.fZ.al.length\/((jO g o).1.fZ.al.length=g.fZ.al.length+1/\g.fZ.al.length<200/\(jO g o).2=0)):=by
 unfold jO
 by_cases c:g4 o=false
 .simp_all
 rw [ai c]
 by_cases d:oy g o.fa=true
 .simp_all
 rw [ai d]
 by_cases e:200<=g.fZ.al.length
 .simp_all
 rw [ai e];have a:=X0 o.fa g.fZ.al.reverse;rw [dY] at a;have k:=pe.Q3 (l:=[]) (vG o.fa g.fZ.al.reverse) (n:=g.ec) h a;simp only;generalize vG o.fa g.fZ.al.reverse=b at*;obtain ⟨f,i⟩:=pe.Q4 (o::(g.fZ.al.drop (g.fZ.al.length - b)).map (·.gN)) (x:=⟨⟨g.fZ.ie,g.fZ.al.take (g.fZ.al.length - b)⟩,(g.fZ.al.reverse.take b).foldl BM g.ec⟩) k;grind [List.length_append]
theorem Q6 {o} (h:g4 o=true):o.mI.length<=80/\o.n9.length<=64:=by
 unfold g4 at h;split at h
 .rw [az,az] at h;have a:=h.2.2;unfold wV at a;simp only [az,aM] at a;obtain ⟨_,_,_,d,b⟩:=a;exact ⟨ah7 d,by rw [b];exact ar _⟩
 .split at h
  .rw [az,az] at h;have a:=h.2.2;unfold Ai at a;simp only [az,aM] at a;obtain ⟨_,_,c,_,b⟩:=a;exact ⟨by rw [b];exact ar _,c⟩
  .cases h
structure l8 (g:li):Prop where
 qK:pe g.fZ.al g.ec.al
 zf:g.fZ.al.length<=200
 B1:∀ e∈g.fZ.al,g4 e.gN=true
theorem l8.aiL:l8 WB:=⟨.AD,ar _,λ_ h=>by cases h⟩
theorem l8.Hl {g} (h:l8 g) (o):l8 (jO g o).1:=by
 obtain ⟨d,f,a⟩:=aiJ h.qK o;refine ⟨d,?_,λe l=>?_⟩
 .rcases a with a|⟨a,b,_⟩
  .exact av a h.zf
  .omega
 .rcases f e.gN (aE.2 ⟨e,l,rfl⟩) with b|⟨b,i⟩
  .obtain ⟨c,j,k⟩:=aE.1 b;rw [<-k];exact h.B1 c j
  .rw [b];exact i
theorem aiM {es l} (h:pe es l) (m:∀ e∈es,g4 e.gN=true):∀ n∈l,128<=n.eM/\n.eM<134217856:=by
 induction h with
 |AD=>exact λn b=>by cases b
 |zd h o i=>
  intro n b;rcases Jq b with a|⟨_,_,a⟩
  .exact i (λe c=>m e (bO _ c)) n a
  .rw [a];exact (GH (m _ (cP _ (aw.2 rfl)))).2.2.2.1
theorem l8.ER {g} (h:l8 g):g.ec.al.length<=200:=av h.qK.aiI h.zf
theorem l8.Q5 {g} (h:l8 g):∀ n∈g.ec.al,128<=n.eM/\n.eM<134217856:=aiM h.qK h.B1
end Gw
namespace Go.Proofs.YtffboamedcmpaaaGreatDoor
open Gw
open Go.Am
open Go.Proofs.Tryz Tryz
theorem JW {o:e7} (h:g4 o=true):qf o:=by
 obtain ⟨a,b⟩:=Q6 h;obtain ⟨_,_,_,c,d⟩:=GH h;exact ⟨⟨om,om⟩,⟨om,om⟩,om,om⟩
theorem aiO {g:li} (h:l8 g):AB 100000 g.ec.al:=
 ⟨λn a=>by have:=h.Q5 n a;exact ⟨om,om⟩,av h.ER dd⟩
theorem Q7 {g:li} (h:l8 g) (o:e7) (f:qf o):er prog 215 [yd g,rc o] (.dn [yd (jO g o).1, .ax .i64 (jO g o).2]):=
 aiG g o f (λe a=>JW (h.B1 e a)) (av h.zf dd) (aiO h)
theorem aiP {g:li} (h:l8 g):er prog 225 [yd g] (yd g):=
 XY g (av h.zf dd) (av h.ER dd)
theorem aiN {g:li} (h:l8 g) (n:Bool) (l:List e7) (m:∀ o∈l,qf o) (z:l.length<=100000):er prog 178 [yd g, .a8 n 7 (l.map gV) .dm] (.dn [yd (GU g l).1, .ax .i64 (GU g l).2]):=by
 have b:(l.map gV).length=l.length:=ap _;have u:=aiP h;unfold GU;refine fS func178 ?_;refine cx ?_;refine iE.gY (X:=Nat×li×Nat) (λx=>[(.ct 4, .bg (.c8 1 0)),(.ay 1, .dc 27 [.a8 true 1 [] .fW, .a8 true 1 [] .fW]),(.ct 6, .bg (.c8 4 0)),(.ay 4, .dc 27 (XK x.2.1)),(.ct 7, .bg (.ax .i64 x.2.2)),(.ct 13, .bg (.a8 n 7 (l.map gV) .dm)),(.ct 14, .bg (.ax .i64 l.length)),(.ct 15, .bg (.ax .i64 x.1))]) 5
  (λx=>x.1<=l.length/\l8 x.2.1/\x.2.2<=x.1/\(l.take x.1).foldl (λx o=>((jO x.1 o).1,if (jO x.1 o).2≠0 then x.2+1 else x.2)) (g,(0:Int))=(x.2.1,(x.2.2:Int))) (λx=>l.length - x.1) dd (0,g,0) ⟨ar _,h,aq _,rfl⟩ ⟨rfl,rfl,rfl,rfl,rfl,rfl,rfl,rfl,rfl,rfl,rfl,rfl,?_,af⟩ ?_
 .show gC.bg (b9.ax .i64 ((l.map gV).length:Nat))=_;rw [b]
 rintro ⟨k,x,c⟩ ⟨p,d,j,f⟩;dsimp only at p d j f ⊢;refine gk ?_;refine ab (λh=>?_) λh=>?_
 .have t:k<l.length:=om;have w:=pV gV t;have i:=Q7 d l[k] (m _ (aI t));have a:=d.Hl l[k];have v:l.take (k+1)=l.take k++[l[k]]:=aD t;have A:IntKind.i64.wrap ((k:Int)+1)=((k+1:Nat):Int):=by grind [fq]
  have B:IntKind.i64.wrap ((c:Int)+1)=((c+1:Nat):Int):=by grind [fq]
  generalize l[k]=o at*;refine cx ?_;have s:(l.take (k+1)).foldl (λx o=>((jO x.1 o).1,if (jO x.1 o).2≠0 then x.2+1 else x.2)) (g,(0:Int))=((jO x o).1,if (jO x o).2≠0 then (c:Int)+1 else c):=by simp_all
  generalize jO x o=r at*;obtain ⟨y,e⟩:=r;dsimp only at s a ⊢
  conv=>whnf
  refine ⟨λh=>?_,λh=>?_⟩
  .have h:¬e=0:=by simpa using h
   rw [ak h] at s
   conv=>whnf
   refine ⟨(k+1,y,c+1),⟨om,a,by simp_all,s⟩,by grind,rfl,rfl,rfl,rfl,rfl,rfl,rfl,rfl,?_,rfl,rfl,rfl,rfl,rfl,?_,rfl,ae⟩
   .exact ix
   .exact ix
  .have h:e=0:=by simpa using h
   rw [ai (λq=>q h)] at s
   conv=>whnf
   refine ⟨(k+1,y,c),⟨om,a,by grind,s⟩,by grind,rfl,rfl,rfl,rfl,rfl,rfl,rfl,rfl,rfl,rfl,rfl,rfl,rfl,rfl,?_,rfl,ae⟩;exact ix
 .obtain rfl:k=l.length:=om;rw [aN] at f;rw [f];exact fu
def aiQ:uo->b9
 | .pR=> .gm 376 (.eN [])
 | .nf c=> .gm 380 (.eN [.ax .i64 c.gD, .cp c.fR, .cp c.kE, .cp c.lS, .ax .i64 c.g7])
 | .ml s=> .gm 378 (.eN [gE 1 nk s])
theorem Q8 (c:fG) (hp:c.fR.length<=1048576):er prog 197 [yc c] (aiQ (jd c)):=by
 obtain ⟨k,p,o,d,n⟩:=c;have x:=G5 p hp;unfold jd Ar GR;dsimp only
 by_cases i:k=4
 .subst i;rw [ak rfl];refine ic func197 ?_;refine gI ?_;refine ⟨λh=>?_,λh=>?_⟩
  .have h:¬n=0:=by simpa using h
   rw [ai h]
   conv=>whnf
   exact .ou (oQ (cs:=[]) rfl)
  .have h:n=0:=by simpa using h
   rw [ak h];refine gI ?_;cases hp:kV p with
   |none=>
    refine gI ?_;exact .ou (oQ (cs:=[.a8 true 1 [] .fW]) rfl)
   |some l=>
    cases l with
    |nil=>
     refine gI ?_;exact .ou (oQ (cs:=[.a8 true 1 [] .dm]) rfl)
    |cons a r=>
     have e:(k8 (a::r)).length=r.length+1:=by rw [Ay];rfl
     have b:r.length+1<=16:=by grind [y7]
     have t:(k8 (a::r)).take r.length=((a::r).dropLast).map nk:=by rw [cn];show ((a::r).map _).take _=_;rw [<-cr];rfl
     have w:IntKind.i64.wrap (((k8 (a::r)).length:Int) - 1)=(r.length:Int):=by grind [fq]
     refine gI ?_;refine ⟨λ_=>?_,λh=>absurd (ag h) (by rw [e];omega)⟩
     conv=>whnf
     rw [w];refine gI ?_;rw [aC,t];exact .ou (oQ (cs:=[.a8 false 1 (((a::r).dropLast).map nk) .dm]) rfl)
 rw [ai i]
 by_cases j:k=7
 .subst j;rw [ak rfl];refine ic func197 ?_;refine gI ?_;refine ⟨λh=>?_,λh=>?_⟩
  .have h:¬n=0:=by simpa using h
   rw [ai h]
   conv=>whnf
   exact .ou (oQ (cs:=[]) rfl)
  .have h:n=0:=by simpa using h
   rw [ak h];refine gI ?_;cases hp:kV p with
   |none=>
    refine gI ?_;exact .ou (oQ (cs:=[.a8 true 1 [] .fW]) rfl)
   |some l=>
    cases l with
    |nil=>
     refine gI ?_;exact .ou (oQ (cs:=[.a8 true 1 [] .dm]) rfl)
    |cons a r=>
     have e:(k8 (a::r)).length=r.length+1:=by rw [Ay];rfl
     have b:r.length+1<=16:=by grind [y7]
     have t:(k8 (a::r)).take r.length=((a::r).dropLast).map nk:=by rw [cn];show ((a::r).map _).take _=_;rw [<-cr];rfl
     have w:IntKind.i64.wrap (((k8 (a::r)).length:Int) - 1)=(r.length:Int):=by grind [fq]
     refine gI ?_;exact .ou (oQ (cs:=[.a8 false 1 (k8 (a::r)) .dm]) rfl)
 rw [ai j]
 by_cases m:k=1
 .subst m;rw [ak (.inl rfl)];refine ic func197 ?_;refine gI ?_;cases hp:kV p with
  |none=>
   refine gI ?_;exact .ou (oQ (cs:=[.a8 true 1 [] .fW]) rfl)
  |some l=>
   cases l with
   |nil=>
    refine gI ?_;exact .ou (oQ (cs:=[.a8 true 1 [] .dm]) rfl)
   |cons a r=>
    have e:(k8 (a::r)).length=r.length+1:=by rw [Ay];rfl
    have b:r.length+1<=16:=by grind [y7]
    have t:(k8 (a::r)).take r.length=((a::r).dropLast).map nk:=by rw [cn];show ((a::r).map _).take _=_;rw [<-cr];rfl
    have w:IntKind.i64.wrap (((k8 (a::r)).length:Int) - 1)=(r.length:Int):=by grind [fq]
    refine gI ?_;refine ⟨λ_=>?_,λh=>absurd (ag h) (by rw [e];omega)⟩
    conv=>whnf
    rw [w];refine gI ?_;rw [aC,t];exact .ou (oQ (cs:=[.a8 false 1 (((a::r).dropLast).map nk) .dm]) rfl)
 by_cases q:k=2
 .subst q;rw [ak (.inr (.inl rfl))];refine ic func197 ?_;refine gI ?_;cases hp:kV p with
  |none=>
   refine gI ?_;exact .ou (oQ (cs:=[.a8 true 1 [] .fW]) rfl)
  |some l=>
   cases l with
   |nil=>
    refine gI ?_;exact .ou (oQ (cs:=[.a8 true 1 [] .dm]) rfl)
   |cons a r=>
    have e:(k8 (a::r)).length=r.length+1:=by rw [Ay];rfl
    have b:r.length+1<=16:=by grind [y7]
    have t:(k8 (a::r)).take r.length=((a::r).dropLast).map nk:=by rw [cn];show ((a::r).map _).take _=_;rw [<-cr];rfl
    have w:IntKind.i64.wrap (((k8 (a::r)).length:Int) - 1)=(r.length:Int):=by grind [fq]
    refine gI ?_;refine ⟨λ_=>?_,λh=>absurd (ag h) (by rw [e];omega)⟩
    conv=>whnf
    rw [w];refine gI ?_;rw [aC,t];exact .ou (oQ (cs:=[.a8 false 1 (((a::r).dropLast).map nk) .dm]) rfl)
 by_cases s:k=3
 .subst s;rw [ak (.inr (.inr (.inl rfl)))];refine ic func197 ?_;refine gI ?_;cases hp:kV p with
  |none=>
   refine gI ?_;exact .ou (oQ (cs:=[.a8 true 1 [] .fW]) rfl)
  |some l=>
   cases l with
   |nil=>
    refine gI ?_;exact .ou (oQ (cs:=[.a8 true 1 [] .dm]) rfl)
   |cons a r=>
    have e:(k8 (a::r)).length=r.length+1:=by rw [Ay];rfl
    have b:r.length+1<=16:=by grind [y7]
    have t:(k8 (a::r)).take r.length=((a::r).dropLast).map nk:=by rw [cn];show ((a::r).map _).take _=_;rw [<-cr];rfl
    have w:IntKind.i64.wrap (((k8 (a::r)).length:Int) - 1)=(r.length:Int):=by grind [fq]
    refine gI ?_;refine ⟨λ_=>?_,λh=>absurd (ag h) (by rw [e];omega)⟩
    conv=>whnf
    rw [w];refine gI ?_;rw [aC,t];exact .ou (oQ (cs:=[.a8 false 1 (((a::r).dropLast).map nk) .dm]) rfl)
 by_cases f:k=10
 .subst f;rw [ak (.inr (.inr (.inr rfl)))];refine ic func197 ?_;refine gI ?_;cases hp:kV p with
  |none=>
   refine gI ?_;exact .ou (oQ (cs:=[.a8 true 1 [] .fW]) rfl)
  |some l=>
   cases l with
   |nil=>
    refine gI ?_;exact .ou (oQ (cs:=[.a8 true 1 [] .dm]) rfl)
   |cons a r=>
    have e:(k8 (a::r)).length=r.length+1:=by rw [Ay];rfl
    have b:r.length+1<=16:=by grind [y7]
    have t:(k8 (a::r)).take r.length=((a::r).dropLast).map nk:=by rw [cn];show ((a::r).map _).take _=_;rw [<-cr];rfl
    have w:IntKind.i64.wrap (((k8 (a::r)).length:Int) - 1)=(r.length:Int):=by grind [fq]
    refine gI ?_;exact .ou (oQ (cs:=[.a8 false 1 (k8 (a::r)) .dm]) rfl)
 rw [ai om]
 by_cases u:k=5
 .subst u;rw [ak (.inl rfl)];refine ic func197 ?_;refine gI ?_;exact .ou (oQ (cs:=[.ax .i64 5, .cp p, .cp o, .cp d, .ax .i64 n]) rfl)
 by_cases v:k=6
 .subst v;rw [ak (.inr (.inl rfl))];refine ic func197 ?_;refine gI ?_;exact .ou (oQ (cs:=[.ax .i64 6, .cp p, .cp o, .cp d, .ax .i64 n]) rfl)
 by_cases g:k=13
 .subst g;rw [ak (.inr (.inr rfl))];refine ic func197 ?_;refine gI ?_;exact .ou (oQ (cs:=[.ax .i64 13, .cp p, .cp o, .cp d, .ax .i64 n]) rfl)
 rw [ai om];refine ic func197 ?_
 conv=>whnf
 refine ⟨λh=>absurd (show k=4 by simpa using h) i,λ_=>?_⟩
 conv=>whnf
 refine ⟨λh=>absurd (show k=7 by simpa using h) j,λ_=>?_⟩
 conv=>whnf
 refine ⟨λh=>absurd (show k=1 by simpa using h) m,λ_=>?_⟩
 conv=>whnf
 refine ⟨λh=>absurd (show k=2 by simpa using h) q,λ_=>?_⟩
 conv=>whnf
 refine ⟨λh=>absurd (show k=3 by simpa using h) s,λ_=>?_⟩
 conv=>whnf
 refine ⟨λh=>absurd (show k=10 by simpa using h) f,λ_=>?_⟩
 conv=>whnf
 refine ⟨λh=>absurd (show k=5 by simpa using h) u,λ_=>?_⟩
 conv=>whnf
 refine ⟨λh=>absurd (show k=6 by simpa using h) v,λ_=>?_⟩
 conv=>whnf
 refine ⟨λh=>absurd (show k=13 by simpa using h) g,λ_=>?_⟩
 conv=>whnf
 exact .ou (oQ (cs:=[]) rfl)
theorem aiT (c:fG) (hp:c.fR.length<=1048576):er prog 294 [yc c] (.eD (rH c)):=by
 have h:=Q8 c hp;unfold rH;generalize jd c=w at*;refine fS func294 ?_;refine cx ?_;cases w with
 |pR=>
  exact jf
 |nf c=>
  exact jf
 |ml s=>
  conv=>whnf
theorem aiS (t:ft) (a:t.fA.al.length<=1048576) (b:t.gu.nS.al.length<=1048576) (c:t.gu.qH.al.length<=1048576):er prog 293 [y9 t] (y9 t):=by
 have d:=ain t.fA.gg (t.fA.al.map l7) (λh=>by rw [gp.Af h];rfl) (by rw [ap];exact a);have e:=MW t.gu.nS.gg (t.gu.nS.al.map nk) (λh=>by rw [gp.Af h];rfl) (by rw [ap];exact b);have f:=QX t.gu.qH.gg (t.gu.qH.al.map kL) (λh=>by rw [gp.Af h];rfl) (by rw [ap];exact c);refine fS func293 ?_;exact fu
theorem aiR (t:ft) (h:t.fA.al.length<=1048576) (a:t.gu.nS.al.length<=1048576) (b:t.gu.qH.al.length<=1048576):er prog 275 [y9 t] (y9 (kY t)):=by
 have o:=aiS t h a b;refine ic func275 ?_;exact fu
end Go.Proofs.YtffboamedcmpaaaGreatDoor
namespace Go.Am
open Go.RowKit
section
variable {P:Program} {T:iw} {σ:eK} {o:Oper} {n:Nat} {K:b9->eK->Nat->Prop}
theorem aiU (w t tx ty e i z) (D:P.underlying t=some (.slice e)) {ik} (E:P.underlying tx=some (.int ik)) (g:P.info? e=some i) (F:i.zero=some z) (ad ik2) (m:Nat) (c:0<m) (p:0<i.size)
  (J:m<=140737488355328) (y:m*i.bytes<=140737488355328):
  (Builtin.append_ #[t,tx] ty #[.slice ad 0 0, .int ik2 (m:Int)]).run P w= .ok (.slice (some ⟨w.heap.size,0,none⟩) m (grownCap w m 0 e))
   (w.drew.alloc (.cells ((Builtin.zeroCells z.cells m).toList++(Builtin.zeroCells z.cells (grownCap w m 0 e - m)).toList).toArray e)):=by
 have r:IntKind.i64.wrap (m:Int)=m:=fq om om;have B:¬((m:Int)<0):=om;have k:¬((m:Int)*(i.bytes:Int)>281474976710656):=om;have j:¬(m<=0):=om;have d:¬(281474976710656<Builtin.nextslicecap m 0*i.bytes):=by have:=growslice_fits (need:=m) (old:=0) (bytes:=i.bytes) c y;omega
 have s:¬(m*i.size=0):=by have:=Nat.mul_pos c p;omega
 have q:(sizeOf e).run P w= .ok i.size w:=by simp [sizeOf,typeInfo,g]
 have b:∀ a,(typeInfo e).run P a= .ok i a:=λa=>by simp [typeInfo,g]
 have u:∀ a,(zeroValue e).run P a= .ok z a:=λa=>by simp [zeroValue,typeInfo,g,F]
 have f:(asInt (.int ik2 (m:Int))).run P w= .ok (m:Int) w:=rfl;have x:¬(((m:Nat):Int)>IntKind.i64.max/\(True\/i.bytes=0)):=λh=>by
  have:(m:Int)>9223372036854775807:=h.1;omega
 have H:0+(IntKind.i64.wrap (m:Int)).toNat=m:=by rw [r];omega
 have l:∀ a,(Builtin.firstCells i.size 0 (.slice ad 0 0)).run P a= .ok #[] a:=λa=>by
  exact FU P (w:=a) (vs:=[]) (by simp) (λc=>absurd c (by simp)) a rfl
 unfold Builtin.append_;simp only [dt,cZ,List.getElem?_cons_succ,Sem.run_bind,run_underlying D,run_underlying E,Result.andThen_ok,pure_bind,q,du,f,r,ai B,b];rw [ai (show ¬((m:Int)*(i.bytes:Int)>2^48) from k)];simp only [aC,bZ,ai j,Sem.run_bind,b,Result.andThen_ok,ai x];rw [ai (show ¬(Builtin.nextslicecap m 0*i.bytes>2^48) from d)];simp [Question.forced,l,u,s,newRow,grownCap];rw [b];simp only [Result.andThen_ok];congr 3;simp_all
theorem qu.arw (hT:jc P T) {t tx e L} (hop:o.op= .call L) (hcal:L.callee= .builtin .append) (hat:L.argTypes=#[t,tx]) {s x} (S:L.args=#[s,x]) {n0 b0 z0} (hr:hU T t=some ⟨.jn e,n0,b0,z0⟩) {ik} (hx:P.underlying tx=some (.int ik))
  {r} (he:hU T e=some r) {isNil sz} (hs:eR σ s= .a8 isNil sz [] .fW) {ik2} (m:Nat) (hm:eR σ x= .ax ik2 (m:Int)) (h0:0<m) (h1:m<=140737488355328) (h2:m*r.Bd<=140737488355328) (d:0<r.eV) (hzp:pr r.nZ=true)
  (hK:K (.eP n 0 r.eV m true) (fc σ (.ay n) (.eY e (jM m (mB r.nZ)))) (n+1)):qu P o σ n K:=by
 refine ⟨λb g a w h D=>?_⟩;have E:=D s (by grind [Op.operands,Call.operands]);have A:=D x (by grind [Op.operands,Call.operands]);rw [hs] at E;rw [hm] at A;obtain ⟨ad,c,ev,_,U⟩:=E.nq;have U:c=0:=U;subst U;have ex:a.eval x= .int ik2 (m:Int):=by
  generalize a.eval x=u at A;cases A with|fJ h=>cases h;rfl
 obtain ⟨i,v,q1,q2,q3,q3',q4,q5,q6,_⟩:=xB.ud hT he;have q:=(hT t _ hr).1;simp only at q;have hrun:=aiU (P:=P) w t tx o.type e i v q hx q1 q2 ad ik2 m h0 (by rw [q3];exact d) h1 (by rw [q3'];exact h2);have J:(execOp a.eval o).run P w= .ok (.value (.slice (some ⟨w.heap.size,0,none⟩) m (grownCap w m 0 e))) (w.drew.alloc (.cells ((Builtin.zeroCells v.cells m).toList++(Builtin.zeroCells v.cells (grownCap w m 0 e - m)).toList).toArray e)):=by
  obtain ⟨dst,op,ty,pos,N,O⟩:=o;grind [xK,builtin,Sem.run_bind,Result.andThen_ok,Sem.run_pure]
 have W:=grownCap_ge w m 0 e;generalize grownCap w m 0 e=p at J W;have Y:=LB v.cells m r.eV q4;have Z:=LB v.cells (p - m) r.eV q4;have hall:((Builtin.zeroCells v.cells m).toList++(Builtin.zeroCells v.cells (p - m)).toList).length=p*r.eV:=by
  rw [au,Y,Z,<-cl];congr 1;omega
 obtain ⟨Q,e0⟩:=h.ub (w':=w.drew) ((Below.refl _ w).drew);have l:r.nZ.length=r.eV:=q5;have X:(jM m (mB r.nZ)).length=m*r.eV:=by rw [wK,wI,l]
 obtain ⟨R,e1⟩:=Q.K9 (f:=n) (h.sh).1 (t:=e) (cells:=jM m (mB r.nZ)) (arr:=(Builtin.zeroCells v.cells m).toList++(Builtin.zeroCells v.cells (p - m)).toList) (z:=(0,0)) (by grind) (λo _ ho=>by omega) (λj y u hy hu=>by
  have hj:j<(jM m (mB r.nZ)).length:=(aB.1 hy).1;rw [X] at hj;rw [aS om] at hu;obtain ⟨I,_⟩:=IM _ _ _ _ hy;have hmod:j % r.eV<r.eV:=jU _ d;have B:j % r.eV<v.cells.size:=om;have F:(Builtin.zeroCells v.cells m)[j]? =some u:=by simpa using hu
  simp only [Builtin.zeroCells,q4,ek,dP,hj,ak,bz,aG] at F;rw [<-F,getElem!_pos v.cells (j % r.eV) B];rw [wI,l] at I;obtain ⟨y0,H,rfl⟩:=wH I;have e9:v.cells.toList[j % r.eV]? =some (v.cells[j % r.eV]):=by simp [B]
  exact (xH (xG hzp _ _ H) (q6 w.drew g _ _ _ H e9)).ka λk o hk=>⟨hk,rfl⟩)
 refine ⟨_,_,_,_,_,n+1,_,J, .inl rfl,hK,aZ n,?_,R.mQ (λi hi=>by omega),e0.lF e1⟩;refine .oV (gX.qR _ _ _) (λ_=>rfl) rfl om (λ_=>⟨rfl,rfl,e,?_⟩);unfold World.shape?;rw [heap_alloc_new w.drew _];simp_all
theorem qu.arx {t e} (z:P.underlying t=some (.slice e)) {f} (p:o.op= .call f) (l:f.callee= .builtin .cap) (j:f.argTypes[0]? =some t) {x} (r:f.args=#[x])
  {isNil sz els} (A:eR σ x= .a8 isNil sz els .fW) (y:K (.ax .i64 els.length) σ (n+1)):qu P o σ n K:=by
 refine ⟨λb g a w h m=>?_⟩;have d:=m x (by grind [Op.operands,Call.operands]);rw [A] at d;obtain ⟨D,c,v,_,k⟩:=d.nq;have k:c=els.length:=k;subst k;have q:(execOp a.eval o).run P w= .ok (.value (.int .i64 (els.length:Int))) w:=by
  obtain ⟨s,E,F,B,i,u⟩:=o;simp only at p;subst p;refine xK l ?_;simp only [builtin,r,List.map_toArray,bp,cJ,Builtin.cap_,j,v,dt,cZ,Sem.run_bind,run_underlying z,Result.andThen_ok,Sem.run_pure,goInt]
 exact ⟨_,_,w,_,σ,n+1,g,q, .inl rfl,y,aZ n, .fJ (.kS _ _),h.uV (aZ n),iN.uO _ _⟩
theorem qu.ary (k:jc P T) {t e:TypeId} {x hi:Operand} (p:o.op= .slice t x none (some hi) none) {n0 b0:Nat} {z0:List b9} (v:hU T t=some ⟨.jn e,n0,b0,z0⟩) {r:xB} (he:hU T e=some r)
  {isNil:Bool} {sz:Nat} (hx:eR σ x= .a8 isNil sz [] .fW) {A:IntKind} {h:Int} (hh:eR σ hi= .ax A h) (h0:h=0) (hK:K (.a8 isNil sz [] .fW) σ (n+1)):qu P o σ n K:=by
 refine ⟨λb g a w s i=>?_⟩;subst h0;have d:=i x (by simp [p,Op.operands]);have z:=i hi (by simp [p,Op.operands]);rw [hx] at d;obtain ⟨l,c,ev,_,j⟩:=d.nq;have j:c=0:=j;subst j;have e1:mh σ none=some none:=rfl;have e2:mh σ (some hi)=some (some 0):=by simp [mh,hh]
 have hb:=FZ (P:=P) (w:=w) (g:=g) (a:=a) (σ:=σ) (isS:=true) (aq 0) e1 e2 (m:=none) (mx:=none) rfl (λy hy=>by
  simp_all) (by simp) (λm hm=>by cases hm) (λm hm=>by cases hm;omega)
 have f:=(k t _ v).1;simp only at f;have u:(execOp a.eval o).run P w= .ok (.value (.slice l 0 0)) w:=by
  obtain ⟨dst,op,B,pos,after,guard⟩:=o;simp only at p;subst p;simp only [ia] at hb
  replace hb:(Instr.sliceBounds true 0 0 ((none:Option Operand).map a.eval) ((some hi:Option Operand).map a.eval) ((none:Option Operand).map a.eval)).run P w= .ok (0,0,0) w:=hb
  generalize (some hi:Option Operand)=q at hb ⊢;simp only [bV] at hb;simp only [bV,execOp,Instr.sliceAt,Sem.run_bind,run_underlying f,Result.andThen_ok,Instr.slice,ev,cv,hb,Bk k he,Sem.run_pure,du,dT]
 rw [ev] at d;exact ⟨_,_,w,_,σ,n+1,g,u, .inl rfl,hK,aZ n,d,s.uV (aZ n),iN.uO _ _⟩
theorem fl.Ra {b:jL P} {D:Nat->Prop} {g:gX} {w:World} {σ':eK} (h:fl b σ D g w) (d:∀ id,σ' (.ay id)=σ (.ay id)) (e:∀ id t sz N,σ' (.eT id)= .eU t sz N->σ (.eT id)= .eU t sz N):fl b σ' D g w:=by
 refine fl.qs h.jF h.lv h.pq h.oE h.pI h.oF h.ko h.mc (λid l=>h.iR id (by simp_all)) (λid c l a=>by rw [d];exact h.po a)
  (λi j k q r=>h.np i j k (by simp_all) (by simp_all)) (λid Y c s a=>h.pJ id Y c (by simp_all) a) (λid t sz N s=>?_)
 obtain ⟨p,f,m⟩:=h.ln id t sz N (e id t sz N s);grind
theorem iE.X3 {r:Option Nat} {nt lo n:Nat} {c:Code} {K:Exit->eK->Nat->Prop} (s id:Nat) {sz len:Nat} {bt:TypeId} {cells:List b9} (els:List (List b9)) (W:s<nt) (hs:σ (.ct s)= .bg (.eP id 0 sz len true)) (E:σ (.ay id)= .eY bt cells) (m:cells=els.flatten) (A:els.length=len)
  (R:∀ el∈els,el.length=sz) (U:kT els.flatten=true) (h:iE P r nt lo c (fc (fc σ (.ay id) .fB) (.ct s) (.bg (.a8 false sz els .dm))) (n+1) K):iE P r nt lo c σ n K:=by
 refine ⟨λb t a w u D=>h.nM b t a w u ?_⟩;obtain ⟨g,p,F,hE,hn⟩:=D;have l:=F.oW s W;unfold jx at l;rw [hs] at l;simp only at l;obtain ⟨k,cap,ad,I,ev,p3,p4,p5,p6⟩:=l.qS;obtain ⟨_,rfl,tt,H⟩:=p6 rfl;subst m A;obtain ⟨k',l1,l2,l3,l4⟩:=p.iR id (by rw [E];rfl);rw [I] at l1;cases l1;obtain ⟨J,z,m1,m2,m3,m4⟩:=p.sY id bt els.flatten k E I;have O:J.length=cap*sz:=by
  grind [World.shape?]
 have B:∀ d,((fc σ (.ay id) .fB) (.ay d)).jb=true->g.fk d≠some k:=λd u Z=>by
  by_cases y:d=id
  .subst y;rw [lX] at u;cases u
  .rw [g9 (by simp_all)] at u;exact y (p.np d id k u (by rw [E];rfl) Z I)
 have q:∀ d t sz N Y,d≠n->(fc σ (.ay id) .fB) (.eT d)= .eU t sz N->g.gF d≠some (some k,Y):=λd t sz N Y _ f Z=>by
  rw [g9 (by intro e;cases e)] at f;obtain ⟨L,b1,b2⟩:=p.ln d t sz N f;have Q:L=some k:=by simp_all
  exact (b2 k Q).2.2.2.1 id (by rw [E];rfl) I
 obtain ⟨k1,k2,k3⟩:=(p.Un id).DT (id:=n) (c:=k) (sz:=sz) (N:=els.length) (cap:=cap) (t:=bt) (z:=z) (els:=els) rfl (λL M hM=>by grind [p.sh]) (.inr l4) l2 l3 (λo ho=>absurd ho (l4 o)) B q m1 m3 O p5 R
  (λj x v hx hv=>xF (.fJ (m4 j x v hx hv)) (CG U j x hx)) m4
 have k4:=k1.xy (.eT n);refine ⟨_,?_,⟨F.qU,F.sg,λi hi=>?_⟩,hE.lF k2,om⟩
 .refine (k4.Ra (σ':=fc (fc σ (.ay id) .fB) (.ct s) (.bg (.a8 false sz els .dm))) (λi=>?_) (λi t' X N f=>?_)).mQ (λi hi=>by omega)
  .trivial
  .rw [g9 (by intro e;cases e)] at f;have hin:i≠n:=λe=>by
    subst e;rw [g9 (by intro e;cases e)] at f;obtain ⟨L,b1,_⟩:=p.ln i t' X N f;grind [p.sh]
   rw [g9 (by simp_all),g9 (by simp_all)];exact f
 .by_cases S:i=s
  .subst S;rw [Gx,ev];exact .m7 (by grind [k3.nq]) trivial
  .rw [Ac (by grind),Ac (by intro e;cases e)];exact (F.oW i hi).oU k2
theorem fl.X5 {b:jL P} {D:Nat->Prop} {g:gX} {w:World} (h:fl b σ D g w) (v:b9):fl b (fc σ (.eT 1) (.bg v)) D g w:=
 h.Ra (λi=>g9 (by intro e;cases e)) (λi t z N s=>by
  grind [lX,g9])
theorem iE.arz {r:Option Nat} {nt l n:Nat} {c:Code} {K:Exit->eK->Nat->Prop} (v:b9) (h:iE P r nt l c (fc σ (.eT 1) (.bg v)) n K):iE P r nt l c σ n K:=
 ⟨λb t a w e s=>h.nM b t a w e (by
  obtain ⟨g,d,f,E,j⟩:=s;exact ⟨g,d.X5 v,f.uU (λi=>by trivial),E,j⟩)⟩
theorem fF.arv {f:FuncId} {args:List b9} (u:b9) (h:fF P f args (fc σ (.eT 1) (.bg u)) n (λv σ' c=>K v (fc σ' (.eT 1) .fB) c)):fF P f args σ n K:=
 ⟨h.wL,λb g w a s p q=>(h.vC b g w a (s.X5 u) p q).mono λ_ _ ⟨v,x,_,c,m,e,d,i,j,k,l⟩=>⟨v,x,_,c,m,e,d,i,j,k.xy _,l⟩⟩
theorem iE.arA {r nt l n c K} (v) (h:iE P r nt l c (fc σ (.eT 0) (.bg v)) n K):iE P r nt l c σ n K:=
 ⟨λb t a w e s=>h.nM b t a w e (by
  obtain ⟨g,d,f,E,j⟩:=s;exact ⟨g,d.PJ v,f.uU (λi=>by trivial),E,j⟩)⟩
theorem qx.X6 {f l z} (h:fF P f [] (eJ []) 0 (gP 0 (λx e=>x= .wR l z/\e=[]))):qx P 0 f [] σ n [] [(.ay n, .iD (.jq l z))] (.gi n):=by
 refine ⟨h.wL,λσ' _ b D g w q _ a p hf2 I hv=>?_⟩;have hi:=fl.Uo w g.fP a.DS a.lv [];have H:fl (jL.A5 w g.fP a.DS a.lv) (eJ []) (·<0) ⟨g.fP,λ_=>none,λ_=>none⟩ w:=hi.xx (λ_=>rfl) (λ_=>rfl);have J:q=[]:=aR I;subst J;refine (h.vC _ _ w [] H rfl (λi x v hx=>by simp at hx)).mono ?_;rintro ed O ⟨v,x,σ1,n1,Q,rfl,d,hn,r,s,hE⟩;obtain ⟨y,Z,⟨rfl,rfl⟩,hro,u,hw⟩:=d;obtain ⟨k,q1,rfl,S⟩:=u;obtain ⟨c,U,rfl⟩:=r.Bb;obtain ⟨c',R,l2,l3,l4⟩:=s.iR k (by rw [S];rfl);rw [U] at R;cases R;have hob:=s.xz k (.jq l z) c S U;have j:Below w.heap.size w O:=s.jF.Oy (λ_ h=>h);have m:w.drawn<=O.drawn:=hE.yz;have F:∀ k o,g.fP k o->Q.fP k o:=λk o d=>s.pq k o d
 have B:∀ k o,Q.fP k o->g.fP k o\/(w.heap.size<=k/\k<O.heap.size):=λk o d=>by
  rcases bu k w.heap.size with A|A
  .exact .inl (s.oE k o d A (λh=>h))
  .exact .inr ⟨A,s.lv k o d⟩
 have k1:=a.CA j m F B;have Y:=a.A7 j m F;have E:w.heap.size<=c:=l2.resolve_right (λh=>h);have k2:=k1.K8 (f:=n) (c:=c) (X:= .iD (.jq l z)) p rfl (.inl (av a.jF.pZ E)) l3 l4 (λL hl hc=>?_) (λL t sz N W hs' hr=>?_) ?_
 .exact ⟨_,_,rfl, .uc (gX.qR _ _ _),k2,Y.lF (iN.Iv p)⟩
 .have:=a.ko L c hc;omega
 .have:=a.mc L c W hr;omega
 trivial
theorem iE.Q9 {r nt L n c K} (k j e sz) {bt isNil z cells cells'} (hs:σ (.ay k)= .dc bt cells) (I:cells[j]? =some (.a8 isNil z [] .fW)) (hc:cells.set j (.a8 isNil sz [] (.hJ n))=cells')
  (h:iE P r nt L c (fc (fc σ (.eT n) (.eU e sz 0)) (.ay k) (.dc bt cells')) (n+1) K):iE P r nt L c σ n K:=by
 subst hc;refine ⟨λb tp a w R s=>?_⟩;obtain ⟨g,F,y,Z,hn⟩:=s;obtain ⟨S,E⟩:=F.FE (t:=e) (sz:=sz) (N:=0) F.sh.2;have p:fl b (fc σ (.eT n) (.eU e sz 0)) (·<n+1) (g.p7 n 0) w:=S.mQ (λi H=>by omega);have d:(fc σ (.eT n) (.eU e sz 0)) (.ay k)= .dc bt cells:=by trivial
 obtain ⟨D,f,_⟩:=p.iR k (by rw [d];rfl);obtain ⟨m,q,ha2,u⟩:=p.sc k bt _ D d f;have l:(g.p7 n 0).gF n=some (none,0):=by simp [gX.p7]
 obtain ⟨U,_⟩:=p.ot (X:= .dc bt (cells.set j (.a8 isNil sz [] (.hJ n)))) (by rw [d];rfl) f (oH.By D w) (λ_=>⟨m,q,by simp_all,λi x v J hv=>by
  by_cases A:i=j
  .subst A;have B:i<cells.length:=(aB.1 I).1;rw [di B] at J;cases J;have hr:=u i _ v I hv;obtain ⟨ad,O,rfl,W,Y⟩:=hr.nq;exact .m7 ((mR.kd isNil z sz).ue _ _ _ W) ⟨none,0,l,aq _,λ_=> .inl ⟨Y,rfl⟩⟩
  grind⟩)
 refine h.nM b tp a w R ⟨_,U,⟨y.qU,y.sg,λi H=>?_⟩,Z.lF E,om⟩;have Q:jx (fc (fc σ (.eT n) (.eU e sz 0)) (.ay k) (.dc bt (cells.set j (.a8 isNil sz [] (.hJ n))))) i=jx σ i:=by
  trivial
 rw [Q];exact (y.oW i H).oU E
theorem fl.X4 {b:jL P} {g:gX} {w:World} (f:fl b σ (·<n) g w) (id:Nat) {sz len:Nat} {bt:TypeId} (els:List (List b9)) (B:σ (.ay id)= .eY bt els.flatten) (p:els.length=len)
  (Q:∀ el∈els,el.length=sz) (R:kT els.flatten=true) {E:Value} (l:eH w g (.eP id 0 sz len true) E):
  ∃ g',fl b (fc σ (.ay id) .fB) (·<n+1) g' w/\iN g w g' w/\g'.fk=g.fk/\∀ E,eH w g (.eP id 0 sz len true) E->eH w g' (.a8 false sz els .dm) E:=by
 obtain ⟨k,a,ad,A,ev,p3,p4,U,p6⟩:=l.qS;obtain ⟨_,rfl,F,h⟩:=p6 rfl;subst p;obtain ⟨k',l1,l2,l3,l4⟩:=f.iR id (by rw [B];rfl);rw [A] at l1;cases l1;obtain ⟨H,z,m1,m2,m3,m4⟩:=f.sY id bt els.flatten k B A;have L:∀ {a:Nat} {F:TypeId},w.shape? k=some (F,a*sz)->H.length=a*sz:=λh=>by
  grind [World.shape?]
 have q:∀ d,((fc σ (.ay id) .fB) (.ay d)).jb=true->g.fk d≠some k:=λd D Z=>by
  by_cases m:d=id
  .subst m;rw [lX] at D;cases D
  .rw [g9 (by simp_all)] at D;exact m (f.np d id k D (by rw [B];rfl) Z A)
 have r:∀ d t sz N X,d≠n->(fc σ (.ay id) .fB) (.eT d)= .eU t sz N->g.gF d≠some (some k,X):=λd t sz N X _ s Z=>by
  rw [g9 (by intro e;cases e)] at s;obtain ⟨I,b1,b2⟩:=f.ln d t sz N s;have O:I=some k:=by simp_all
  exact (b2 k O).2.2.2.1 id (by rw [B];rfl) A
 have y:∀ {a:Nat} {F:TypeId},w.shape? k=some (F,a*sz)->els.length<=a->fl b (fc (fc σ (.ay id) .fB) (.eT n) (.eU bt sz els.length)) (λi=>i<n\/i=n) (g.uP n k els.length sz) w/\iN g w (g.uP n k els.length sz) w/\eH w (g.uP n k els.length sz) (.a8 false sz els (.hJ n)) (.slice (some ⟨k,0,none⟩) els.length a):=λh U=>
  (f.Un id).DT (id:=n) (c:=k) (sz:=sz) (N:=els.length) (t:=bt) (z:=z) (els:=els) rfl (λI M hM=>by grind [f.sh]) (.inr l4) l2 l3 (λo ho=>absurd ho (l4 o)) q r m1 m3 (L h) U Q
   (λj x v hx hv=>xF (.fJ (m4 j x v hx hv)) (CG R j x hx)) m4
 obtain ⟨k1,k2,k3⟩:=y h U;have k4:=k1.xy (.eT n);refine ⟨g.uP n k els.length sz,(k4.Ra (σ':=fc σ (.ay id) .fB) (λi=>?_) (λi t' W N s=>?_)).mQ (λi hi=>by omega),k2,rfl,λsv' S=>?_⟩
 .trivial
 .have hin:i≠n:=λe=>by
   subst e;rw [g9 (by intro e;cases e)] at s;obtain ⟨I,b1,_⟩:=f.ln i t' W N s;grind [f.sh]
  rw [g9 (by simp_all),g9 (by simp_all)];exact s
 .obtain ⟨k',Y,ad',r1,J,r3,r4,r5,r6⟩:=S.qS;rw [A] at r1;cases r1;obtain ⟨_,rfl,tt',u⟩:=r6 rfl;obtain ⟨_,_,u3⟩:=y u r5;rw [J];obtain ⟨_,_,e,h1,_⟩:=u3.nq;cases e;exact .m7 h1 trivial
theorem fl.M0 {b:jL P} {D:Nat->Prop} {g:gX} {w:World} (f:fl b σ D g w) {k:Nat} {bt:TypeId} {cells cells':List b9} (s:σ (.ay k)= .dc bt cells) (l:cells'.length=cells.length)
  (r:∀ (i:Nat) (x:b9) (v:Value),cells'[i]? =some x->(∀ y,cells[i]? =some y->eH w g y v)->eH w g x v):fl b (fc σ (.ay k) (.dc bt cells')) D g w:=by
 obtain ⟨j,h,_⟩:=f.iR k (by rw [s];rfl);obtain ⟨a,c,d,e⟩:=f.sc k bt _ j s h;exact (f.ot (X:= .dc bt cells') (by rw [s];rfl) h (oH.By j w) (λ_=>⟨a,c,by rw [l];exact d,λi x v p m=>r i x v p λy q=>e i y v q m⟩)).1
theorem fF.X2 {f args} (k) (h:fF P f args σ n (λv σ' c=>∃ bt cells,σ' (.ay k)= .dc bt cells/\K v (fc σ' (.ay k) (.dc bt (mB cells))) c)):fF P f args σ n K:=
 ⟨h.wL,λb g w a t s u=>(h.vC b g w a t s u).mono λ_ _ ⟨v,x,σ',c,r,d,⟨bt,cells,j,e⟩,l,m,p,q⟩=>⟨v,x,_,c,r,d,e,l,m,p.M0 j (wI _) (λi x v y z=>by
  grind [wH,UX]),q⟩⟩
theorem fF.MZ {f:FuncId} {args:List b9} (k j id:Nat) (h:fF P f args σ n (λv σ' D=>∃ bt cells J els sz l,σ' (.ay k)= .dc bt cells/\cells[j]? =some (.eP id 0 sz l true)/\σ' (.ay id)= .eY J els.flatten/\els.length=l/\(∀ S∈els,S.length=sz)/\kT els.flatten=true/\
  K v (fc (fc σ' (.ay id) .fB) (.ay k) (.dc bt (cells.set j (.a8 false sz els .dm)))) (D+1))):fF P f args σ n K:=by
 refine ⟨h.wL,λb g w s hs hl hv=>(h.vC b g w s hs hl hv).mono ?_⟩;rintro _ w' ⟨v,x,σ',D,g',O,⟨bt,cells,J,els,sz,l,L,N,q3,q4,q5,q6,q7⟩,e3,Q,d,R⟩;obtain ⟨E,r,_⟩:=d.iR k (by rw [L];rfl);obtain ⟨a,p,W,c⟩:=d.sc k bt _ E L r;have Y:j<cells.length:=(aB.1 N).1;have B:a[j]? =some a[j]:=aj om;obtain ⟨U,H,m,h3,h4⟩:=d.X4 id els q3 q4 q5 q6 (c j _ _ N B);have Z:k≠id:=λe=>by simp_all
 have q:(fc σ' (.ay id) .fB) (.ay k)= .dc bt cells:=by grind [g9]
 obtain ⟨F,t,_⟩:=H.iR k (by rw [q];rfl);have z:F=E:=by simp_all
 subst z;refine ⟨v,x,_,D+1,U,O,q7,om,Q.oU m,?_,R.lF m⟩;refine (H.ot (X:= .dc bt (cells.set j (.a8 false sz els .dm))) (by rw [q];rfl) t (oH.By F w') (λ_=>⟨a,p,by simp_all,λi y u I hu=>?_⟩)).1
 by_cases A:i=j
 .grind
 .rw [List.getElem?_set_ne (λe=>A e.symm)] at I;exact (c i y u I hu).oU m
theorem fF.rh {f:FuncId} {args:List b9} (k:Nat) (h:fF P f args σ n (λv σ' j=>∃ bt cells cells',σ' (.ay k)= .dc bt cells/\pr cells=true/\qV (mB cells) cells'/\K v (fc σ' (.ay k) (.dc bt cells')) j)):fF P f args σ n K:=
 ⟨h.wL,λb g w l E D F=>(h.vC b g w l E D F).mono λ_ _ ⟨v,x,σ',j,B,q,⟨bt,cells,cells',r,p,e,c⟩,t,u,z,A⟩=>⟨v,x,_,j,B,q,c,t,u,z.M0 r (by rw [<-e.zY,wI]) (λi x v H I=>by
  have m:i<(mB cells).length:=by grind [e.zY]
  obtain ⟨y,a,d⟩:=wH (aj m);have s:=e.Ge i _ x (aj m) H;rw [d] at s;exact .fJ (s.ue _ _ _ (xH (xG p i y a) (I y a)))),A⟩⟩
end
end Go.Am
namespace Go.Proofs.YtffboamedcmpaaaGreatDoor
open Go.ChangeShapes Go.WideShapes Go.ChangeAt Go.RowKit Go.Am
open Go.Proofs.Tryz Tryz
def B2 (W:World):Nat->Nat->Prop:=λk _=>k<W.heap.size
theorem aiW {f:FuncId} {args:List b9} {vals:List Value} {W:World} (d:sX prog W) (h:er prog f args (.eD true)) (l:vals.length=args.length) (j:∀ (i:Nat) (x:b9) (v:Value),args[i]? =some x->vals[i]? =some v->gb W (B2 W) x v):
  Calls prog f vals.toArray W λe w'=>e= .returned (.bool true)/\Below W.heap.size W w':=by
 refine (h.LI W (B2 W) vals d (λk o g=>g) l j).mono λe w' ⟨v,F,a,b,_,_,c⟩=>⟨?_,b.1⟩
 cases c;exact a
theorem aiX {W:World} {F:Nat->Nat->Prop} {k:IntKind} {n:Int}:gb W F (.ax k n) (.int k n):= .kS k n
theorem aiY {W:World} {F:Nat->Nat->Prop}:∀ (i:Nat) (x:b9) (v:Value),([]:List b9)[i]? =some x->([]:List Value)[i]? =some v->gb W F x v:=λi x v h=>by simp at h
theorem Rb {W:World} {F:Nat->Nat->Prop} {x:b9} {v:Value} {l:List b9} {m:List Value} (h:gb W F x v) (c:∀ (i:Nat) (x:b9) (v:Value),l[i]? =some x->m[i]? =some v->gb W F x v):
  ∀ (i:Nat) (y:b9) (u:Value),(x::l)[i]? =some y->(v::m)[i]? =some u->gb W F y u
 |0,y,u,a,b=>by simp_all
 |i+1,y,u,a,b=>c i y u (by simpa using a) (by simpa using b)
theorem X7 (b o i:Nat):(⟨b,o,none⟩:Addr).add i=⟨b,o+i,none⟩:=by grind [Addr.add]
theorem aiV {α H:Type} {enc:TypeId×Value->H} {W:World} {E:Nat} {t e:TypeId} {v:Value} {x:DataW H×List MemPlace} (ht:prog.underlying t=some (.slice e)) {sz:Nat} (hC:prog.cellsOf e=sz) (hsz:0<sz) (g:α->List b9) (Q:α->Prop)
  (T:∀ (n:Nat) (cs:List Value) (y:DataW H×List MemPlace),cs.length=sz->DataW.trod enc prog W 0 (λ_=>true) true n e cs=some y->∃ a,Q a/\(g a).length=sz/\∀ (j:Nat) (x:b9) (c:Value),(g a)[j]? =some x->cs[j]? =some c->gb W (B2 W) x c/\c.oneCell'=true)
  (hf:DataW.trod enc prog W 0 (λ_=>true) true E t [v]=some x):
  ∃ (isNil:Bool) (l:List α),gb W (B2 W) (.a8 isNil sz (l.map g) .dm) v/\(isNil=true->l=[])/\l.length<=maxLen/\∀ a∈l,Q a:=by
 rcases Go.Deep.open_slice ht hf with ⟨u,_⟩|⟨a,d,B,m,n,D,Pl,u,_,hle,hm,Z,_,q⟩
 .obtain rfl:v= .slice none 0 0:=by simpa using u
  exact ⟨true,[], .mG (els:=[]) (λ_ _=>undef) rfl (aq _) (by simp) (λi g j x h=>by simp at h) (λi g j x h=>by simp at h) (λi g j x h=>by simp at h),λ_=>rfl,by simp [maxLen],by simp⟩
 .obtain rfl:v= .slice (some a) d B:=by simpa using u
  obtain rfl:m=B:=by simpa using Z
  rcases cT d with rfl|o
  .exact ⟨false,[], .mG (els:=[]) (λ_ _=>undef) rfl (ar _) (by simp) (λi g j x h=>by simp at h) (λi g j x h=>by simp at h) (λi g j x h=>by simp at h),λ_=>rfl,by simp [maxLen],by simp⟩
  have N:∀ i,i<d->∃ p:α×List Value,Q p.1/\(g p.1).length=sz/\p.2.length=sz/\(∀ (j:Nat) (x:b9) (c:Value),(g p.1)[j]? =some x->p.2[j]? =some c->gb W (B2 W) x c/\c.oneCell'=true)/\∀ j,j<sz->W.cell? ((a.add (i*sz)).add j)=p.2[j]?:=by
   intro i X;obtain ⟨cs,s,htr⟩:=q i om;rw [hC] at s;obtain ⟨_,K,S⟩:=World.cells?_some s;obtain ⟨b,q1,q2,q3⟩:=T n cs _ K htr;exact ⟨(b,cs),q1,q2,K,q3,S⟩
  obtain ⟨p0,_⟩:=N 0 o;have U:∀ i,∃ p:α×List Value,i<d->Q p.1/\(g p.1).length=sz/\p.2.length=sz/\(∀ (j:Nat) (x:b9) (c:Value),(g p.1)[j]? =some x->p.2[j]? =some c->gb W (B2 W) x c/\c.oneCell'=true)/\∀ j,j<sz->W.cell? ((a.add (i*sz)).add j)=p.2[j]?:=λi=>by
   by_cases X:i<d
   .obtain ⟨p,hp⟩:=N i X;grind
   grind
  obtain ⟨f,hfn⟩:=Classical.skolem.1 U;have J:∀ (i:Nat) (r:List b9),(((List.range d).map λi=>(f i).1).map g)[i]? =some r->i<d/\r=g (f i).1:=λi r h=>by
   grind
  have I:∀ (i j:Nat),i<d->j<sz->∃ c,(f i).2[j]? =some c/\W.cell? ((a.add (i*sz)).add j)=some c:=λi j X hj=>by
   grind
  obtain ⟨c0,_,R⟩:=I 0 0 o hsz;obtain ⟨A,k,O⟩:=a;have z:O=none:=by simpa [Addr.add] using World.cell?_spot R
  subst z;refine ⟨false,(List.range d).map λi=>(f i).1,?_,(λh=>by cases h),by simp;omega,λb hb=>?_⟩
  .have L:(((List.range d).map λi=>(f i).1).map g).length=d:=by simp
   have:=gb.mG (w:=W) (F:=B2 W) (isNil:=false) (sz:=sz) (els:=((List.range d).map λi=>(f i).1).map g) (ad:=some ⟨A,k,none⟩) (c:=m) (λi j=>(f i).2.getD j undef) rfl om (λr P=>by
     grind) (λi r j x P hx=>by
     obtain ⟨Y,rfl⟩:=J i r P;have hj:j<sz:=by grind
     obtain ⟨c,h1,h2⟩:=I i j Y hj;rw [X7,X7] at h2;exact ⟨A,k,rfl,adD h2,by grind⟩) (λi r j x P hx=>by
     grind) (λi r j x P hx=>by
     grind)
   rwa [L] at this
  grind
open Go.Am
theorem ai0:∀ {a b:List b9},kT a=true->kT b=true->kT (a++b)=true
 |[],_,_,h=>h
 |x::a,b,c,e=>by
  simp only [kT] at c;show kT (x::(a++b))=true;simp only [kT];cases d:Bh x with
  |false=>rw [d] at c;cases c
  |true=>rw [d] at c;exact ai0 c e
def M1 (x y:Nat):Nat->Nat
 |0=>0
 |1=>x
 |_=>x+y
def arE (sz:Nat):Nat->Nat
 |0=>1
 |_+1=>sz
def ES (z:List b9) (a b:List (List b9)):Nat->List b9
 |0=>jM (a.length+b.length) z
 |1=>a.flatten++jM b.length z
 |_=>a.flatten++b.flatten
theorem ai1 (n m:Nat) (z:List b9):jM (n+m) z=jM n z++jM m z:=by
 unfold jM;rw [<-dX,List.replicate_append_replicate]
theorem arB {sz:Nat} {z:List b9} (c:z.length=sz) {a b:List (List b9)} (h:∀ e∈a,e.length=sz) (d:∀ e∈b,e.length=sz) (k:Nat):(ES z a b k).length=(a.length+b.length)*sz:=by
 match k with
 |0=>show (jM _ z).length=_;rw [wK,c]
 |1=>show (a.flatten++jM b.length z).length=_;rw [au,wK,c,pK sz a h,cl]
 |_+2=>show (a.flatten++b.flatten).length=_;rw [au,pK sz a h,pK sz b d,cl]
theorem arC {sz:Nat} {z:List b9} (h:z.length=sz) {a b:List (List b9)}:(ES z a b 0).take (M1 a.length b.length 0*sz)++a.flatten++(ES z a b 0).drop ((M1 a.length b.length 0+a.length)*sz)=ES z a b 1:=by
 show (jM (a.length+b.length) z).take (0*sz)++a.flatten++(jM (a.length+b.length) z).drop ((0+a.length)*sz)=a.flatten++jM b.length z;rw [Nat.zero_mul,List.take_zero,bE,bZ,ai1,cB (by rw [wK,h];exact aq _),bM (by rw [wK,h];exact aq _),bE]
theorem arD {sz:Nat} {z:List b9} (d:z.length=sz) {a b:List (List b9)} (c:∀ e∈a,e.length=sz):(ES z a b 1).take (M1 a.length b.length 1*sz)++b.flatten++(ES z a b 1).drop ((M1 a.length b.length 1+b.length)*sz)=ES z a b 2:=by
 show (a.flatten++jM b.length z).take (a.length*sz)++b.flatten++(a.flatten++jM b.length z).drop ((a.length+b.length)*sz)=a.flatten++b.flatten;have h:=pK sz a c;rw [<-h,cg rfl,bM (by rw [au,wK,d,h,cl];exact aq _),aH]
theorem X8 {p:Prop} {f g:FuncId} {fn gn:Func} (hf:prog.funcs[f]? =some fn) (hg:prog.funcs[g]? =some gn) {t e n0 b0:Nat} {z0 zZ:List b9} {ti:FQ} (ht:hU xW t=some ⟨.jn e,n0,b0,z0⟩) {sz bB:Nat} (he:hU xW e=some ⟨ti,sz,bB,zZ⟩) (c:prog.funcs[f]? =some fn->prog.funcs[g]? =some gn->hU xW t=some ⟨.jn e,n0,b0,z0⟩->hU xW e=some ⟨ti,sz,bB,zZ⟩->p:=by
 intro hf hg ht he;revert ht he;show hU xW ?tT=some ⟨.jn ?eE,?n0,?b0,?z0⟩->hU xW ?eE=some ⟨?ti,?sz,?bB,?zZ⟩->_;intro ht he;have w0:IntKind.i64.wrap (((M1 a.length b.length 0:Nat):Int)+(a.length:Int))=((M1 a.length b.length 1:Nat):Int):=by show IntKind.i64.wrap (((0:Nat):Int)+_)=(a.length:Int);rw [fq om om];omega
 have w1:IntKind.i64.wrap (((M1 a.length b.length 1:Nat):Int)+(b.length:Int))=((M1 a.length b.length 2:Nat):Int):=by show IntKind.i64.wrap ((a.length:Int)+_)=((a.length+b.length:Nat):Int);rw [fq om om];omega
 have s1:M1 a.length b.length 1=a.length:=rfl;have s2:M1 a.length b.length 2=a.length+b.length:=rfl;have n1:¬(((M1 a.length b.length 1:Nat):Int)<0):=om;have n2:¬(((M1 a.length b.length 2:Nat):Int)<0):=om;refine ic hf ?_
 conv=>whnf
 refine iE.gY (λk:Nat=>[(.ct 0, .bg (.a8 false 1 [[.a8 q1 ?sz a .dm],[.a8 q2 ?sz b .dm]] .dm)),(.ct 3, .bg (.ax .i64 (M1 a.length b.length k:Nat))),(.ct 9, .bg (.a8 false 1 [[.a8 q1 ?sz a .dm],[.a8 q2 ?sz b .dm]] .dm)),(.ct 10, .bg (.ax .i64 2)),(.ct 11, .bg (.ax .i64 k))]) 5
  (λk=>k<=2) (λk=>2 - k) dd 0 (Nat.zero_le _) ⟨rfl,rfl,rfl,rfl,rfl,rfl,rfl,rfl,rfl,rfl,trivial⟩ ?_
 intro k hk;refine gk ?_;refine ⟨λh=>?_,λh=>?_⟩
 .have h:=of_decide_eq_true h;have hlt:k<2:=om;rcases (by omega:k=0\/k=1) with rfl|rfl
  .conv=>whnf
   refine ⟨_,⟨om,rfl⟩,?_⟩
   conv=>whnf
   rw [w0];refine kD n1 ?_
   conv=>whnf
   exact ⟨1,om,dd,rfl,rfl,rfl,rfl,rfl,rfl,rfl,rfl,rfl,rfl,trivial⟩
  .conv=>whnf
   refine ⟨_,⟨om,rfl⟩,?_⟩
   conv=>whnf
   rw [w1];refine kD n2 ?_
   conv=>whnf
   exact ⟨2,om,dd,rfl,rfl,rfl,rfl,rfl,rfl,rfl,rfl,rfl,rfl,trivial⟩
 .have h:=of_decide_eq_false h;have h2:k=2:=om;subst h2;have w3:IntKind.i64.wrap (((M1 a.length b.length 2:Nat):Int) - IntKind.i64.wrap ((([]:List (List b9)).length:Int) - (([]:List (List b9)).length:Int)))=((M1 a.length b.length 2:Nat):Int):=by
   rw [show IntKind.i64.wrap ((([]:List (List b9)).length:Int) - (([]:List (List b9)).length:Int))=0 from dd,fq om om];omega
  conv=>whnf
  refine fF.arv .fU ?_;refine fz hg ?_
  conv=>whnf
  refine kD n2 ?_
  conv=>whnf
  refine qu.arx (t:=?tT) (e:=?eE) eI rfl rfl rfl rfl rfl ?_
  conv=>whnf
  rw [w3];refine ⟨λh=>?_,λh=>?_⟩
  .have h:=of_decide_eq_true h
   conv=>whnf
   refine qu.arx (t:=?tT) (e:=?eE) eI rfl rfl rfl rfl rfl ?_
   conv=>whnf
   refine qu.ary jy (t:=?tT) (e:=?eE) rfl rfl rfl rfl rfl rfl ?_
   conv=>whnf
   refine qu.arw jy (t:=?tT) (tx:=3) (e:=?eE) (ik:= .i64) (ik2:= .i64) rfl rfl rfl rfl rfl eI rfl rfl (M1 a.length b.length 2) rfl om om (by show _*?bB<=_;omega) dd eI ?_
   conv=>whnf
   refine ⟨⟨by show (0:Int)<=0;decide,Nat.zero_le _⟩,?_⟩
   conv=>whnf
   refine iE.arz .ga ?_;refine iE.gY (λk:Nat=>[(.eT 1, .bg .ga),(.ct 0, .bg (.a8 false 1 [[.a8 q1 ?sz a .dm],[.a8 q2 ?sz b .dm]] .dm)),(.ct 6, .bg (.eP 25 0 ?sz (M1 a.length b.length k) true)),(.ay 25, .eY ?eE (ES ?zZ a b k)),(.ct 25, .bg (.a8 false 1 [[.a8 q1 ?sz a .dm],[.a8 q2 ?sz b .dm]] .dm)),(.ct 26, .bg (.ax .i64 2)),(.ct 27, .bg (.ax .i64 k))]) 26
    (λk=>k<=2) (λk=>2 - k) dd 0 (Nat.zero_le _) ⟨rfl,rfl,rfl,rfl,rfl,rfl,rfl,rfl,rfl,rfl,rfl,rfl,rfl,rfl,trivial⟩ ?_
   intro k hk;refine gk ?_;refine ⟨λh=>?_,λh=>?_⟩
   .have h:=of_decide_eq_true h;rcases (by omega:k=0\/k=1) with rfl|rfl
    .conv=>whnf
     refine ⟨_,⟨om,rfl⟩,?_⟩
     conv=>whnf
     refine ⟨⟨by rw [arB (sz:=?sz) rfl ha hb];show (0+a.length)*?sz<=_;omega,dd⟩,?_⟩;have hm:=arC (sz:=?sz) (z:=?zZ) (a:=a) (b:=b) rfl
     conv=>whnf
     refine ⟨1,om,dd,rfl,rfl,rfl,rfl,?_,rfl,?_,rfl,rfl,rfl,rfl,rfl,rfl,rfl,trivial⟩
     .show gC.bg (b9.eP 25 0 ?sz (0+a.length) true)=gC.bg (b9.eP 25 0 ?sz a.length true);rw [Nat.zero_add]
     .exact congrArg (gC.eY _) hm
    .conv=>whnf
     refine ⟨_,⟨om,rfl⟩,?_⟩
     conv=>whnf
     refine ⟨⟨by rw [arB (sz:=?sz) rfl ha hb];show (a.length+b.length)*?sz<=_;omega,dd⟩,?_⟩;have hm:=arD (sz:=?sz) (z:=?zZ) (b:=b) rfl ha
     conv=>whnf
     refine ⟨2,om,dd,rfl,rfl,rfl,rfl,rfl,rfl,?_,rfl,rfl,rfl,rfl,rfl,rfl,rfl,trivial⟩
     .exact congrArg (gC.eY _) hm
   .have h':=of_decide_eq_false h;have h2:k=2:=om;subst h2;have hne:(a++b).isEmpty=false:=by
     cases hab:a++b with
     |nil=>
          have:(a++b).length=0:=by rw [hab];rfl
          rw [List.length_append] at this;omega
     |cons=>rfl
    rw [hne]
    conv=>whnf
    refine .CJ (t:=?eE) (cells:=ES ?zZ a b 2) rfl (by rw [List.length_append];rfl) (λe he=>by rcases List.mem_append.1 he with h|h;exact ha e h;exact hb e h) ?_ ?_ ?_
    .rw [arB (sz:=?sz) rfl ha hb];show 0+(a.length+b.length)*?sz<=_;omega
    .rw [List.drop_zero,show M1 a.length b.length 2*?sz=(ES ?zZ a b 2).length from (arB (sz:=?sz) rfl ha hb 2).symm,List.take_length,List.flatten_append];rfl
    .rw [List.flatten_append];exact ai0 oa ob
  .have h:=of_decide_eq_false h;have ea:a=[]:=List.eq_nil_of_length_eq_zero om;have eb:b=[]:=List.eq_nil_of_length_eq_zero om;subst ea eb
   conv=>whnf
   refine iE.arA .fU ?_;refine iE.gY (λk:Nat=>[(.eT 0, .bg .fU),(.ct 0, .bg (.a8 false 1 [[.a8 q1 ?sz [] .dm],[.a8 q2 ?sz [] .dm]] .dm)),(.ct 6, .bg (.a8 true (arE ?sz k) [] .fW)),(.ct 25, .bg (.a8 false 1 [[.a8 q1 ?sz [] .dm],[.a8 q2 ?sz [] .dm]] .dm)),(.ct 26, .bg (.ax .i64 2)),(.ct 27, .bg (.ax .i64 k))]) 5
    (λk=>k<=2) (λk=>2 - k) dd 0 (Nat.zero_le _) ⟨rfl,rfl,rfl,rfl,rfl,rfl,rfl,rfl,rfl,rfl,rfl,rfl,trivial⟩ ?_
   intro k hk;refine gk ?_;refine ⟨λh=>?_,λh=>?_⟩
   .have h:=of_decide_eq_true h;rcases (by omega:k=0\/k=1) with rfl|rfl
    .conv=>whnf
     refine ⟨_,⟨om,rfl⟩,?_⟩
     conv=>whnf
     refine ⟨rfl,?_⟩
     conv=>whnf
     first|refine ⟨rfl,?_⟩|skip
     conv=>whnf
     exact ⟨1,om,dd,rfl,rfl,rfl,rfl,rfl,rfl,rfl,rfl,rfl,rfl,rfl,rfl,trivial⟩
    .conv=>whnf
     refine ⟨_,⟨om,rfl⟩,?_⟩
     conv=>whnf
     refine ⟨rfl,?_⟩
     conv=>whnf
     exact ⟨2,om,dd,rfl,rfl,rfl,rfl,rfl,rfl,rfl,rfl,rfl,rfl,rfl,rfl,trivial⟩
   .have h:=of_decide_eq_false h;have h2:k=2:=om;subst h2;exact fu):p:=c hf hg ht he
theorem Rc (q1 q2:Bool) (a b:List (List b9)) (ha:∀ e∈a,e.length=1) (hb:∀ e∈b,e.length=1) (oa:kT a.flatten=true) (ob:kT b.flatten=true) (hl:a.length+b.length<=1048576):
  er prog 339 [(.a8 false 1 [[.a8 q1 1 a .dm],[.a8 q2 1 b .dm]] .dm)] (.a8 (a++b).isEmpty 1 (a++b) .dm):=X8 func339 func340 (t:=57) (e:=3) rfl rfl
theorem aiZ (q1 q2:Bool) (a b:List (List b9)) (ha:∀ e∈a,e.length=7) (hb:∀ e∈b,e.length=7) (oa:kT a.flatten=true) (ob:kT b.flatten=true) (hl:a.length+b.length<=1048576):
  er prog 236 [(.a8 false 1 [[.a8 q1 7 a .dm],[.a8 q2 7 b .dm]] .dm)] (.a8 (a++b).isEmpty 7 (a++b) .dm):=X8 func236 func271 (t:=39) (e:=130) rfl rfl
end Go.Proofs.YtffboamedcmpaaaGreatDoor
