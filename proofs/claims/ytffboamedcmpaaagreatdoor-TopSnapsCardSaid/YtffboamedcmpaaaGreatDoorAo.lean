import Derived.Test.YtffboamedcmpaaaGreatDoorAn
set_option linter.all false
set_option maxHeartbeats 4000000
set_option maxRecDepth 100000
namespace Go.Am
open Go.RowKit
section
variable {P:Program} {T:iw} {b:jL P} {t:se} {σ:eK} {D:Nat->Prop} {g:gX} {a:Act} {w:World}
def B5 (es:List (fQ×gC)):b9->Bool
 | .c8 b _=>es.any λx=>match x.1 with| .ay i=>Nat.beq b i|_=>false
 | .eP b _ _ _ _=>es.any λx=>match x.1 with| .ay i=>Nat.beq b i|_=>false
 | .a8 _ _ _ .dm=>true
 | .a8 _ _ _ .fW=>true
 | .ax _ _=>true
 | .eD _=>true
 | .fU=>true
 | .fD=>true
 | .cp _=>true
 | .fY=>true
 |_=>false
def Rq (es:List (fQ×gC)):b9->Bool
 | .eN c=>c.all (B5 es)
 |v=>B5 es v
theorem akh {es:List (fQ×gC)} {v:b9} (h:B5 es v=true):Rq es v=true:=by
 cases v<;>first|exact h|cases h
def B4 (es:List (fQ×gC)):List (fQ×gC)->Bool
 |[]=>true
 |(_, .dc _ cells)::l=>cells.all (B5 es) && B4 es l
 |_::l=>B4 es l
theorem eH.akg {es:List (fQ×gC)} {g':gX} {x:b9} {v:Value} (F:g'.fP=g.fP) (c:B5 es x=true) (h:eH w g x v) (o:∀ b,(es.any λx=>match x.1 with| .ay i=>Nat.beq b i|_=>false)=true->g'.fk b=g.fk b):eH w g' x v:=by
 cases h with
 |fJ h=>exact .fJ (by rw [F];exact h)
 |rr h=>exact .rr (by rw [o _ c];exact h)
 |oV h d s hl f=>exact .oV (by rw [o _ c];exact h) d s hl f
 | @m7 _ _ _ k _ _ _ h e=>
  refine .m7 (by rw [F];exact h) ?_;cases k with
  |dm=>trivial
  |fW=>exact e
  |je id=>cases c
  |hJ id=>cases c
 |_=>cases c
theorem YT {es:List (fQ×gC)}:∀ {l:List (fQ×gC)},B4 es l=true->∀ k t cells,(k,gC.dc t cells)∈l->cells.all (B5 es)=true
 |[],_,k,t,cells,h=>by cases h
 |(d,X)::l,i,k,t,cells,h=>by
  rcases aK.1 h with h|h
  .grind [B4]
  .have c:B4 es l=true:=by cases X<;>simp_all [B4]
   exact YT c k t cells h
theorem Rr:∀ {es:List (fQ×gC)},xV es=true->∀ x∈es,(∃ t cs,x.2= .dc t cs)\/∃ t cs,x.2= .eY t cs
 |[],_,x,h=>by cases h
 |(l,c)::es,hp,x,h=>by
  unfold xV at hp;split at hp
  .trivial
  .rename_i e;cases e;rw [az] at hp;rcases aK.1 h with h|h
   .simp_all
   .exact Rr hp.2 x h
  .rename_i e;cases e;rw [az] at hp;rcases aK.1 h with h|h
   .simp_all
   .exact Rr hp.2 x h
  .cases hp
theorem YU:∀ {es:List (fQ×gC)} {l:fQ},eJ es l≠ .fB->(l,eJ es l)∈es
 |[],l,h=>absurd rfl h
 |(l',c)::es,l,h=>by
  by_cases e:l=l'
  .subst e;rw [eJ,lX];simp_all
  .rw [eJ,g9 e] at h ⊢;exact aQ _ (YU h)
theorem qP.akf {es es':List (fQ×gC)} {g':gX} {c id:Nat} (h:qP w g c (eJ es' (.ay id))) (hp:xV es'=true) (p:B4 es es'=true) (F:g'.fP=g.fP) (s:∀ {x:b9} {v:Value},B5 es x=true->eH w g x v->eH w g' x v):qP w g' c (eJ es' (.ay id)):=by
 by_cases n:eJ es' (.ay id)= .fB
 .rw [n];trivial
 have m:=YU n;rcases Rr hp _ m with ⟨t,e,d⟩|⟨t,e,d⟩
 .have d:eJ es' (.ay id)= .dc t e:=d;rw [d] at h ⊢;obtain ⟨r,k,l,o⟩:=h;have q:=YT p (.ay id) t e (by simp_all);exact ⟨r,k,l,λi x v f j=>s (bi.1 q x (bh f)) (o i x v f j)⟩
 .have d:eJ es' (.ay id)= .eY t e:=d;rw [d] at h ⊢;obtain ⟨r,z,k,l,o,u⟩:=h;exact ⟨r,z,k,l,o,λi x v f j=>by grind⟩
open Classical in
theorem qx.YS {f:FuncId} {args:List b9} {m n:Nat} {es es':List (fQ×gC)} {res:b9} (hw0:oJ σ m es) (hpl:xV es=true) (hpl':xV es'=true) (hsame:es'.map (·.1)=es.map (·.1)) (hargs:sn m args=true) (hin:B4 es es'=true) (hinr:Rq es res=true)
  (h:fF P f args (eJ es) m (gP m (λx e=>x= .gO res/\e=es'))):qx P 0 f args σ n (es.map (·.1)) es' res:=by
 refine ⟨h.wL,λA hag0 b D g w vals hlow s hfr1 hfr2 hvl hv=>?_⟩;obtain ⟨pl1,pl2,pl3,pl4⟩:=PU hpl;obtain ⟨pm1,pm2,pm3,pm4⟩:=PU hpl';have hag:∀ l,l∈es.map (·.1)->A l=σ l:=λl r=>by
  grind
 have hiff:∀ l,eJ es' l= .fB↔eJ es l= .fB:=λl=>by
  grind [Ji]
 have u:∀ d c,(g.kH m).fk d=some c->g.fk d=some c/\d<m:=λd c p=>by
  grind [gX.kH]
 have O:∀ d c,(g.kH m).gF d=some c->g.gF d=some c/\d<m:=λd c p=>by
  grind [gX.kH]
 have ownc:∀ d,d<m->(g.kH m).fk d=g.fk d:=λd h=>by simp [gX.kH,h]
 have rowc:∀ d,d<m->(g.kH m).gF d=g.gF d:=λd h=>by simp [gX.kH,h]
 have hb:∀ d,eJ es (.ay d)≠ .fB->eJ es (.ay d)=A (.ay d)/\d<m/\yM m (A (.ay d))=true:=λd H=>by
  have hq:=hag (.ay d) (Ji H);rcases hw0.xJ (.ay d) with B|⟨B,F,J⟩
  .exact absurd B H
  .rw [hq];exact ⟨B,ki F,J⟩
 have hrw0:∀ d,eJ es (.eT d)= .fB:=λd=>by
  grind
 have hrw0':∀ d,eJ es' (.eT d)= .fB:=λd=>(hiff _).2 (hrw0 d)
 have Z:∀ d,(eJ es (.ay d)).jb=true->eJ es (.ay d)≠ .fB:=λd r e=>by rw [e] at r;cases r
 let S:Nat->Prop:=λc=>∃ d,(eJ es (.ay d)).jb=true/\g.fk d=some c
 have Q:∀ c,S c->b.wu c:=λc p=>by
  obtain ⟨d,B,F⟩:=p;obtain ⟨c',q1,q2,_⟩:=s.iR d (by grind);simp_all
 have hidden:∀ d c,eJ es (.ay d)= .fB->(A (.ay d)).jb=true->g.fk d=some c->¬S c:=λd c hm r p he=>by
  obtain ⟨id',B,F⟩:=he;obtain ⟨e1,e2,_⟩:=hb id' (Z id' B);have:=s.np d id' c r (by simp_all) p F;grind
 have W:∀ d t sz N c N',A (.eT d)= .eU t sz N->g.gF d=some (some c,N')->¬S c:=λd t sz N c N' r p he=>by
  obtain ⟨bk,q1,q2⟩:=s.ln d t sz N r;grind
 have L:∀ k,k<b.pH.heap.size->¬b.sU k->¬S k:=λk B F J=>by
  rcases Q k J with h|h
  .omega
  .exact F h
 have tr:∀ {U:World},sV S w.heap.size w U->sV b.sU b.pH.heap.size b.pH U:=fun {U} I=>by
  have hsz:=s.jF.pZ;exact s.jF.Cy ⟨I.Ir,I.It,I.Is,I.pZ,λk R hn=>I.wv k om (L k R hn),λk R=>I.zN k om⟩
 let b':jL P:=⟨w,λk o=>g.fP k o/\¬S k,S,λU I=>b.K3 U (tr I),λk o R=>s.lv k o R.1,λ_ _ R=>R.2⟩
 have hsim:fl b' (eJ es) (·<m) (g.kH m) w:=by
  refine fl.qs (sV.K4 _ _ _) s.lv (λ_ _ R=>R.1) (λk o R _ I=>⟨R,I⟩) (λd c p=>(u d c p).2) (λd c p=>(O d c p).2) (λd c p=>s.ko d c (u d c p).1) (λd c N p=>s.mc d c N (O d _ p).1)
   (λd r=>?_) (λd c r p=>?_) (λi j k q hj hci hcj=>?_) (λd Y c K _=>absurd K (pl2 _ _)) (λd t' sz N K=>by simp_all)
  .obtain ⟨e1,e2,_⟩:=hb d (Z d r);obtain ⟨c,B,F,J,h4⟩:=s.iR d (by simp_all);exact ⟨c,by simp_all, .inr ⟨d,r,B⟩,J,h4⟩
  .obtain ⟨e1,e2,e3⟩:=hb d (Z d r);rw [e1] at r ⊢;exact (s.po (u d c p).1).Ma e3 rfl ownc rowc
  .obtain ⟨e1,_,_⟩:=hb i (Z i q);obtain ⟨e2,_,_⟩:=hb j (Z j hj);exact s.np i j k (by simp_all) (by simp_all) (u _ _ hci).1 (u _ _ hcj).1
 refine (h.vC b' (g.kH m) w vals hsim hvl λi x v I hv'=>(hv i x v I hv').Ek (qX hargs i x I) rfl ownc rowc).mono ?_;rintro e U ⟨v,x,σ1,n1,g1,rfl,⟨y,ez,⟨rfl,rfl⟩,_,⟨rfl,hres⟩,hw'⟩,hmn1,hrep,E,hE⟩;have hb1:∀ d,eJ ez (.ay d)≠ .fB->eJ ez (.ay d)=σ1 (.ay d)/\d<m/\yM m (σ1 (.ay d))=true:=λd H=>by
  rcases hw'.xJ (.ay d) with B|⟨B,F,J⟩
  .exact absurd B H
  grind
 have hsz:w.heap.size<=U.heap.size:=hE.wA;have hF1:∀ c o,g1.fP c o->c<w.heap.size->¬S c->g.fP c o:=λc o B F J=>(E.oE c o B F J).1
 let g':gX:=⟨g1.fP,λi=>if eJ es (.ay i)= .fB then g.fk i else g1.fk i,g.gF⟩
 have go1:∀ i,eJ es (.ay i)≠ .fB->g'.fk i=g1.fk i:=λi q=>by simp [g',q]
 have go2:∀ i,eJ es (.ay i)= .fB->g'.fk i=g.fk i:=λi q=>by simp [g',q]
 have X:∀ {x:b9} {v:Value},B5 es x=true->eH U g1 x v->eH U g' x v:=λI hr=>eH.akg (g:=g1) (g':=g') rfl I hr λb hb=>go1 b (by
  grind [Nat.eq_of_beq_eq_true])
 have hinvR:∀ {x:b9} {v:Value},Rq es x=true->eH U g1 x v->eH U g' x v:=fun {x v} I hr=>by
  cases x with
  |eN cs=>
   cases hr with
   |sd r h=>
    refine .sd r λi x v B F=>X ?_ (h i x v B F)
    exact bi.1 I _ (bh B)
   |fJ h=>exact .fJ h
  |_=>exact X I hr
 have hbm:∀ d,eJ es (.ay d)≠ .fB->d<m:=λd H=>(hb d H).2.1
 have gkeep:∀ i c,g.fk i=some c->g'.fk i=some c:=λi c p=>by
  by_cases q:eJ es (.ay i)= .fB
  .simp_all
  .rw [go1 i q];exact (hE.oT i c (by simp_all)).1
 have hC:zP g w g' U:=by
  refine ⟨hE.jC,λd c p=>⟨gkeep d c p,E.jF.zN c (s.ko d c p)⟩,λd bk N hr=>?_,λd c N hr=> .inl ⟨N,hr⟩⟩;exact ⟨bk,N,hr,aq _,λ_=>⟨rfl,λc p=>E.jF.zN c (s.mc d c N (by rw [hr,p]))⟩⟩
 have og:∀ d,eJ es (.ay d)≠ .fB->jP A ez (.ay d)=σ1 (.ay d):=λd H=>by
  grind
 have on:∀ d,eJ es (.ay d)= .fB->jP A ez (.ay d)=A (.ay d):=λd he=>by
  grind
 have orr:∀ d,jP A ez (.eT d)=A (.eT d):=λd=>by rw [pm3,hrw0' d]
 have gv:∀ d,eJ es (.ay d)≠ .fB->d<m:=λd h=>(hb d h).2.1
 have kind:∀ d c,(jP A ez (.ay d)).jb=true->g'.fk d=some c->(eJ es (.ay d)≠ .fB/\(σ1 (.ay d)).jb=true/\g1.fk d=some c)\/(eJ es (.ay d)= .fB/\(A (.ay d)).jb=true/\g.fk d=some c):=λd c r p=>by
  grind
 have new1:∀ k c,(σ1 (.ay k)).jb=true->g1.fk k=some c->w.heap.size<=c\/S c:=λk c r p=>by
  obtain ⟨c',q1,q2,_⟩:=E.iR k r;rw [p] at q1;cases q1;exact q2
 have old1:∀ d c,eJ es (.ay d)= .fB->(A (.ay d)).jb=true->g.fk d=some c->¬(w.heap.size<=c\/S c):=λd c hm r p h=>by
  rcases h with h|h
  .have:=s.ko d c p;omega
  grind
 have mine1:∀ c,w.heap.size<=c\/S c->b.wu c:=λc h=>by
  rcases h with h|h
  .exact .inl (av s.jF.pZ h)
  .exact Q c h
 refine ⟨v,g',rfl,hinvR hinr hrep,?_,⟨hC,hE.wA,hE.yz,hE.wy⟩⟩;refine fl.qs (tr E.jF) E.lv (λk o R=>(hE.jC k o (s.pq k o R)).1) (λk o R hlt I=>s.oE k o (hF1 k o R (aX hlt s.jF.pZ) (L k hlt I)) hlt I)
   (λd c p=>?_) (λd c p=>?_) (λd c p=>?_) (λd c N p=>?_) (λd r=>?_) (λd c r p=>?_) (λi j c q hj hci hcj=>?_) (λd Y c K p=>?_) (λd t' sz N K=>?_)
 .by_cases q:eJ es (.ay d)= .fB
  .rw [go2 d q] at p;exact .inl (s.pI d c p)
  .obtain ⟨e1,_,_⟩:=hb d q;obtain ⟨c0,B,_⟩:=s.iR d (by grind);exact .inl (s.pI d c0 B)
 .exact .inl (s.oF d c p)
 .by_cases q:eJ es (.ay d)= .fB
  .rw [go2 d q] at p;exact aX (s.ko d c p) hsz
  .rw [go1 d q] at p;exact E.ko d c p
 .exact aX (s.mc d c N p) hsz
 .by_cases q:eJ es (.ay d)= .fB
  .rw [on d q] at r;obtain ⟨c,B,F,J,h4⟩:=s.iR d r;grind
  .rw [og d q] at r;obtain ⟨c,B,F,J,h4⟩:=E.iR d r;grind
 .rcases kind d c r p with ⟨q,F,J⟩|⟨q,F,J⟩
  .rw [og d q];have hne':eJ ez (.ay d)≠ .fB:=λe=>q ((hiff _).1 e)
   have hcl:=E.po J;have e1:=(hb1 d hne').1;rw [<-e1] at hcl ⊢;exact hcl.akf hpl' hin rfl X
  .rw [on d q];exact (s.po J).Iu hC (E.jF.wv c (s.ko d c J) (hidden d c q F J))
 .rcases kind i c q hci with ⟨B,F,J⟩|⟨B,F,J⟩<;>rcases kind j c hj hcj with ⟨h1',h2',h3'⟩|⟨h1',h2',h3'⟩
  .exact E.np i j c F h2' J h3'
  .grind
  .grind
  .exact s.np i j c F h2' J h3'
 .by_cases q:eJ es (.ay d)= .fB
  .rw [on d q] at K;rw [go2 d q] at p;exact s.pJ d Y c K p
  grind
 .rw [orr d] at K;obtain ⟨bk,B,F⟩:=s.ln d t' sz N K;refine ⟨bk,B,λc p=>?_⟩;obtain ⟨b1,b2,b3,b4,b5,arr,z,b6,b7⟩:=F c p;have H:¬S c:=W d t' sz N c N K (by rw [B,p]);refine ⟨b1,aX b2 hsz,λo ho=>b3 o (hF1 c o ho b2 H),λj r hc'=>?_,λj t'' sz'' M M' hj hr=>?_,arr,z,(E.jF.wv c b2 H).trans b6,b7⟩
  .grind
  grind
theorem qx.J4 {f:FuncId} {args:List b9} {m n:Nat} {es es':List (fQ×gC)} {res:b9} (d:oJ σ m es) (l:xV es=true) (p:xV es'=true) (s:es'.map (·.1)=es.map (·.1)) (r:sn m args=true) (c:B4 es es'=true) (i:B5 es res=true)
  (h:fF P f args (eJ es) m (gP m (λx e=>x= .gO res/\e=es'))):qx P 0 f args σ n (es.map (·.1)) es' res:=qx.YS d l p s r c (akh i) h
theorem iE.YR {r:Option Nat} {nt l n:Nat} {c:Code} {K:Exit->eK->Nat->Prop} (k j:Nat) {bt:TypeId} {cells cells':List b9} {x:b9} (p:σ (.ay k)= .dc bt cells) (q:cells[j]? =some x) (d:cells.set j (Bg x)=cells') (h:iE P r nt l c (fc σ (.ay k) (.dc bt cells')) n K):iE P r nt l c σ n K:=by
 subst d;refine ⟨λb t a w m s=>h.nM b t a w m ?_⟩;obtain ⟨g,e,f,E,o⟩:=s;refine ⟨g,e.M0 p (cF) (λi y v z u=>?_),f.uU (λi=>by trivial),E,o⟩;grind [UX]
theorem iE.Rp {r:Option Nat} {nt l n:Nat} {x y:Code} {K:Exit->eK->Nat->Prop} (m:Nat) (es:List (fQ×gC)) (h:iE P r nt l y (eJ es) m K->iE P r nt l x σ n (Pz (λσ n=>iE P r nt l y σ n K) K)) (c:iE P r nt l y (eJ es) m K):iE P r nt l (.seq x y) σ n K:=
 iE.F7 (h c)
end
end Go.Am
namespace Go.Proofs.YtffboamedcmpaaaGreatDoor
open Gw
open Go.Am
open Go.Proofs.Tryz Tryz
abbrev Df (m:fX) (c:fG) (s:gp nH) (w:gp k7):List (Go.Am.fQ×gC):=[(.ay 10, .dc 117 (mN m c s w)),(.ay 11, .dc 115 [.c8 10 0])]
abbrev Rs (m:fX) (c:fG) (s:gp nH) (w:gp k7):List (Go.Am.fQ×gC):=[(.ct 1, .bg (.c8 11 0)),(.ct 3, .bg (.eW 143 [] [.c8 11 0])),(.ct 4, .bg (.eW 144 [] [.c8 11 0])),(.ay 10, .dc 117 (mN m c s w)),(.ay 11, .dc 115 [.c8 10 0])]
theorem EV {σ:eK} {l:Go.Am.fQ} {c:gC} (h:σ l=c):fc σ l c=σ:=by
 grind [lX,g9]
theorem YV {P:Program} {m n:Nat} {f:FuncId} {args:List b9} {σ:eK} {rx:List Go.Am.fQ} {l c:Go.Am.fQ} {d i:gC} {res:b9} (h:qx P m f args σ n rx [(l,d),(c,i)] res) (x:l∈rx) (y:c∈rx) (k:σ l=d) (o:σ c=i):qx P m f args σ n rx [] res:=
 ⟨h.D5,λa j b D g w v p q r s t u=>by
  have:=h.D6 a j b D g w v p q r s t u;have e:jP a [(l,d),(c,i)]=jP a []:=by
   show fc (fc a l d) c i=a;rw [EV ((j l x).trans k),EV ((j c y).trans o)]
  simp_all⟩
theorem YW {P:Program} {m n:Nat} {f:FuncId} {args:List b9} {σ:eK} {rx:List Go.Am.fQ} {l d i:Go.Am.fQ} {c j k:gC} {res:b9} (h:qx P m f args σ n rx [(l,c),(d,j),(i,k)] res) (B:d≠l) (E:i≠l) (z:d∈rx) (A:i∈rx) (x:σ d=j) (y:σ i=k):qx P m f args σ n rx [(l,c)] res:=
 ⟨h.D5,λa u b D g w v o p q r s t=>by
  have:=h.D6 a u b D g w v o p q r s t;have e:jP a [(l,c),(d,j),(i,k)]=jP a [(l,c)]:=by
   show fc (fc (fc a l c) d j) i k=fc a l c;grind [EV,g9]
  simp_all⟩
theorem aki (m:fX) (c:fG) (i:tF m):fF prog 84 [.c8 10 0] (eJ (rP m c)) 11
  (gP 11 (λr es=>r= .gO (.ax .i64 (sA (fO m c)).2)/\es=vf (sA (fO m c)).1)):=by
 have b:sA (fO m c)=if (m.iq.al.any λs=>decide (s.lZ=c.g7))=false/\(m.iG.al.any λs=>decide (s.l0=c.g7))=false then (fO m c,191)
  else ({fO m c with e8:={m with iq:=m.iq.j7 λs=>decide (s.lZ=c.g7),iG:=m.iG.j7 λs=>decide (s.l0=c.g7)}},0):=rfl
 have v:=ajF m c m.iq m.iG m.iq.gg m.iq.al (av i.M3 dd);have t:=ajJ m c m.iq m.iG m.iG.gg m.iG.al (av i.J3 dd);generalize sA (fO m c)=B at*;refine fF.rh 10 ?_;refine fF.Bm jy (fn:=f84) eI rfl eI rfl rfl ?_;refine j6 ?_;refine j6 ?_;refine j6 ?_
 by_cases h:(m.iq.al.any λs=>decide (s.lZ=c.g7))=false/\(m.iG.al.any λs=>decide (s.l0=c.g7))=false
 .rw [ak h] at b;subst b;rw [h.1] at v;rw [h.2] at t;refine j6 ?_;refine j5 ?_;exact kU
 rw [ai h] at b;subst b;refine iE.Rp 12 (Rs m c m.iq m.iG) (λy=>?_) ?_
 .refine gk ?_;refine j5 ?_;cases A:(m.iq.al.any λs=>decide (s.lZ=c.g7)) with
  |true=>
   refine cx ?_;exact iE.F8 (show oJ _ 12 [(.ct 1, .bg (.c8 11 0)),(.ct 3, .bg (.eW 143 [] [.c8 11 0])),(.ct 4, .bg (.eW 144 [] [.c8 11 0])),(.ay 10, .dc 117 (mN m c m.iq m.iG)),(.ay 11, .dc 115 [.c8 10 0])] from ⟨rfl,rfl,rfl,rfl,rfl,rfl,rfl,rfl,rfl,rfl,trivial⟩) dd y
  |false=>
   have u:(m.iG.al.any λs=>decide (s.l0=c.g7))=true:=by
    simp_all
   rw [u] at t;refine j5 ?_;exact iE.F8 (show oJ _ 12 [(.ct 1, .bg (.c8 11 0)),(.ct 3, .bg (.eW 143 [] [.c8 11 0])),(.ct 4, .bg (.eW 144 [] [.c8 11 0])),(.ay 10, .dc 117 (mN m c m.iq m.iG)),(.ay 11, .dc 115 [.c8 10 0])] from ⟨rfl,rfl,rfl,rfl,rfl,rfl,rfl,rfl,rfl,rfl,trivial⟩) dd y
 clear v t h;obtain ⟨l,n,p,⟨q,S⟩,⟨w,W⟩,next⟩:=m;have k:S.length<=1000:=i.M3;have o:W.length<=1000:=i.J3;clear i;refine iE.Rp 12 (Rs ⟨l,n,p,⟨q,S⟩,⟨w,W⟩,next⟩ c (gp.j7 ⟨q,S⟩ λs=>decide (s.lZ=c.g7)) ⟨w,W⟩) (λy=>?_) ?_
 .have L:S.length<=1048576:=av k dd;cases S with
  |nil=>
   have f:=ajD ⟨l,n,p,⟨q,[]⟩,⟨w,W⟩,next⟩ c ⟨q,[]⟩ ⟨w,W⟩ (q && true);refine iE.Ad ?_;refine gk ?_;refine ⟨0,_,_,_,rfl,qx.Bx (XR (q && true)) rfl,rfl,?_⟩
   conv=>whnf
   refine ⟨0,_,_,_,rfl,YV (qx.J4 (m:=12) (res:= .a8 (q && true) 2 [] .fW) (es:=Df ⟨l,n,p,⟨q,[]⟩,⟨w,W⟩,next⟩ c ⟨q,[]⟩ ⟨w,W⟩) (es':=Df ⟨l,n,p,⟨q,[]⟩,⟨w,W⟩,next⟩ c ⟨q,[]⟩ ⟨w,W⟩) ⟨rfl,rfl,rfl,rfl,trivial⟩ rfl rfl rfl rfl rfl rfl f) (by simp) (by simp) rfl rfl,rfl,?_⟩;refine cx ?_;refine iE.YR 10 4 rfl rfl rfl ?_;refine iE.F8 (show oJ _ 12 [(.ct 1, .bg (.c8 11 0)),(.ct 3, .bg (.eW 143 [] [.c8 11 0])),(.ct 4, .bg (.eW 144 [] [.c8 11 0])),(.ay 10, .dc 117 (mN ⟨l,n,p,⟨q,[]⟩,⟨w,W⟩,next⟩ c (gp.j7 ⟨q,[]⟩ λs=>decide (s.lZ=c.g7)) ⟨w,W⟩)),(.ay 11, .dc 115 [.c8 10 0])] from ⟨rfl,rfl,rfl,rfl,rfl,rfl,?_,af⟩) dd y;cases q<;>rfl
  |cons a r=>
   have f:=ajB ⟨l,n,p,⟨q,a::r⟩,⟨w,W⟩,next⟩ c ⟨q,a::r⟩ ⟨w,W⟩ true (a::r) L;have j:((a::r).map mw).length=(a::r).length:=ap _;have d:rE prog 142 [.a8 (gp.gg ⟨q,a::r⟩) 2 ((a::r).map mw) .dm] 264 2 (a::r).length ((a::r).map mw).flatten:=by
    grind [gp.gg,XS]
   refine iE.Ad ?_;refine gk ?_;refine ⟨0,_,_,_,rfl,qx.xT d rfl,rfl,?_⟩
   conv=>whnf
   refine ⟨0,_,_,_,rfl,YW (qx.J4 (m:=19) (res:= .eP 18 0 2 ((a::r).filter λs:nH=>!decide (s.lZ=c.g7)).length true) (es:=(.ay 18, .eY 264 (((a::r).map mw).flatten))::Df ⟨l,n,p,⟨q,a::r⟩,⟨w,W⟩,next⟩ c ⟨q,a::r⟩ ⟨w,W⟩) (es':=(.ay 18, .eY 264 ((((a::r).filter λs:nH=>!decide (s.lZ=c.g7)).map mw).flatten))::Df ⟨l,n,p,⟨q,a::r⟩,⟨w,W⟩,next⟩ c ⟨q,a::r⟩ ⟨w,W⟩) ⟨rfl,rfl,rfl,rfl,rfl,rfl,trivial⟩ rfl rfl rfl rfl rfl rfl f) (by intro e;cases e) (by intro e;cases e) (by simp) (by simp) rfl rfl,rfl,?_⟩;refine cx ?_;refine iE.Rh 10 4 18 (((a::r).filter λs:nH=>!decide (s.lZ=c.g7)).map mw) rfl rfl rfl rfl (ap _) (λx g=>by obtain ⟨z,_,rfl⟩:=aE.1 g;rfl) (Yr _) rfl ?_;refine iE.F8 (show oJ _ 12 [(.ct 1, .bg (.c8 11 0)),(.ct 3, .bg (.eW 143 [] [.c8 11 0])),(.ct 4, .bg (.eW 144 [] [.c8 11 0])),(.ay 10, .dc 117 (mN ⟨l,n,p,⟨q,a::r⟩,⟨w,W⟩,next⟩ c (gp.j7 ⟨q,a::r⟩ λs=>decide (s.lZ=c.g7)) ⟨w,W⟩)),(.ay 11, .dc 115 [.c8 10 0])] from ⟨rfl,rfl,rfl,rfl,rfl,rfl,?_,af⟩) dd y;cases q<;>rfl
 refine iE.Rp 12 (Rs ⟨l,n,p,⟨q,S⟩,⟨w,W⟩,next⟩ c (gp.j7 ⟨q,S⟩ λs=>decide (s.lZ=c.g7)) (gp.j7 ⟨w,W⟩ λs=>decide (s.l0=c.g7))) (λy=>?_) ?_
 .have L:W.length<=1048576:=av o dd;cases W with
  |nil=>
   have f:=ajH ⟨l,n,p,⟨q,S⟩,⟨w,[]⟩,next⟩ c (gp.j7 ⟨q,S⟩ λs=>decide (s.lZ=c.g7)) ⟨w,[]⟩ (w && true);refine iE.Ad ?_;refine gk ?_;refine ⟨0,_,_,_,rfl,qx.Bx (XT (w && true)) rfl,rfl,?_⟩
   conv=>whnf
   refine ⟨0,_,_,_,rfl,YV (qx.J4 (m:=12) (res:= .a8 (w && true) 4 [] .fW) (es:=Df ⟨l,n,p,⟨q,S⟩,⟨w,[]⟩,next⟩ c (gp.j7 ⟨q,S⟩ λs=>decide (s.lZ=c.g7)) ⟨w,[]⟩) (es':=Df ⟨l,n,p,⟨q,S⟩,⟨w,[]⟩,next⟩ c (gp.j7 ⟨q,S⟩ λs=>decide (s.lZ=c.g7)) ⟨w,[]⟩) ⟨rfl,rfl,rfl,rfl,trivial⟩ rfl rfl rfl rfl rfl rfl f) (by simp) (by simp) rfl rfl,rfl,?_⟩;refine cx ?_;refine iE.YR 10 5 rfl rfl rfl ?_;refine iE.F8 (show oJ _ 12 [(.ct 1, .bg (.c8 11 0)),(.ct 3, .bg (.eW 143 [] [.c8 11 0])),(.ct 4, .bg (.eW 144 [] [.c8 11 0])),(.ay 10, .dc 117 (mN ⟨l,n,p,⟨q,S⟩,⟨w,[]⟩,next⟩ c (gp.j7 ⟨q,S⟩ λs=>decide (s.lZ=c.g7)) (gp.j7 ⟨w,[]⟩ λs=>decide (s.l0=c.g7)))),(.ay 11, .dc 115 [.c8 10 0])] from ⟨rfl,rfl,rfl,rfl,rfl,rfl,?_,af⟩) dd y;cases w<;>rfl
  |cons a r=>
   have f:=ajL ⟨l,n,p,⟨q,S⟩,⟨w,a::r⟩,next⟩ c (gp.j7 ⟨q,S⟩ λs=>decide (s.lZ=c.g7)) ⟨w,a::r⟩ true (a::r) L;have j:((a::r).map jH).length=(a::r).length:=ap _;have d:rE prog 89 [.a8 (gp.gg ⟨w,a::r⟩) 4 ((a::r).map jH) .dm] 184 4 (a::r).length ((a::r).map jH).flatten:=by
    grind [gp.gg,MX]
   refine iE.Ad ?_;refine gk ?_;refine ⟨0,_,_,_,rfl,qx.xT d rfl,rfl,?_⟩
   conv=>whnf
   refine ⟨0,_,_,_,rfl,YW (qx.J4 (m:=19) (res:= .eP 18 0 4 ((a::r).filter λs:k7=>!decide (s.l0=c.g7)).length true) (es:=(.ay 18, .eY 184 (((a::r).map jH).flatten))::Df ⟨l,n,p,⟨q,S⟩,⟨w,a::r⟩,next⟩ c (gp.j7 ⟨q,S⟩ λs=>decide (s.lZ=c.g7)) ⟨w,a::r⟩) (es':=(.ay 18, .eY 184 ((((a::r).filter λs:k7=>!decide (s.l0=c.g7)).map jH).flatten))::Df ⟨l,n,p,⟨q,S⟩,⟨w,a::r⟩,next⟩ c (gp.j7 ⟨q,S⟩ λs=>decide (s.lZ=c.g7)) ⟨w,a::r⟩) ⟨rfl,rfl,rfl,rfl,rfl,rfl,trivial⟩ rfl rfl rfl rfl rfl rfl f) (by intro e;cases e) (by intro e;cases e) (by simp) (by simp) rfl rfl,rfl,?_⟩;refine cx ?_;refine iE.Rh 10 5 18 (((a::r).filter λs:k7=>!decide (s.l0=c.g7)).map jH) rfl rfl rfl rfl (ap _) (λx g=>by obtain ⟨z,_,rfl⟩:=aE.1 g;rfl) (M5 _) rfl ?_;refine iE.F8 (show oJ _ 12 [(.ct 1, .bg (.c8 11 0)),(.ct 3, .bg (.eW 143 [] [.c8 11 0])),(.ct 4, .bg (.eW 144 [] [.c8 11 0])),(.ay 10, .dc 117 (mN ⟨l,n,p,⟨q,S⟩,⟨w,a::r⟩,next⟩ c (gp.j7 ⟨q,S⟩ λs=>decide (s.lZ=c.g7)) (gp.j7 ⟨w,a::r⟩ λs=>decide (s.l0=c.g7)))),(.ay 11, .dc 115 [.c8 10 0])] from ⟨rfl,rfl,rfl,rfl,rfl,rfl,?_,af⟩) dd y;cases w<;>rfl
 refine gk ?_;exact kU
end Go.Proofs.YtffboamedcmpaaaGreatDoor
namespace Gw
structure zg (m:fX) (d:iY):Prop where
 J5:l8 d.e8.cy
 M8:d.e8.iG=m.iG
theorem YZ:∀ (l:List e7) {d:iY},l8 d.e8.cy->zg d.e8 (pa d l).1
 |[],d,h=>⟨h,rfl⟩
 |o::l,d,h=>by
  rw [YM];unfold rI;have b:=h.Hl o;generalize jO d.e8.cy o=R at*;obtain ⟨g,e⟩:=R;dsimp only at*
  by_cases a:e=0
  .subst a;have:=YZ l (d:={d with e8:={d.e8 with cy:=g},kZ:=d.kZ.lR o}) b;exact ⟨this.J5,this.M8⟩
  .simp only [ne_eq,a,not_false_eq_true,du];exact ⟨h,rfl⟩
end Gw
namespace Go.Proofs.YtffboamedcmpaaaGreatDoor
open Gw
open Go.Am
open Go.Proofs.Tryz Tryz
theorem ako (A B:List jG):(yS A B).length<=A.length+B.length+B.length:=by
 unfold yS Jw GQ Jx;have h:=bn (λt=>!Aq B t) A.reverse;have a:=bn (λt=>!Aq A t) B;have b:=bn (λt=>Jy A t) B;rw [dY] at h;simp only [au,ap];omega
theorem M7 {m:fX} (h:l8 m.cy) (c:fG) (o:e7):zg m (nU (fO m c) o).1:=by
 rw [J2];split
 .exact ⟨h.Hl _,rfl⟩
 .exact ⟨h,rfl⟩
theorem Ht {m:fX} (h:tF m) (c:fG):zg m (fO m c):=⟨h.rQ,rfl⟩
theorem YX {m:fX} (hm:tF m) (c:fG):zg m (uq (fO m c)).1:=by
 unfold uq
 repeat' (first|exact Ht hm c|exact M7 hm.rQ c _|(split<;>try dsimp only))
theorem aku {m:fX} (hm:tF m) (c:fG):zg m (uv (fO m c)).1:=by
 unfold uv
 repeat' (first|exact Ht hm c|exact M7 hm.rQ c _|(split<;>try dsimp only))
theorem akn {m:fX} (hm:tF m) (c:fG):zg m (ur (fO m c)).1:=by
 unfold ur
 repeat' (first|exact Ht hm c|exact M7 hm.rQ c _|(split<;>try dsimp only))
theorem akr {m:fX} (hm:tF m) (c:fG):zg m (uu (fO m c)).1:=by
 unfold uu
 repeat' (first|exact Ht hm c|exact M7 hm.rQ c _|(split<;>try dsimp only))
theorem akm {m:fX} (a:tF m) (c:fG):zg m (tB (fO m c)).1:=by
 unfold tB;split
 .exact Ht a c
 .dsimp only;split
  .exact Ht a c
  .rename_i l _ _;have h:=YZ (l.foldl (l5 m.cy) (m.jk, .g6)).2.al (d:=fO m c) a.rQ;split
   .exact ⟨h.J5,h.M8⟩
   .exact ⟨h.J5,h.M8⟩
theorem akq (m:fX) (c:fG):(sC (fO m c)).1.kZ= .g6:=by
 unfold sC
 repeat' (first|rfl|(split<;>try dsimp only))
theorem akl (m:fX) (c:fG):(sB (fO m c)).1.kZ= .g6:=by
 unfold sB
 repeat' (first|rfl|(split<;>try dsimp only))
theorem aks (m:fX) (c:fG):(tA (fO m c)).1.kZ= .g6:=by
 unfold tA
 repeat' (first|rfl|(split<;>try dsimp only))
theorem akk (m:fX) (c:fG):(sA (fO m c)).1.kZ= .g6:=by
 unfold sA
 repeat' (first|rfl|(split<;>try dsimp only))
theorem akt (m:fX) (c:fG):(vc (fO m c)).1.kZ= .g6:=by
 unfold vc
 repeat' (first|rfl|(split<;>try dsimp only))
theorem akp (m:fX) (c:fG):(vb (fO m c)).1.kZ= .g6:=by
 unfold vb
 repeat' (first|rfl|(split<;>try dsimp only))
theorem xd {m:fX} {c:fG} (i:tF m) (hp:c.fR.length<=1048576) (x:c.kE.length<=1048576) (u:uj c=true) {f:FuncId} (v:uZ (.ax .i64 c.gD) Yc=some (.eW f [] [])) {y:iY×Int}
  (b:gA m c=match y with|(d,e)=>if e≠0 then (m,iL e, .g6) else if d.kZ.al=[] then (d.e8,d.kg,d.kZ) else ((GW d m.cy.ec.al).e8,d.kg,d.kZ))
  (t:fF prog f [.c8 10 0] (eJ (rP m c)) 11 (gP 11 (λr es=>r= .gO (.ax .i64 y.2)/\es=vf y.1))) (g:zg m y.1\/y.1.kZ= .g6):
  er prog 18 [ye m,yc c] (.dn [ye (gA m c).1,Hc (gA m c).2.1,gE 7 gV (gA m c).2.2]):=by
 have k:=QN c hp x;rw [u] at k;generalize gA m c=R at*;obtain ⟨D,e⟩:=y;dsimp only at*;refine er.Mz (VB.MA jy (fn:=f18) eI rfl eI rfl rfl ?_);refine j6 ?_;refine j6 ?_;refine gI ?_;refine j6 ?_;refine iE.Ad ?_;refine j6 ?_;refine ⟨0,_,_,_,rfl,qx.X6 ajf,rfl,?_⟩
 conv=>whnf
 refine ⟨eI,eI,?_⟩;refine qu.Bw jy (kt:=3) (et:=118) (d:= .int .i64) eI eI rfl rfl eI rfl rfl (.inl rfl) rfl (qL rfl) _ v ?_;refine gI ?_;refine iE.PI ?_;refine gk ?_;refine qD ?_
 by_cases j:e=0
 .subst j;rw [ai (show ¬((0:Int)≠0) by decide)] at b;obtain ⟨a,n,p,⟨q,L⟩⟩:=D;cases L with
  |nil=>
   rw [ak rfl] at b;subst b;refine qD ?_;exact ⟨_,mR.fC _,mR.fC _⟩
  |cons o r=>
   rw [ai (by intro h;cases h)] at b;subst b;have g:zg m ⟨a,n,p,⟨q,o::r⟩⟩:=g.elim id (λh=>by cases h);have l:a.iG=m.iG:=g.M8;have z:=ajA ⟨a,n,p,⟨q,o::r⟩⟩ m.cy.ec.gg m.cy.ec.al (AF i.rQ) (AF g.J5) (by show a.iG.al.length<=_;rw [l];exact i.J3) (λw s=>i.Yn w (by rw [<-l];exact s)) (λw s=>by
    have A:=ako (jo m.cy.ec.al w.oP) (jo a.cy.ec.al w.oP);have B:=MJ m.cy.ec.al w.oP;have E:=MJ a.cy.ec.al w.oP;have F:=(AF i.rQ).B3;have H:a.cy.ec.al.length<=200:=(AF g.J5).B3;show (yS (jo m.cy.ec.al w.oP) (jo a.cy.ec.al w.oP)).length<=100000;omega)
   refine gI ?_;refine ⟨λ_=>?_,λh=>absurd (ag h) (by show ¬¬(0:Int)<(((List.map gV r).length+1:Nat):Int);omega)⟩;refine qD ?_;exact ⟨_,mR.fC _,mR.fC _⟩
 .rw [ak j] at b;subst b
  conv=>whnf
  refine ⟨λ_=>?_,λq=>absurd (by simpa using q) j⟩
  conv=>whnf
  exact ⟨_,mR.qA (.fj (mR.fC _) (.fj (mR.rA s9) (.fj (mR.kd _ _ _) .kv))),mR.fC _⟩
theorem akj {c:fG} (h:uj c=true):1<=c.gD/\c.gD<=13:=by
 unfold uj at h;cases a:wU c.gD with
 |none=>rw [a] at h;cases h
 |some p=>have:=XI a;omega
theorem YY (m:fX) (c:fG) (a:tF m) (hp:c.fR.length<=1048576) (t:c.kE.length<=1048576) (d:c.lS.length<=100000):
  er prog 18 [ye m,yc c] (.dn [ye (gA m c).1,Hc (gA m c).2.1,gE 7 gV (gA m c).2.2]):=by
 cases b:uj c with
 |false=>
  have k:=QN c hp t;rw [b] at k;have R:gA m c=(m,iL 180, .g6):=by unfold gA;rw [ak b]
  rw [R];refine er.Gd jy m8 (fn:=f18) eI rfl eI rfl rfl ?_;refine gI ?_;exact mR.qA (.fj (mR.fC _) (.fj (mR.rA s9) (.fj (mR.kd _ _ _) .kv)))
 |true=>
  have e:=akj b;rcases (by omega:c.gD=1\/c.gD=2\/c.gD=3\/c.gD=4\/c.gD=5\/c.gD=6\/c.gD=7\/c.gD=8\/c.gD=9\/c.gD=10\/c.gD=11\/c.gD=12\/c.gD=13) with h|h|h|h|h|h|h|h|h|h|h|h|h
  .exact xd a hp t b (by rw [h];rfl) (by unfold gA;rw [ai (by rw [b];decide),h];rfl) (Yk m c a.rQ hp) (.inl (YX a c))
  .exact xd a hp t b (by rw [h];rfl) (by unfold gA;rw [ai (by rw [b];decide),h];rfl) (Yk m c a.rQ hp) (.inl (YX a c))
  .exact xd a hp t b (by rw [h];rfl) (by unfold gA;rw [ai (by rw [b];decide),h];rfl) (ajp m c a.rQ hp (av d dd)) (.inl (aku a c))
  .exact xd a hp t b (by rw [h];rfl) (by unfold gA;rw [ai (by rw [b];decide),h];rfl) (ajv m c a hp) (.inr (akq m c))
  .exact xd a hp t b (by rw [h];rfl) (by unfold gA;rw [ai (by rw [b];decide),h];rfl) (ajn m c a.rQ hp t) (.inl (akn a c))
  .exact xd a hp t b (by rw [h];rfl) (by unfold gA;rw [ai (by rw [b];decide),h];rfl) (ajo m c a.rQ hp) (.inl (akr a c))
  .exact xd a hp t b (by rw [h];rfl) (by unfold gA;rw [ai (by rw [b];decide),h];rfl) (ajt m c a hp) (.inr (akl m c))
  .exact xd a hp t b (by rw [h];rfl) (by unfold gA;rw [ai (by rw [b];decide),h];rfl) (ajx m c a) (.inr (aks m c))
  .exact xd a hp t b (by rw [h];rfl) (by unfold gA;rw [ai (by rw [b];decide),h];rfl) (aki m c a) (.inr (akk m c))
  .exact xd a hp t b (by rw [h];rfl) (by unfold gA;rw [ai (by rw [b];decide),h];rfl) (ajz m c a hp) (.inr (akt m c))
  .exact xd a hp t b (by rw [h];rfl) (by unfold gA;rw [ai (by rw [b];decide),h];rfl) (ajP m c a) (.inr (akp m c))
  .exact xd a hp t b (by rw [h];rfl) (y:=(fO m c,0)) (by unfold gA;rw [ai (by rw [b];decide),h];rfl) (ajw m c) (.inr rfl)
  .exact xd a hp t b (by rw [h];rfl) (by unfold gA;rw [ai (by rw [b];decide),h];rfl) (akb m c a d) (.inl (akm a c))
def zh (s:Int) (o:e7):Int:=if g4 o=true then ra s o.fa else s
def Hu (g:li) (m:fX) (seen:Int):List b9:=[gE 17 jB g.fZ,gE 8 mD g.ec, .ax .i64 seen, .ax .i64 m.ky,gE 2 mw m.iq,gE 4 jH m.iG, .ax .i64 m.jg]
theorem akv (m:fX) (h:l8 m.cy) (n:Bool) (l:List e7) (f:∀ o∈l,qf o) (d:l.length<=100000):er prog 105 [ye m, .a8 n 7 (l.map gV) .dm] (ye (Mx m l)):=by
 have A:=aiN h n l f d;have a:(l.map gV).length=l.length:=ap _;rw [show ye (Mx m l)= .eN (Hu (GU m.cy l).1 m (l.foldl zh m.jk)) from rfl];generalize GU m.cy l=y at*;obtain ⟨g,e⟩:=y;dsimp only at*;refine fS func105 ?_;refine cx ?_;refine iE.gY (X:=Nat) (λk=>[(.ct 2, .bg (.c8 0 0)),(.ct 4, .bg (.c8 1 0)),(.ct 15, .bg (.a8 n 7 (l.map gV) .dm)),(.ct 16, .bg (.ax .i64 l.length)),(.ct 17, .bg (.ax .i64 k)),(.ay 0, .dc 31 (Hu g m ((l.take k).foldl zh m.jk))),(.ay 1, .dc 31 [.a8 true 1 [] .fW, .a8 true 1 [] .fW, .ax .i64 0, .ax .i64 0, .a8 true 1 [] .fW, .a8 true 1 [] .fW, .ax .i64 0])]) 2
  (λk=>k<=l.length) (λk=>l.length - k) dd 0 (ar _) ⟨rfl,rfl,rfl,rfl,rfl,rfl,?_,af⟩ ?_
 .show gC.bg (b9.ax .i64 ((l.map gV).length:Nat))=_;rw [a]
 rintro k p;refine gk ?_;refine ab (λh=>?_) λh=>?_
 .have t:k<l.length:=om;have i:=pV gV t;have j:=aD t;have c:=EH l[k] (f _ (aI t));have b:=Yd false ((l.take k).foldl zh m.jk) l[k].fa;have w:IntKind.i64.wrap ((k:Int)+1)=((k+1:Nat):Int):=by grind [fq]
  have F:(l.take (k+1)).foldl zh m.jk=zh ((l.take k).foldl zh m.jk) l[k]:=by grind
  generalize (l.take k).foldl zh m.jk=s at*;generalize l[k]=o at*;refine cx ?_;refine ⟨λh=>?_,λh=>?_⟩
  .conv=>whnf
   refine fF.kc (b) rfl ?_
   conv=>whnf
   refine ⟨k+1,om,by grind,⟨rfl,rfl,rfl,rfl,rfl,rfl,rfl,rfl,?_,rfl,?_,af⟩⟩
   .exact ix
   .show gC.dc _ (Hu g m (ra s o.fa))=gC.dc _ (Hu g m ((l.take (k+1)).foldl zh m.jk));grind [zh]
  .conv=>whnf
   refine ⟨k+1,om,by grind,⟨rfl,rfl,rfl,rfl,rfl,rfl,rfl,rfl,?_,rfl,?_,af⟩⟩
   .exact ix
   .show gC.dc _ (Hu g m s)=gC.dc _ (Hu g m ((l.take (k+1)).foldl zh m.jk));grind [zh]
 .obtain rfl:k=l.length:=om;rw [aN];exact fu
theorem aky (t:Int) (n:Bool) (l:List kF) (h:l.length<=1048576):fF prog 230 [.a8 n 2 (l.map ja) .dm, .eW 191 [] [.c8 1 0]] (eJ [(.ay 1, .dc 3 [.ax .i64 t])]) 2 (gP 2 (λx es=>x= .gO (.ax .i64 (k9 (λw=>decide (w.js=t)) l))/\es=[(.ay 1, .dc 3 [.ax .i64 t])])):=vd func230 func191 h
theorem akx (t:Int) (n:Bool) (l:List kF) (h:l.length<=1048576):fF prog 190 [.a8 n 2 (l.map ja) .dm, .eW 191 [] [.c8 1 0]] (eJ [(.ay 1, .dc 3 [.ax .i64 t])]) 2 (gP 2 (λx es=>x= .gO (.eD (l.any (λw=>decide (w.js=t))))/\es=[(.ay 1, .dc 3 [.ax .i64 t])])):=JU func190 (aky t n l h)
theorem akw (t:Int) (n:Bool) (l:List kF) (h:l.length<=1048576):fF prog 230 [.a8 n 2 (l.map ja) .fW, .eW 276 [] [.c8 1 0]] (eJ [(.ay 1, .dc 3 [.ax .i64 t])]) 2 (gP 2 (λx es=>x= .gO (.ax .i64 (k9 (λw=>decide (w.js=t)) l))/\es=[(.ay 1, .dc 3 [.ax .i64 t])])):=vd func230 func276 h
theorem Y0 (t:Int) (full:Bool) (l pad:List kF) (h:l.length<=1048576):fF prog 230 [.eP 6 0 2 l.length full, .eW 276 [] [.c8 1 0]] (eJ [(.ay 6, .eY 331 (((l++pad).map ja).flatten)),(.ay 1, .dc 3 [.ax .i64 t])]) 8 (gP 8 (λx es=>x= .gO (.ax .i64 (k9 (λw=>decide (w.js=t)) l))/\es=[(.ay 6, .eY 331 (((l++pad).map ja).flatten)),(.ay 1, .dc 3 [.ax .i64 t])])):=Dc func230 func276 h
theorem akA (t:kz) (th:Int) (l:t.fH.al.length<=1048576):er prog 188 [km t, .ax .i64 th] (.dn [.ax .i64 ((yX t th).getD 0), .eD (yX t th).isSome]):=by
 have c:=aix th t.fH.gg t.fH.al l;unfold yX;refine fS func188 ?_;refine j5 ?_;rcases EP (λh:fK=>decide (h.ig=th)) t.fH.al with ⟨b,n⟩|⟨i,c,b,n,p⟩
 .rw [b,JT n];exact fu
 .rw [b,JS c n p];refine j5 ?_;have g:=pV fI c;generalize t.fH.al[i]=a at*;exact fu
theorem akz (t:kz) (l:Int) (d:t.iV.al.length<=1048576):er prog 266 [km t, .ax .i64 l] (.dn [.ax .i64 ((yW t l).getD 0), .eD (yW t l).isSome]):=by
 have c:=aiw l t.iV.gg t.iV.al d;unfold yW;refine fS func266 ?_;refine j5 ?_;rcases EP (λh:fK=>decide (h.gf=l)) t.iV.al with ⟨b,n⟩|⟨i,c,b,n,p⟩
 .rw [b,JT n];exact fu
 .rw [b,JS c n p];refine j5 ?_;have g:=pV fI c;generalize t.iV.al[i]=a at*;exact fu
def yf:fK:=⟨0,0⟩
theorem Y5 (q:Bool) (l pad:List fK) (v:fK) (r:l.length<=1048576):fF prog 297 [.eP 9 0 2 l.length q, .eN (fI v)] (eJ [(.ay 9, .eY 370 (((l++pad).map fI).flatten))]) 16
  (gP 16 (λx es=>x= .gO (.ax .i64 (k9 (λh=>decide (h=v)) l))/\es=[(.ay 9, .eY 370 (((l++pad).map fI).flatten))])):=by
 obtain ⟨c,d⟩:=v;refine fz func297 ?_
 conv=>whnf
 refine iE.gY (λk:Nat=>[(.ct 0, .bg (.eP 9 0 2 l.length q)),(.ct 3, .bg (.c8 16 0)),(.ct 6, .bg (.eP 9 0 2 l.length q)),(.ct 7, .bg (.ax .i64 l.length)),(.ct 8, .bg (.ax .i64 k)),(.ay 9, .eY 370 (((l++pad).map fI).flatten)),(.ay 16, .dc 370 [.ax .i64 c, .ax .i64 d])]) 17
  (λk=>k<=l.length/\∀ a∈l.take k,decide (a=(⟨c,d⟩:fK))=false) (λk=>l.length - k) dd 0 ⟨Nat.zero_le _,by simp⟩ ⟨rfl,rfl,rfl,rfl,rfl,rfl,rfl,rfl,rfl,rfl,rfl,rfl,rfl,rfl,trivial⟩ ?_
 rintro k ⟨m,n⟩;refine gk ?_;refine ab (λh=>?_) λh=>?_
 .have b:k<l.length:=om;have t:k<(l++pad).length:=by grind
  have g:(l++pad)[k]=l[k]:=dB b;have L:=za (enc:=fI) (sz:=2) (λ_=>rfl) t;have R:=EN (enc:=fI) (sz:=2) (λ_=>rfl) t;rw [g] at L;have f:=XM (p:=λh=>decide (h=(⟨c,d⟩:fK))) b n;have i:=QQ (p:=λh=>decide (h=(⟨c,d⟩:fK))) b n;have w:IntKind.i64.wrap ((k:Int)+1)=((k+1:Nat):Int):=by grind [fq]
  have o:0+(k:Int).toNat*2=k*2:=om;generalize s:l[k]=a at*;obtain ⟨j,e⟩:=a;refine cx ?_;rw [o];refine cx ?_;refine ⟨λh=>?_,λh=>?_⟩
  .have h:decide ((⟨j,e⟩:fK)=⟨c,d⟩)=true:=by
    simp_all
   conv=>whnf
   refine ⟨_,_,⟨rfl,rfl⟩,rfl,⟨?_,rfl⟩,af⟩;show b9.ax .i64 k=b9.ax .i64 (k9 _ l);rw [f h]
  .have h:decide ((⟨j,e⟩:fK)=⟨c,d⟩)=false:=by
    grind
   conv=>whnf
   refine ⟨k+1,⟨om,i h⟩,by grind,rfl,rfl,rfl,rfl,rfl,rfl,rfl,rfl,?_,af⟩;exact ix
 .obtain rfl:k=l.length:=om;rw [aN] at n
  conv=>whnf
  refine ⟨_,_,⟨rfl,rfl⟩,rfl,⟨?_,rfl⟩,af⟩;show b9.ax .i64 (-1)=b9.ax .i64 (k9 _ l);rw [QP n]
theorem AH {α:Type} {enc:α->List b9} (h:∀ a,kT (enc a)=true):∀ l:List α,kT ((l.map enc).flatten)=true
 |[]=>rfl
 |a::l=>MT (h a) (AH h l)
theorem Y4 (b c pad:List fK) (a:fK) (H:(b++a::c).length<=1048576):fF prog 298 [.eP 9 0 2 (b++a::c).length true, .ax .i64 b.length, .ax .i64 ((b.length+1:Nat):Int)] (eJ [(.ay 9, .eY 370 (((b++a::c++pad).map fI).flatten))]) 16
  (gP 16 (λx es=>x= .gO (.eP 9 0 2 (b++c).length true)/\es=[(.ay 9, .eY 370 (((b++c++yf::pad).map fI).flatten))])):=by
 refine fF.PG ?_;refine fz func298 ?_
 conv=>whnf
 have h:(b++a::c).length=b.length+1+c.length:=by grind
 have E:((b.length+1:Nat):Int).toNat=b.length+1:=rfl;have g:=tE (enc:=fI) (sz:=2) (λ_=>rfl) (b++a::c++pad);rw [au,h] at g;refine j5 ?_;have v:(b++a::c++pad).drop (b.length+1)=c++pad:=by
  simp_all
 have j:=EM (enc:=fI) (sz:=2) (λ_=>rfl) (l:=b++a::c++pad) (k:=b.length+1) (by simp_all);rw [v] at j;have n:=EO (enc:=fI) (sz:=2) (λ_=>rfl) (l:=c++pad) (k:=c.length) (by simp_all);rw [cg rfl] at n;have m:(c.map fI).length=c.length:=ap _;have p:0+((b.length+1:Nat):Int).toNat*2=(b.length+1)*2:=om;have o:(b++a::c).length - ((b.length+1:Nat):Int).toNat=c.length:=by rw [E];omega
 refine ⟨c.map fI,⟨by rw [o,m],λF y=>?_,by rw [p,o];omega,by rw [p,o,j,n],AH (λ_=>rfl) c⟩,?_⟩
 .obtain ⟨x,_,rfl⟩:=aE.1 y;rfl
 have q:(b.length:Int).toNat=b.length:=rfl;refine ⟨⟨by rw [m,q];omega,dd⟩,?_⟩
 conv=>whnf
 obtain ⟨x,z⟩:∃ x,(a::c).drop c.length=[x]:=List.length_eq_one_iff.1 (by simp_all);have w:(b++a::c++pad).drop (b.length+c.length)=x::pad:=by
  rw [aA,<-cD,dK rfl,cB (by simp_all),z];rfl
 have r:=EM (enc:=fI) (sz:=2) (λ_=>rfl) (l:=b++a::c++pad) (k:=b.length+c.length) (by grind);rw [w] at r;have u:=EO (enc:=fI) (sz:=2) (λ_=>rfl) (l:=b++a::c++pad) (k:=b.length) (by simp_all);rw [aA,cg rfl] at u;have f:List.take (b.length*2) ((b++a::c++pad).map fI).flatten++(c.map fI).flatten++List.drop ((b.length+c.length)*2) ((b++a::c++pad).map fI).flatten=((b++c++x::pad).map fI).flatten:=by
  simp_all
 have s:=Hf (enc:=fI) (sz:=2) (λ_=>rfl) (b++c) pad x yf;have i:=tE (enc:=fI) (sz:=2) (λ_=>rfl) (b++c++x::pad);have d:(b++c).length=b.length+c.length:=au;rw [au,d,aL] at i;rw [d] at s;rw [m,q,f];generalize ((b++c++x::pad).map fI).flatten=M at*;refine cx ?_;refine qu.XN jy (t:=32) (e:=370) rfl rfl rfl rfl rfl rfl rfl rfl om (by rw [h];omega) dd om ?_
 conv=>whnf
 refine qu.QR jy (t0:=32) (e:=370) eI rfl rfl rfl rfl rfl rfl rfl rfl eI eI om ?_;have A:0+((b.length+c.length:Nat):Int).toNat*2=(b.length+c.length)*2:=om;have B:(((b++a::c).length:Nat):Int).toNat - ((b.length+c.length:Nat):Int).toNat=1:=om;rw [A,B,Nat.one_mul,show jM 1 (mB [b9.ax .i64 0,b9.ax .i64 0])=fI yf from rfl,s];have D:(b++c).length=b.length+c.length:=d
 conv=>whnf
 rw [D];exact ⟨_,_,⟨rfl,rfl⟩,rfl,⟨rfl,rfl⟩,af⟩
theorem akB (b c pad:List fK) (a:fK) (H:(b++a::c).length<=1048576):fF prog 298 [.eP 12 0 2 (b++a::c).length true, .ax .i64 b.length, .ax .i64 ((b.length+1:Nat):Int)] (eJ [(.ay 12, .eY 370 (((b++a::c++pad).map fI).flatten))]) 16
  (gP 16 (λx es=>x= .gO (.eP 12 0 2 (b++c).length true)/\es=[(.ay 12, .eY 370 (((b++c++yf::pad).map fI).flatten))])):=by
 refine fF.PG ?_;refine fz func298 ?_
 conv=>whnf
 have h:(b++a::c).length=b.length+1+c.length:=by grind
 have E:((b.length+1:Nat):Int).toNat=b.length+1:=rfl;have g:=tE (enc:=fI) (sz:=2) (λ_=>rfl) (b++a::c++pad);rw [au,h] at g;refine j5 ?_;have v:(b++a::c++pad).drop (b.length+1)=c++pad:=by
  simp_all
 have j:=EM (enc:=fI) (sz:=2) (λ_=>rfl) (l:=b++a::c++pad) (k:=b.length+1) (by simp_all);rw [v] at j;have n:=EO (enc:=fI) (sz:=2) (λ_=>rfl) (l:=c++pad) (k:=c.length) (by simp_all);rw [cg rfl] at n;have m:(c.map fI).length=c.length:=ap _;have p:0+((b.length+1:Nat):Int).toNat*2=(b.length+1)*2:=om;have o:(b++a::c).length - ((b.length+1:Nat):Int).toNat=c.length:=by rw [E];omega
 refine ⟨c.map fI,⟨by rw [o,m],λF y=>?_,by rw [p,o];omega,by rw [p,o,j,n],AH (λ_=>rfl) c⟩,?_⟩
 .obtain ⟨x,_,rfl⟩:=aE.1 y;rfl
 have q:(b.length:Int).toNat=b.length:=rfl;refine ⟨⟨by rw [m,q];omega,dd⟩,?_⟩
 conv=>whnf
 obtain ⟨x,z⟩:∃ x,(a::c).drop c.length=[x]:=List.length_eq_one_iff.1 (by simp_all);have w:(b++a::c++pad).drop (b.length+c.length)=x::pad:=by
  rw [aA,<-cD,dK rfl,cB (by simp_all),z];rfl
 have r:=EM (enc:=fI) (sz:=2) (λ_=>rfl) (l:=b++a::c++pad) (k:=b.length+c.length) (by grind);rw [w] at r;have u:=EO (enc:=fI) (sz:=2) (λ_=>rfl) (l:=b++a::c++pad) (k:=b.length) (by simp_all);rw [aA,cg rfl] at u;have f:List.take (b.length*2) ((b++a::c++pad).map fI).flatten++(c.map fI).flatten++List.drop ((b.length+c.length)*2) ((b++a::c++pad).map fI).flatten=((b++c++x::pad).map fI).flatten:=by
  simp_all
 have s:=Hf (enc:=fI) (sz:=2) (λ_=>rfl) (b++c) pad x yf;have i:=tE (enc:=fI) (sz:=2) (λ_=>rfl) (b++c++x::pad);have d:(b++c).length=b.length+c.length:=au;rw [au,d,aL] at i;rw [d] at s;rw [m,q,f];generalize ((b++c++x::pad).map fI).flatten=M at*;refine cx ?_;refine qu.XN jy (t:=32) (e:=370) rfl rfl rfl rfl rfl rfl rfl rfl om (by rw [h];omega) dd om ?_
 conv=>whnf
 refine qu.QR jy (t0:=32) (e:=370) eI rfl rfl rfl rfl rfl rfl rfl rfl eI eI om ?_;have A:0+((b.length+c.length:Nat):Int).toNat*2=(b.length+c.length)*2:=om;have B:(((b++a::c).length:Nat):Int).toNat - ((b.length+c.length:Nat):Int).toNat=1:=om;rw [A,B,Nat.one_mul,show jM 1 (mB [b9.ax .i64 0,b9.ax .i64 0])=fI yf from rfl,s];have D:(b++c).length=b.length+c.length:=d
 conv=>whnf
 rw [D];exact ⟨_,_,⟨rfl,rfl⟩,rfl,⟨rfl,rfl⟩,af⟩
structure vR where
 qM:List fK
 J6:List fK
 rR:List fK
 J7:List fK
def sH (th lk:Int) (x:vR):vR×Option Int:=
 match x.qM.any λh=>decide (h=⟨lk,th⟩) with
 |false=>(x,none)
 |true=>match x.rR.find? λw=>decide (w.gf=lk) with
  |none=>(⟨mV (λh=>decide (h=⟨lk,th⟩)) x.qM,yf::x.J6,x.rR,x.J7⟩,none)
  |some next=>(⟨mV (λh=>decide (h=⟨lk,th⟩)) x.qM++[next],x.J6,mV (λw=>decide (w.gf=lk)) x.rR,yf::x.J7⟩,some next.ig)
theorem M9 {α:Type} {p:α->Bool}:∀ {l:List α} {i:Nat} (d:i<l.length),(∀ a∈l.take i,p a=false)->p l[i]=true->∃ c a e,l=c++a::e/\c.length=i/\a=l[i]/\mV p l=c++e
 |b::l,0,d,h,hp=>⟨[],b,l,rfl,rfl,rfl,by grind [mV]⟩
 |b::l,i+1,d,h,hp=>by
  obtain ⟨c,a,e,g,j,k,m⟩:=M9 (p:=p) (l:=l) (i:=i) (by simpa using d) (λa f=>h a (by simp [f])) (by simpa using hp);grind [mV]
theorem Y2 {α:Type} {p:α->Bool} {l:List α} {i:Nat} (a:i<l.length) (h:p l[i]=true):l.any p=true:=bD.2 ⟨_,aI a,h⟩
theorem Y1 {α:Type} {p:α->Bool} {l:List α} (h:∀ a∈l,p a=false):l.any p=false:=dN.2 λa b=>by rw [h a b];decide
def Na:Option Int->b9
 |none=> .dn [.ax .i64 0, .fD]
 |some z=> .dn [.ax .i64 z, .fU]
def Hv (x:vR):List (Am.fQ×gC):=[(.ay 9, .eY 370 (((x.qM++x.J6).map fI).flatten)),(.ay 12, .eY 370 (((x.rR++x.J7).map fI).flatten)),(.ay 15, .dc 415 [.eP 9 0 2 x.qM.length true, .eP 12 0 2 x.rR.length true])]
theorem Y3 (x:vR) (th lk:Int) (A:x.qM.length<=1048576) (F:x.rR.length<=1048576):fF prog 270 [.c8 15 0, .ax .i64 th, .ax .i64 lk] (eJ (Hv x)) 16
  (gP 16 (λr es=>r= .gO (Na (sH th lk x).2)/\es=Hv (sH th lk x).1)):=by
 obtain ⟨D,f,w,z⟩:=x;have A:D.length<=1048576:=A;have F:w.length<=1048576:=F;have U:=Y5 true D f ⟨lk,th⟩ A;refine fF.PG ?_;refine fz func270 ?_
 conv=>whnf
 refine .inr ⟨eI,eI,?_⟩;refine j5 ?_;rcases EP (λh:fK=>decide (h=⟨lk,th⟩)) D with ⟨c,o⟩|⟨i,q,c,o,u⟩
 .unfold sH;dsimp only;rw [Y1 o,c];refine cx ?_;exact ⟨_,_,⟨rfl,rfl⟩,rfl,⟨rfl,rfl⟩,af⟩
 obtain ⟨l,a,b,N,O,X,P⟩:=M9 q o u;have y:=Y2 (p:=λh:fK=>decide (h=⟨lk,th⟩)) q u;have d:=Y4 l b f a (by grind);have B:=aiv lk true w z F;have K:IntKind.i64.wrap ((i:Int)+1)=((l.length+1:Nat):Int):=by grind [fq]
 rw [<-N] at d;rw [O] at d K;unfold sH;dsimp only;rw [y,c,P];clear U y c;refine j5 ?_;rw [K];refine j5 ?_;rcases EP (λh:fK=>decide (h.gf=lk)) w with ⟨c,n⟩|⟨j,t,c,n,v⟩
 .rw [JT n,c];refine cx ?_;exact ⟨_,_,⟨rfl,rfl⟩,rfl,⟨rfl,rfl⟩,af⟩
 obtain ⟨H,e,J,Q,R,I,S⟩:=M9 t n v;have d:=akB H J z e (by grind);have L:IntKind.i64.wrap ((j:Int)+1)=((H.length+1:Nat):Int):=by grind [fq]
 have m:j<(w++z).length:=by grind
 have T:=za (enc:=fI) (sz:=2) (λ_=>rfl) m;have Y:=EN (enc:=fI) (sz:=2) (λ_=>rfl) m;rw [dB t,<-I] at T;have W:0+(j:Int).toNat*2=j*2:=om;rw [JS t n v,<-I,S,c];clear B c;rw [<-Q] at d;rw [R] at d L;refine j5 ?_;refine ⟨⟨om,by trivial⟩,?_⟩
 conv=>whnf
 rw [W];refine cx ?_;rw [L];refine fF.aif ?_;refine j5 ?_;have E:=tE (enc:=fI) (sz:=2) (λ_=>rfl) (l++b++yf::f);rw [au,aL] at E;have s:=Hf (enc:=fI) (sz:=2) (λ_=>rfl) (l++b) f yf e;have g:(l++b++[e]).length=(l++b).length+1:=by grind
 have k:l++b++e::f=l++b++[e]++f:=by grind
 rw [k] at s;refine ⟨⟨by grind,dd⟩,?_⟩;refine cx ?_;refine ⟨_,Hv ⟨l++b++[e],f,H++J,yf::z⟩,⟨rfl,rfl⟩,rfl,⟨rfl,rfl⟩,?_,rfl,rfl,rfl,?_,rfl,ae⟩
 .refine congrArg (gC.eY _) (Eq.trans ?_ s);show List.take ((l++b).length*2) _++fI e++List.drop (((l++b).length+1)*2) _=_;rw [cl]
 .show gC.dc _ [b9.eP 9 0 2 ((l++b).length+1) true,_]=gC.dc _ [b9.eP 9 0 2 (l++b++[e]).length true,_];rw [g];rfl
end Go.Proofs.YtffboamedcmpaaaGreatDoor
