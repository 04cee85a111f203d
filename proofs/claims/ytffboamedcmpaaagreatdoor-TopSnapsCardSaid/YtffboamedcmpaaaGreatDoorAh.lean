import Derived.Test.YtffboamedcmpaaaGreatDoorAg
set_option linter.all false
set_option maxHeartbeats 4000000
set_option maxRecDepth 100000
namespace Gw
section
variable {α:Type}
abbrev sx (α:Type):=List (Nat×List UInt8×α)
def oL (k:List UInt8):sx α->Option α
 |[]=>none
 |e::m=>if e.2.1=k then some e.2.2 else oL k m
def x5 (k:List UInt8) (x:α):sx α->Option (sx α)
 |[]=>none
 |e::m=>if e.2.1=k then some ((e.1,e.2.1,x)::m) else match x5 k x m with
  |some l=>some (e::l)
  |none=>none
def Ap (x:Nat×sx α) (k:List UInt8) (v:α):Nat×sx α:=match x5 k v x.2 with
 |some m=>(x.1,m)
 |none=>(x.1+1,x.2++[(x.1,k,v)])
def Jv (m:sx α):List (List UInt8):=m.map (·.2.1)
theorem Wy (k n):∀ m:sx α,(x5 k n m=none/\oL k m=none)\/
  ∃ d,x5 k n m=some d/\d.map (·.1)=m.map (·.1)/\Jv d=Jv m/\(∀ c,oL c d=if c=k then some n else oL c m)/\(oL k m).isSome
 |[]=> .inl ⟨rfl,rfl⟩
 |e::m=>by
  rw [x5,oL]
  by_cases b:e.2.1=k
  .rw [ak b,ak b];refine .inr ⟨_,rfl,rfl,rfl,λc=>?_,rfl⟩;rw [oL,oL]
   by_cases a:c=k
   .rw [ak a,ak (by rw [a];exact b)]
   .rw [ai (λh=>a (by rw [<-h];exact b)),ai a,ai (λh=>a (by rw [<-h];exact b))]
  .rw [ai b,ai b];rcases Wy k n m with ⟨a,g⟩|⟨d,a,g,i,j,l⟩
   .exact .inl ⟨by rw [a],g⟩
   .refine .inr ⟨e::d,by rw [a],by rw [bp,bp,g],by unfold Jv at*;rw [bp,bp,i],λc=>?_,l⟩;rw [oL,oL,j]
    by_cases f:e.2.1=c
    .rw [ak f,ak f,ai (λh=>b (by rw [f,h]))]
    .rw [ai f,ai f]
theorem Wx (k e):∀ m:sx α,oL k (m++[e])=match oL k m with|some n=>some n|none=>if e.2.1=k then some e.2.2 else none
 |[]=>rfl
 |x::m=>by
  rw [bP,oL,oL];split
  .rfl
  .exact Wx k e m
theorem agy (x:Nat×sx α) (k:List UInt8) (n:α) (a:List UInt8):oL a (Ap x k n).2=if a=k then some n else oL a x.2:=by
 unfold Ap;rcases Wy k n x.2 with ⟨b,d⟩|⟨f,b,_,_,e,_⟩
 .rw [b];show oL a (x.2++[(x.1,k,n)])=_;rw [Wx]
  by_cases c:a=k
  .subst c;rw [d]
  .rw [ai c];cases oL a x.2 with
   |some m=>rfl
   |none=>simp only;rw [ai (λh=>c h.symm)]
 .rw [b];exact e a
end
structure nG where
 agz:Int
 agA:List UInt8
deriving DecidableEq
def tu (c:Nat) (l:List jG):Nat×sx jG:=l.foldl (λx t=>Ap x t.fM t) (c,[])
def BJ (l:List jG) (p:List UInt8):Option jG:=l.reverse.find? λt=>decide (t.fM=p)
def Aq (l:List jG) (t:jG):Bool:=match BJ l t.fM with
 |none=>false
 |some x=>decide (x.iM=t.iM)
def Jy (l:List jG) (t:jG):Bool:=match BJ l t.fM with
 |none=>false
 |some x=>decide (x.iM=t.iM) && !decide (x.wW=t.wW)
def Jw (w i:List jG):List nG:=(w.reverse.filter λt=>!Aq i t).map λt=>⟨1,t.fM⟩
def GQ (w i:List jG):List nG:=(i.filter λt=>!Aq w t).map λt=>⟨2,t.fM⟩
def Jx (w i:List jG):List nG:=(i.filter λt=>Jy w t).map λt=>⟨3,t.fM⟩
def yS (w i:List jG):List nG:=Jw w i++GQ w i++Jx w i
theorem WA (c l t):tu c (l++[t])=Ap (tu c l) t.fM t:=by unfold tu;rw [bX];rfl
theorem Wz (c l p):oL p (tu c l).2=BJ l p:=by
 have k:∀ l x,oL p (l.foldl (λx t=>Ap x t.fM t) x).2=match BJ l p with|some t=>some t|none=>oL p x.2:=by
  intro l
  induction l with
  |nil=>intro x;rfl
  |cons t l i=>
   intro x;rw [bw,i];unfold BJ;rw [List.reverse_cons,List.find?_append];cases List.find? (λt=>decide (t.fM=p)) l.reverse with
   |some y=>rfl
   |none=>
    simp only [Option.none_or,List.find?_singleton];rw [agy]
    by_cases h:p=t.fM
    .rw [ak h,ak (by simp [h])]
    .rw [ai h,ai (by simpa using λq=>h q.symm)]
 have:=k l (c,[]);unfold tu;rw [this];cases BJ l p<;>rfl
structure BL where
 sy:gp nG
 Jz:Bool
def GS (q:BL) (l:List nG):BL:=
 if q.Jz=true then ⟨.mS q.sy.al,true⟩
 else if 8 - q.sy.al.length<l.length then ⟨.mS (q.sy.al++l.take (8 - q.sy.al.length)++[⟨9,[]⟩]),true⟩
 else ⟨.mS (q.sy.al++l),false⟩
def wY (q:BL):BL×gp nG:=(⟨.mS [],q.Jz⟩, .mS q.sy.al)
structure oM where
 qc:Int
 BK:List UInt8
 nS:gp (List UInt8)
 qd:Int
 qH:gp nG
def iL (e:Int):oM:=⟨e,[], .g6,0, .g6⟩
structure ft where
 fx:fG
 fA:gp Int
 jA:Int
 g8:Bool
 gS:Bool
 j8:Int
 Mv:Int
 kf:Int
 nu:Int
 gu:oM
structure iX where
 kX:Int
 qI:Int
inductive uo
 |pR
 |nf (c:fG)
 |ml (names:gp (List UInt8))
def GR (p:List UInt8):Option (gp (List UInt8)):=match kV p with
 |none=>none
 |some []=>some .g6
 |some l=>some (.mS l)
def Ar (c:fG) (all:Bool):uo:=match GR c.fR with
 |none=> .ml .g6
 |some s=>match s.al with
  |[]=> .ml s
  |_=>if all=true\/c.gD=10 then .ml s else .ml (.mS s.al.dropLast)
def jd (c:fG):uo:=
 if c.gD=4 then (if c.g7=0 then Ar c false else .pR)
 else if c.gD=7 then (if c.g7=0 then Ar c true else .pR)
 else if c.gD=1\/c.gD=2\/c.gD=3\/c.gD=10 then Ar c false
 else if c.gD=5\/c.gD=6\/c.gD=13 then .nf c
 else .pR
def rH (c:fG):Bool:=match jd c with
 | .ml _=>true
 |_=>false
def pS (c:fG):List (List UInt8):=if c.gD=5 then [c.fR,c.kE] else if c.gD=6 then [c.fR] else []
def oN (l:List eF) (d:List Int) (p:List UInt8):List Int:=match kV p with
 |none=>d
 |some []=>d
 |some (a::r)=>
  if (jR l (a::r).dropLast).2=0/\iy (jR l (a::r).dropLast).1=true/\(jR l (a::r).dropLast).1∉d then d++[(jR l (a::r).dropLast).1] else d
def C4 (l:List eF) (a b:Int):Bool:=(mT l b).contains a
def x7 (l:List eF):List Int->List Int
 |[a,b]=>if C4 l a b=false/\(C4 l b a=true\/b<a) then [b,a] else [a,b]
 |d=>d
def ng (l:List eF) (c:fG):List Int:=1::x7 l ((pS c).foldl (oN l) [])
def x6 (l:List eF) (t:ft) (names:gp (List UInt8)):iX:=match t.fA.al with
 |[]=>⟨1,0⟩
 |here::r=>
  if r≠[] then ⟨2,here⟩
  else
   let g:iX:=if (jR l names.al).2=0/\iy (jR l names.al).1=true/\(jR l names.al).1≠here then ⟨2,here⟩ else ⟨3,0⟩
   if 0<=t.jA/\t.jA<names.al.length then (match iB l here (names.al[t.jA.toNat]?.getD []) with
    |some n=>if iy n.eM=true then ⟨1,n.eM⟩ else g
    |none=>g)
   else g
def C5 (l:List eF) (t:ft) (c:fG):iX:=match (ng l c).find? λk=>!t.fA.al.contains k with
 |some k=>⟨1,k⟩
 |none=>⟨3,0⟩
def oO (l:List eF) (t:ft):iX:=
 if t.gS=true then ⟨0,0⟩
 else if t.g8=true then (match t.fA.al with
  |h::_=>⟨2,h⟩
  |[]=>if t.fx.gD=12 then ⟨4,0⟩ else ⟨5,0⟩)
 else match jd t.fx with
  | .pR=>⟨3,0⟩
  | .nf c=>C5 l t c
  | .ml names=>x6 l t names
def gl (t:ft) (u:iX):ft:=
 if u.kX=1 then {t with jA:=if t.fA.al.length=1/\rH t.fx=true then t.jA+1 else t.jA,fA:=t.fA.lR u.qI}
 else if u.kX=2 then {t with fA:=t.fA.j7 (λk=>decide (k=u.qI)),jA:=if (t.fA.j7 (λk=>decide (k=u.qI))).al=[]/\t.g8=false/\rH t.fx=true then 0 else t.jA}
 else if u.kX=3 then {t with g8:=true}
 else if u.kX=5 then {t with gS:=true}
 else t
def kY (t:ft):ft:={t with fA:= .g6,jA:=0}
def wZ (l:List eF) (o:e7) (u:Aj):List eF:=
 if gU l=true/\u.Qf=true then
  (if mK o.eO=true/\u.Qg=true/\u.xZ.eM=o.eO then l.take (il l o.eO)++[u.xZ]++l.drop (lB l o.eO) else l.take (il l o.eO)++l.drop (lB l o.eO))
 else l
structure oc where
 gN:e7
 va:Aj
structure li where
 fZ:gp oc
 ec:gp eF
def WB:li:=⟨.g6, .g6⟩
def oy (g:li) (at_:mJ):Bool:=g.fZ.al.any λe=>decide (e.gN.fa.iH=at_.iH) && decide (e.gN.fa.jw=at_.jw)
def vG (at_:mJ) (l:List oc):Nat:=(l.takeWhile λe=>ke at_ e.gN.fa).length
def tv (x:li) (o:e7):li:=⟨x.fZ.lR ⟨o,pw x.ec.al o⟩, .mS (iF x.ec.al o)⟩
def BM (n:gp eF) (e:oc):gp eF:= .mS (wZ n.al e.gN e.va)
def jO (g:li) (o:e7):li×Int:=
 if g4 o=false then (g,50)
 else if oy g o.fa=true then (g,0)
 else if 200<=g.fZ.al.length then (g,193)
 else
  let b:=vG o.fa g.fZ.al.reverse
  let f:=g.fZ.al.length - b
  let n:=(g.fZ.al.reverse.take b).foldl BM g.ec
  ((o::(g.fZ.al.drop f).map (·.gN)).foldl tv ⟨⟨g.fZ.ie,g.fZ.al.take f⟩,n⟩,0)
def GU (g:li) (l:List e7):li×Int:=l.foldl (λx o=>((jO x.1 o).1,if (jO x.1 o).2≠0 then x.2+1 else x.2)) (g,0)
structure nH where
 lZ:Int
 BN:gp eF
structure k7 where
 l0:Int
 oP:Int
 qe:BL
structure fX where
 cy:li
 jk:Int
 ky:Int
 iq:gp nH
 iG:gp k7
 jg:Int
def Mw:fX:=⟨WB,0,0, .g6, .g6,0⟩
structure iY where
 e8:fX
 kg:oM
 kQ:fG
 kZ:gp e7
def kj (l:List eF) (path:List UInt8):Int×Int:=match kV path with
 |none=>(0,10)
 |some names=>jR l names
def nT (l:List eF) (path:List UInt8):(Int×List UInt8)×Int:=match kV path with
 |none=>((0,[]),10)
 |some []=>((0,[]),194)
 |some (s::r)=>
  if (jR l (s::r).dropLast).2≠0 then ((0,[]),(jR l (s::r).dropLast).2)
  else if iy (jR l (s::r).dropLast).1=false then ((0,[]),81)
  else (((jR l (s::r).dropLast).1,(s::r).getLast (by simp)),0)
def EC (seen replica:Int):Option mJ:=if seen<0\/1048576<=seen then none else if m9 ⟨seen+1,replica⟩=true then some ⟨seen+1,replica⟩ else none
def nh (m:fX):mJ×Int:=match EC m.jk m.ky with
 |none=>(⟨0,0⟩,20)
 |some s=>if 200<=m.cy.fZ.al.length then (⟨0,0⟩,193) else (s,0)
def rI (d:iY) (o:e7):iY×Int:=match jO d.e8.cy o with
 |(g,e)=>if e≠0 then (d,e) else ({d with e8:={d.e8 with cy:=g},kZ:=d.kZ.lR o},0)
def pT (o:e7) (s:mJ):e7:=⟨s,o.iT,o.eO,o.iW,o.mI,o.n9⟩
def nU (d:iY) (o:e7):iY×Int:=match nh d.e8 with
 |(s,e)=>if e≠0 then (d,e) else (match rI d (pT o s) with
  |(a,b)=>if b≠0 then (a,b) else ({a with e8:={a.e8 with jk:=s.iH}},0))
def tw (m:fX) (h:Int):Option (gp eF):=if h=0 then some m.cy.ec else (m.iq.al.find? λs=>decide (s.lZ=h)).map (·.BN)
def vH (s:mJ) (f:Bool):Int:=if m9 s=true then 128*s.iH+2*s.jw+(if f=true then 1 else 0) else -1
def nI (k o p:Int) (n data:List UInt8):e7:=⟨⟨0,0⟩,k,o,p,n,data⟩
def uq (d:iY):iY×Int:=
 if d.kQ.fR=[47] then (d,194)
 else match nT d.e8.cy.ec.al d.kQ.fR with
  |((dir,l),e)=>
   if e≠0 then (d,e)
   else if (iB d.e8.cy.ec.al dir l).isSome=true then (d,190)
   else match nh d.e8 with
    |(s,e)=>if e≠0 then (d,e) else nU d (nI 1 (vH s (decide (d.kQ.gD=1))) dir l [])
def uv (d:iY):iY×Int:=match kj d.e8.cy.ec.al d.kQ.fR with
 |(id,e)=>if e≠0 then (d,e) else if iy id=true then (d,82) else nU d (nI 2 id 0 [] d.kQ.lS)
def JA (l:List eF) (id:Int):eF:=((if gU l=true then jN l id else none)).getD Js
def sC (d:iY):iY×Int:=match tw d.e8 d.kQ.g7 with
 |none=>(d,191)
 |some l=>match kj l.al d.kQ.fR with
  |(id,e)=>if e≠0 then (d,e) else if iy id=true then (d,82) else ({d with kg:={d.kg with BK:=(JA l.al id).qZ}},0)
def sB (d:iY):iY×Int:=match tw d.e8 d.kQ.g7 with
 |none=>(d,191)
 |some l=>match kj l.al d.kQ.fR with
  |(id,e)=>if e≠0 then (d,e) else if iy id=false then (d,81) else ({d with kg:={d.kg with nS:=⟨true,um l.al id⟩}},0)
def ur (d:iY):iY×Int:=
 if d.kQ.fR=[47]\/d.kQ.kE=[47] then (d,194)
 else match kj d.e8.cy.ec.al d.kQ.fR with
  |(id,e)=>if e≠0 then (d,e) else match nT d.e8.cy.ec.al d.kQ.kE with
   |((dir,l),e)=>
    if e≠0 then (d,e)
    else if (iB d.e8.cy.ec.al dir l).isSome=true then (d,190)
    else if dir=id\/(mT d.e8.cy.ec.al dir).contains id=true then (d,192)
    else nU d (nI 1 id dir l [])
def uu (d:iY):iY×Int:=
 if d.kQ.fR=[47] then (d,194)
 else match kj d.e8.cy.ec.al d.kQ.fR with
  |(id,e)=>if e≠0 then (d,e) else match kV d.kQ.fR with
   |none=>(d,194)
   |some []=>(d,194)
   |some (s::r)=>nU d (nI 1 id 2 ((s::r).getLast (by simp)) [])
def tA (d:iY):iY×Int:=
 if 8<=d.e8.iq.al.length then (d,193)
 else ({d with kg:={d.kg with qd:=d.e8.jg},e8:={d.e8 with iq:=d.e8.iq.lR ⟨d.e8.jg,d.e8.cy.ec⟩,jg:=d.e8.jg+1}},0)
def sA (d:iY):iY×Int:=
 if (d.e8.iq.al.any λs=>decide (s.lZ=d.kQ.g7))=false/\(d.e8.iG.al.any λs=>decide (s.l0=d.kQ.g7))=false then (d,191)
 else ({d with e8:={d.e8 with iq:=d.e8.iq.j7 λs=>decide (s.lZ=d.kQ.g7),iG:=d.e8.iG.j7 λs=>decide (s.l0=d.kQ.g7)}},0)
def vc (d:iY):iY×Int:=match kj d.e8.cy.ec.al d.kQ.fR with
 |(id,e)=>
  if e≠0 then (d,e) else if iy id=false then (d,81) else if 8<=d.e8.iG.al.length then (d,193)
  else ({d with kg:={d.kg with qd:=d.e8.jg},e8:={d.e8 with iG:=d.e8.iG.lR ⟨d.e8.jg,id,⟨.g6,false⟩⟩,jg:=d.e8.jg+1}},0)
def yT (n:Int):List k7->List k7
 |[]=>[]
 |w::l=>if w.l0=n then ⟨w.l0,w.oP,(wY w.qe).1⟩::l else w::yT n l
def vb (d:iY):iY×Int:=match d.e8.iG.al.find? λw=>decide (w.l0=d.kQ.g7) with
 |none=>(d,191)
 |some w=>({d with kg:={d.kg with qH:=(wY w.qe).2},e8:={d.e8 with iG:=⟨d.e8.iG.ie,yT d.kQ.g7 d.e8.iG.al⟩}},0)
def ra (seen:Int) (s:mJ):Int:=if m9 s=true then max seen s.iH else seen
def C6 (a b:mJ):Bool:=decide (a.iH=b.iH) && decide (a.jw=b.jw)
def l5 (g:li) (x:Int×gp e7) (o:e7):Int×gp e7:=(ra x.1 o.fa,if oy g o.fa=false/\(x.2.al.any λf=>C6 f.fa o.fa)=false then x.2.lR o else x.2)
def pa:iY->List e7->iY×Int
 |d,[]=>(d,0)
 |d,o::l=>match rI d o with
  |(a,e)=>if e≠0 then (a,e) else pa a l
theorem WE:∀ l p n m u,p=qG 10 n->q8 n p.length l=some (m,u)->gh m=(p++l).take u
 |[],_,_,_,_,_,h=>by simp [q8] at h
 |c::l,p,n,m,u,d,h=>by
  have f:=ca c
  by_cases s:(p.length=0/\c.toNat=128)\/72057594037927935<n
  .grind [Wp]
  .by_cases a:c.toNat<128
   .rw [Qk _ _ _ _ s a] at h;simp only [aG,dj] at h;obtain ⟨rfl,rfl⟩:=h;unfold gh;rw [show (n*128+c.toNat) / 128=n from om,show (n*128+c.toNat) % 128=c.toNat from om,<-d,UInt8.ofNat_toNat];grind
   .rw [Ql _ _ _ _ s a] at h;have g:n*128+c.toNat % 128≠0:=by
     intro i;have b:n=0:=om;have:p=[]:=by rw [d,b];rfl
     grind
    have e:p++[c]=qG 10 (n*128+c.toNat % 128):=by
     rw [show qG 10 (n*128+c.toNat % 128)=qG 9 ((n*128+c.toNat % 128) / 128)++[UInt8.ofNat ((n*128+c.toNat % 128) % 128+128)] from by
      grind [qG]]
     rw [show (n*128+c.toNat % 128) / 128=n from om,show (n*128+c.toNat % 128) % 128+128=c.toNat from om,UInt8.ofNat_toNat,d,Mq 9 10 n om om]
    have j:=WE l (p++[c]) (n*128+c.toNat % 128) m u e (by grind);grind
theorem agD (l m u) (h:lI l=some (m,u)):gh m=l.take u:=by
 have:=WE l [] 0 m u rfl h;simpa using this
theorem agC (f a b) (h:a<=b):px f a<=px f b:=by
 induction f generalizing a b with
 |zero=>exact aq _
 |succ f i=>
  unfold px;have:=i (a / 128) (b / 128) (Nat.div_le_div_right h);grind
theorem GV (a b) (h:a<=b):o9 a<=o9 b:=agC _ _ _ h
end Gw
namespace Go.Proofs.YtffboamedcmpaaaGreatDoor
open Gw
def uw (l:List UInt8):Option (Nat×Nat):=
 match lI l with
 |none=>none
 |some (n,u)=>if n+u<=l.length then some (n,u) else none
end Go.Proofs.YtffboamedcmpaaaGreatDoor
namespace Gw
def x8 (o:e7) (r:List UInt8):Option (e7×List UInt8):=if g4 o=true then some (o,r) else none
def rb (m:List UInt8->e7) (r:List UInt8):Option (e7×List UInt8):=match Go.Proofs.YtffboamedcmpaaaGreatDoor.uw r with
 |none=>none
 |some (n,u)=>x8 (m ((r.drop u).take n)) (r.drop (u+n))
def BO (c r n p:Nat) (e:List UInt8):Option (e7×List UInt8):=rb (λt=>⟨⟨c,r⟩,1,n,p,t,[]⟩) e
def x9 (c r n:Nat) (e:List UInt8):Option (e7×List UInt8):=match lI e with|none=>none|some (p,u)=>BO c r n p (e.drop u)
def yU (c r k n:Nat) (e:List UInt8):Option (e7×List UInt8):=
 if k=1 then x9 c r n e else rb (λt=>⟨⟨c,r⟩,k,n,0,[],t⟩) e
def Av (c r k:Nat) (e:List UInt8):Option (e7×List UInt8):=match lI e with|none=>none|some (n,u)=>yU c r k n (e.drop u)
def Au (c r:Nat) (e:List UInt8):Option (e7×List UInt8):=match lI e with|none=>none|some (k,u)=>Av c r k (e.drop u)
def At (c:Nat) (e:List UInt8):Option (e7×List UInt8):=match lI e with|none=>none|some (r,u)=>Au c r (e.drop u)
def pb (r:List UInt8):Option (e7×List UInt8):=match lI r with|none=>none|some (c,u)=>At c (r.drop u)
theorem WG {m e r o} (h:rb m e=some (o,r)):r.length<=e.length:=by
 unfold rb x8 at h;split at h
 .cases h
 .split at h
  .simp only [aG,dj] at h;rw [<-h.2,aV];omega
  .cases h
theorem agH {c r n e q o} (h:x9 c r n e=some (o,q)):q.length<=e.length:=by
 unfold x9 BO at h;split at h
 .cases h
 .have:=WG h;rw [aV] at this;omega
theorem agI {c r k n e q o} (h:yU c r k n e=some (o,q)):q.length<=e.length:=by
 unfold yU at h;split at h
 .exact agH h
 .exact WG h
theorem agG {c r k e q o} (h:Av c r k e=some (o,q)):q.length<=e.length:=by
 unfold Av at h;split at h
 .cases h
 .have:=agI h;rw [aV] at this;omega
theorem agF {c r e q o} (h:Au c r e=some (o,q)):q.length<=e.length:=by
 unfold Au at h;split at h
 .cases h
 .have:=agG h;rw [aV] at this;omega
theorem agE {c r q o} (h:At c r=some (o,q)):q.length<=r.length:=by
 unfold At at h;split at h
 .cases h
 .have:=agF h;rw [aV] at this;omega
theorem Qo {r q o} (h:pb r=some (o,q)):q.length<r.length:=by
 unfold pb at h;split at h
 .cases h
 .rename_i n u b;have a:=agE h;have c:=Jt r 0 0 n u om b;rw [aV] at a;omega
def qJ:Nat->List UInt8->List e7->Option (List e7)
 |0,_,acc=>some acc
 |f+1,b,acc=>if b=[] then some acc else match pb b with
  |none=>none
  |some (o,r)=>qJ f r (acc++[o])
def ux (b:List UInt8):Option (List e7):=qJ (b.length+1) b []
def tB (d:iY):iY×Int:=match ux d.kQ.lS with
 |none=>(d,50)
 |some l=>
  let x:=l.foldl (l5 d.e8.cy) (d.e8.jk, .g6)
  if 200<d.e8.cy.fZ.al.length+x.2.al.length then (d,193)
  else match pa d x.2.al with
   |(b,e)=>if e≠0 then (b,e) else ({b with kg:={b.kg with qd:=x.2.al.length},e8:={b.e8 with jk:=x.1}},0)
def vI (k:Int):Option (iY->iY×Int):=
 if k=1\/k=2 then some uq else if k=3 then some uv else if k=4 then some sC else if k=5 then some ur else if k=6 then some uu
 else if k=7 then some sB else if k=8 then some tA else if k=9 then some sA else if k=10 then some vc else if k=11 then some vb
 else if k=12 then some λd=>(d,0) else if k=13 then some tB else none
def rK (a n:List eF) (w:k7):k7:=⟨w.l0,w.oP,GS w.qe (yS (jo a w.oP) (jo n w.oP))⟩
def GW (d:iY) (w:List eF):iY:={d with e8:={d.e8 with iG:=⟨d.e8.iG.ie,d.e8.iG.al.map (rK w d.e8.cy.ec.al)⟩}}
def gA (m:fX) (c:fG):fX×oM×gp e7:=
 if uj c=false then (m,iL 180, .g6)
 else match vI c.gD with
  |none=>(m,iL 180, .g6)
  |some f=>match f ⟨m,iL 0,c, .g6⟩ with
   |(d,e)=>
    if e≠0 then (m,iL e, .g6)
    else if d.kZ.al=[] then (d.e8,d.kg,d.kZ) else ((GW d m.cy.ec.al).e8,d.kg,d.kZ)
def rJ (replica:Int):fX×Int:=if replica<0\/63<replica then (Mw,20) else ({Mw with ky:=replica,jg:=1},0)
def Mx (m:fX) (l:List e7):fX:={m with cy:=(GU m.cy l).1,jk:=l.foldl (λs o=>if g4 o=true then ra s o.fa else s) m.jk}
structure fK where
 gf:Int
 ig:Int
deriving DecidableEq
structure kz where
 iV:gp fK
 fH:gp fK
def yW (t:kz) (l:Int):Option Int:=(t.iV.al.find? λh=>decide (h.gf=l)).map (·.ig)
def yX (t:kz) (r:Int):Option Int:=(t.fH.al.find? λh=>decide (h.ig=r)).map (·.gf)
def mV {α:Type} (p:α->Bool):List α->List α
 |[]=>[]
 |a::l=>if p a=true then l else a::mV p l
def kl (h:kz) (t l:Int):kz×Option Int:=
 match h.iV.al.any λx=>decide (x=⟨l,t⟩) with
 |false=>(h,none)
 |true=>match h.fH.al.find? λw=>decide (w.gf=l) with
  |none=>(⟨.mS (mV (λx=>decide (x=⟨l,t⟩)) h.iV.al),h.fH⟩,none)
  |some next=>(⟨.mS (mV (λx=>decide (x=⟨l,t⟩)) h.iV.al++[next]), .mS (mV (λw=>decide (w.gf=l)) h.fH.al)⟩,some next.ig)
def pc (t:kz) (r l:Int):kz×Bool:=
 match yW t l with
 |some h=>if h=r then (t,true) else if (t.fH.al.any λw=>decide (w=⟨l,r⟩))=true then (t,false) else (⟨t.iV,t.fH.lR ⟨l,r⟩⟩,false)
 |none=>(⟨t.iV.lR ⟨l,r⟩,t.fH⟩,true)
def nV (t:Int) (x:kz×gp fK) (e:fK):kz×gp fK:=
 if e.ig=t then (match kl x.1 t e.gf with
  |(h,some next)=>(h,x.2.lR ⟨e.gf,next⟩)
  |(h,none)=>(h,x.2)) else x
def l6 (t:kz) (h:Int):kz×gp fK:=t.iV.al.foldl (nV h) (⟨t.iV,t.fH.j7 λw=>decide (w.ig=h)⟩, .g6)
structure kF where
 js:Int
 pz:Int
structure py where
 mC:Int
 iI:gp kF
def EE (t upto:Int):List kF->List kF
 |[]=>[]
 |w::l=>if w.js=t then ⟨w.js,max w.pz upto⟩::l else w::EE t upto l
def mo (g:py) (t:Int):Bool:=g.iI.al.any λw=>decide (w.js=t)
def yV (g:py) (t upto:Int):py×Bool:=
 if upto<=g.mC then (g,true) else if mo g t=true then (⟨g.mC,⟨g.iI.ie,EE t upto g.iI.al⟩⟩,false) else (⟨g.mC,g.iI.lR ⟨t,upto⟩⟩,false)
def ED (g:py):Option (Int×Int):=match g.iI.al with
 |[]=>none
 |w::l=>some (w.js,(w::l).foldl (λm x=>max m x.pz) w.pz)
def vJ (g:py) (kept:Int):py×gp Int:=
 (⟨max g.mC kept,⟨true,g.iI.al.filter λw=>!decide (w.pz<=max g.mC kept)⟩⟩, .mS ((g.iI.al.filter λw=>decide (w.pz<=max g.mC kept)).map (·.js)))
structure fb where
 ep:fX
 fg:kz
 fm:py
 bf:gp ft
 eZ:Int
 eL:gp e7
def agK:kz:=⟨.g6, .g6⟩
def agJ:py:=⟨0, .g6⟩
def Qp:fb:=⟨Mw,agK,agJ, .g6,0, .g6⟩
def nJ (replica:Int):fb×Int:=match rJ replica with
 |(m,e)=>if e≠0 then (Qp,e) else ({Qp with ep:=m},0)
def w4 (c:fG) (b:Int):ft:=⟨c, .g6,0,false,false,0,b,0,0,iL 0⟩
def pC (x:fb) (c:fG):fb×Int×Int:=
 if 40<=x.bf.al.length then (x,0,193)
 else ({x with eZ:=x.eZ+1,bf:=x.bf.lR (w4 c (x.eZ+1))},x.bf.al.length,0)
def oe (x:fb) (n:Nat) (t:ft):Bool:=
 if t.gS=true then false
 else if (yX x.fg n).isSome=true then false
 else if mo x.fm n=true then (match ED x.fm with
  |some (first,_)=>decide (first=n)
  |none=>false)
 else true
def mq (x:fb):Nat->List ft->List Int
 |_,[]=>[]
 |n,t::l=>if oe x n t=true then (n:Int)::mq x (n+1) l else mq x (n+1) l
def yY (x:fb):List Int:=mq x 0 x.bf.al
def uy (p:Int) (n:Nat):Nat:=((p.tmod n+n).tmod n).toNat
def pB (x:fb) (p:Int):Option (Int×Bool):=match yY x with
 |[]=>none
 |a::l=>some (((a::l)[uy p (l.length+1)]?).getD 0,mo x.fm (((a::l)[uy p (l.length+1)]?).getD 0))
def jh (l:List ft) (n:Int) (f:ft->ft):List ft:=if n<0 then l else l.modify n.toNat f
def iC (x:fb) (n:Int) (f:ft->ft):fb:={x with bf:=⟨x.bf.ie,jh x.bf.al n f⟩}
def lT (x:fb) (h:fK):fb:=iC x h.ig λt=>gl t ⟨1,h.gf⟩
def lK (x:fb) (n:Int):fb:=iC x n λt=>{t with gS:=true,nu:=x.eZ}
def pA (x:fb) (who:Int) (full:Bool):fb:=
 if full=true then
  lK (iC {x with fm:=⟨x.fm.mC,x.fm.iI.j7 λw=>decide (w.js=who)⟩} who λt=>{t with gu:=iL 120}) who
 else match vJ x.fm x.eL.al.length with
  |(g,gone)=>gone.al.foldl lK {x with fm:=g}
def kA (x:fb) (who:Int) (u:iX):fb:=iC x who λt=>gl t u
def rM (x:fb) (who:Int) (u:iX):fb:=match pc x.fg who u.qI with
 |(t,has)=>if has=true then kA {x with fg:=t} who u else {x with fg:=t}
def rL (x:fb) (who:Int) (u:iX):fb:=match kl x.fg who u.qI with
 |(t,none)=>kA {x with fg:=t} who u
 |(t,some next)=>lT (kA {x with fg:=t} who u) ⟨u.qI,next⟩
def mW (x:fb) (who:Int):fG:=match x.bf.al[who.toNat]? with
 |some t=>t.fx
 |none=>⟨0,[],[],[],0⟩
def nW (who:Int) (x:fb) (n:Nat):fb:=match x.bf.al[n]? with
 |none=>x
 |some t=>if (n:Int)≠who/\rH t.fx=true/\t.g8=false then
   (match l6 x.fg n with
    |(b,p)=>p.al.foldl lT (iC {x with fg:=b} n kY))
  else x
def vK (x:fb) (who:Int):fb:=(List.range x.bf.al.length).foldl (nW who) x
def od (x:fb) (who:Int) (u:iX):fb:=match gA x.ep (mW x who) with
 |(m,a,ops)=>
  let y:=kA (iC {x with ep:=m,eL:=⟨(x.eL.gj ops.al).ie,(x.eL.gj ops.al).al⟩} who λt=>{t with gu:=a,kf:=x.eZ,j8:=(x.eL.gj ops.al).al.length}) who u
  if (mW x who).gD=13/\a.qc=0 then vK y who else y
def BP (x:fb) (who:Int):Int:=match x.bf.al[who.toNat]? with
 |some t=>t.j8
 |none=>0
def sE (x:fb) (who:Int):fb:=match yV x.fm who (BP x who) with
 |(g,kept)=>if kept=true then lK {x with fm:=g} who else {x with fm:=g}
def w5 (x:fb) (who:Int) (u:iX):fb:=iC (kA x who u) who λt=>{t with nu:=x.eZ}
def pd (x:fb) (who:Int) (u:iX):fb:=
 if u.kX=1 then rM x who u else if u.kX=2 then rL x who u else if u.kX=3 then od x who u else if u.kX=4 then sE x who else if u.kX=5 then w5 x who u else x
def w6 (x:fb) (who:Int):iX:=match x.bf.al[who.toNat]? with
 |some t=>oO x.ep.cy.ec.al t
 |none=>⟨0,0⟩
def nN (x:fb) (p:Int) (full:Bool):fb:=match pB x p with
 |none=>x
 |some (who,waits)=>if waits=true then pA {x with eZ:=x.eZ+1} who full else pd {x with eZ:=x.eZ+1} who (w6 x who)
def vL (x:fb):Bool:=x.bf.al.all (·.gS)
theorem EF (l):gU l=true↔(∀ n∈l,mK n.eM=true)/\l.Pairwise λa b=>a.eM<b.eM:=by
 constructor
 .grind [List.pairwise_iff_getElem,CX,List.getElem_of_mem,Qh]
 .rintro ⟨c,d⟩;refine bi.2 λk h=>?_
  have h:=dS.1 h;unfold x1;rw [aj h];show (mK l[k].eM && Mo l l[k].eM k)=true;rw [c _ (aI h),bo];cases k with
  |zero=>rfl
  |succ j=>
   show (match l[j]? with|none=>false|some p=>decide (p.eM<l[j+1].eM))=true;rw [aj (show j<l.length by omega)];grind [List.pairwise_iff_getElem]
theorem JC {l o} (h:lH l o=true):gU l=true/\g4 o=true/\mK o.eO=true:=by
 grind [lH,g4,wV,Ai]
theorem Qr {l:List eF} {id:Int}:∀ a∈l.take (il l id),a.eM<id:=λa b=>by
 obtain ⟨k,c,rfl⟩:=bC b;rw [aT] at c;obtain ⟨_,h⟩:=Wi (l:=l) (id:=id) (k:=k) om;simp_all
theorem Qq {l} (h:gU l=true) {id}:∀ b∈l.drop (lB l id),id<b.eM:=λb c=>by
 obtain ⟨k,f,rfl⟩:=bC c;rw [aV] at f;rw [List.getElem_drop];have p:il l id<l.length:=by grind [lB]
 have i:=Wh p;have j:o8 l id=decide (l[il l id].eM=id):=by grind [o8]
 by_cases d:o8 l id=true
 .have e:l[il l id].eM=id:=by simp_all
  have a:lB l id=il l id+1:=by grind [lB]
  have:=CX h (show il l id<lB l id+k by omega) om;omega
 .have e:l[il l id].eM≠id:=λe=>d (by simp_all)
  have a:lB l id=il l id:=by grind [lB]
  by_cases g:k=0
  .grind
  .have:=CX h (show il l id<lB l id+k by omega) om;omega
theorem JB (l o):(mj ((jN l o.eO).getD (tj o.eO)) o).eM=o.eO:=by
 rw [Wj];cases h:jN l o.eO with
 |none=>rfl
 |some m=>exact (tg h).2.1
theorem C7 {l:List eF} (d:gU l=true) (o:e7):gU (iF l o)=true:=by
 by_cases m:lH l o=true
 .obtain ⟨_,_,k⟩:=JC m;obtain ⟨g,e⟩:=(EF l).1 d;unfold iF;rw [ak m];have i:=JB l o;refine (EF _).2 ⟨λn j=>?_,?_⟩
  .grind
  .rw [aA];refine cG.2 ⟨e.sublist (List.take_sublist _ _),cb.2 ⟨λb h=>?_,e.sublist (List.drop_sublist _ _)⟩,λa f b h=>?_⟩
   .rw [i];exact Qq d b h
   .have c:=Qr a f;rcases aK.1 h with rfl|h
    .rw [i];exact c
    .have:=Qq d b h;omega
 grind [iF]
def ni (n:eF):Prop:=(m9 n.lA=true->iy n.jj=true/\ta n.iU=true)/\n.iU.length<=1000
theorem agL {l} (h:∀ n∈l,ni n) (o) (c:o.mI.length<=1000):∀ n∈iF l o,ni n:=λn a=>by
 rcases Jq a with a|⟨b,a,_⟩
 .exact h n a
 .have d:ni ((jN l o.eO).getD (tj o.eO)):=by
   cases f:jN l o.eO with
   |none=>exact ⟨λq=>absurd q (by trivial),ar _⟩
   |some m=>exact h m (tg f).1
  subst a;unfold mj;split
  .rename_i k;refine ⟨λ_=>?_,c⟩;have e:=(JC b).2.1;grind [g4,wV]
  .exact d
def yZ (l:List eF) (dir:Int) (path:List UInt8):List jG->List jG->Prop
 |_,[]=>True
 |pre,it::r=>(∃ n∈l,n.eM=it.iM/\na n n.jj=true/\n.qZ=it.wW/\((n.jj=dir/\it.fM=rG path n.iU)\/∃ j∈pre,j.iM=n.jj/\it.fM=rG j.fM n.iU))/\yZ l dir path (pre++[it]) r
theorem yZ.WI {l dir path}:∀ a b p,yZ l dir path p a->yZ l dir path (p++a) b->yZ l dir path p (a++b)
 |[],b,p,_,h=>by simp_all
 |it::a,b,p,h,c=>⟨h.1,yZ.WI a b (p++[it]) h.2 (by simp_all)⟩
theorem yZ.WJ {l dir d path p}:∀ a r,yZ l d p r a->(∃ j∈r,j.iM=d/\j.fM=p)->yZ l dir path r a
 |[],_,_,_=>trivial
 |it::a,r,h,k=>by
  obtain ⟨⟨n,c,e,f,b,i⟩,g⟩:=h;refine ⟨⟨n,c,e,f,b, .inr ?_⟩,yZ.WJ a (r++[it]) g (by simp_all)⟩;grind
theorem WN {l:List eF} {dir:Int} {path:List UInt8} {g:List UInt8->List jG}:∀ (N:List (List UInt8)),(∀ s∈N,∀ p,yZ l dir path p (g s))->∀ p,yZ l dir path p (N.flatMap g)
 |[],_,_=>trivial
 |s::N,h,p=>by
  rw [cA];exact yZ.WI _ _ _ (h s aP p) (WN N (λt a=>h t (aQ _ a)) _)
theorem BQ {n dir} (h:na n dir=true):n.jj=dir/\m9 n.lA=true/\na n n.jj=true:=by
 grind [na]
theorem WK (l:List eF) (outs:List Int):∀ (f:Nat) (dir:Int) (path:List UInt8) (p:List jG),yZ l dir path p (mL l outs f dir path)
 |0,_,_,_=>trivial
 |f+1,dir,path,p=>by
  rw [mL];unfold BI;refine WN _ (λs _ p=>?_) p;unfold tl;cases c:jJ s (lJ l outs dir) with
  |none=>trivial
  |some n=>
   obtain ⟨h,a,b,e⟩:=x3 c;obtain ⟨q,_,d⟩:=BQ a;show yZ l dir path p (⟨rG path s,n.eM,n.qZ⟩::(if iy n.eM=true then mL l outs f n.eM (rG path s) else []));refine ⟨⟨n,h,rfl,d,rfl, .inl ⟨q,by rw [b]⟩⟩,?_⟩;split
   .exact yZ.WJ _ _ (WK l outs f n.eM (rG path s) _) ⟨_,aF.2 (.inr aP),rfl,rfl⟩
   .trivial
theorem WM {l dir path}:∀ I p,yZ l dir path p I->∀ i (h:i<I.length),∃ n∈l,n.eM=I[i].iM/\na n n.jj=true/\n.qZ=I[i].wW/\((n.jj=dir/\I[i].fM=rG path n.iU)\/∃ j∈p++I.take i,j.iM=n.jj/\I[i].fM=rG j.fM n.iU)
 |[],_,_,i,h=>by simp at h
 |it::I,p,s,0,_=>by
  obtain ⟨n,a⟩:=s.1;grind
 |it::I,p,s,i+1,h=>by
  obtain ⟨n,a,c,d,b,e⟩:=WM I (p++[it]) s.2 i (by simpa using h);grind
theorem agM {s c r r'} (h:(47:UInt8)∉s) (f:(47:UInt8)∉c) (g:r=[]\/∃ q,r=47::q) (d:r'=[]\/∃ q,r'=47::q) (e:s++r=c++r'):s=c:=by
 induction s generalizing c with
 |nil=>
  cases c with
  |nil=>rfl
  |cons b c=>
   simp_all
 |cons a s i=>
  cases c with
  |nil=>
   grind
  |cons b c=>
   grind
def WH (path s p:List UInt8):Prop:=∃ r,p=path++(47::(s++r))/\(r=[]\/∃ q,r=47::q)
theorem My {l outs}:∀ (f:Nat) {dir:Int} {path:List UInt8},∀ t∈mL l outs f dir path,∃ n∈l,na n dir=true/\WH path n.iU t.fM
 |0,_,_,t,h=>by cases h
 |f+1,dir,path,t,h=>by
  rw [mL] at h;obtain ⟨s,n,_,d,i⟩:=Qn h;obtain ⟨b,c,a,g⟩:=x3 d;refine ⟨n,b,c,?_⟩;rcases aK.1 i with rfl|i
  .exact ⟨[],by rw [a,aH];show path++[47]++s=_;simp_all, .inl rfl⟩
  .split at i
   .obtain ⟨m,_,_,r,e,_⟩:=My f t i;exact ⟨47::(m.iU++r),by rw [e,a];show path++[47]++s++_=_;simp, .inr ⟨_,rfl⟩⟩
   .cases i
theorem Qs {l} (u:∀ n∈l,ni n) {outs}:∀ (f:Nat) {dir:Int} {path:List UInt8},(mL l outs f dir path).Pairwise λa b=>a.fM≠b.fM
 |0,_,_=> .nil
 |f+1,dir,path=>by
  rw [mL];unfold BI;have D:=Mt l outs dir;have h:∀ s n,jJ s (lJ l outs dir)=some n->(47:UInt8)∉s/\∀ t∈C2 (mL l outs f) path s n,WH path s t.fM:=λs n p=>by
   obtain ⟨w,z,A,I⟩:=x3 p;obtain ⟨_,q,_⟩:=BQ z;have c:=(Mn ((u n w).1 q).2).1;rw [A] at c;refine ⟨c,λt i=>?_⟩;rcases aK.1 i with rfl|i
   .exact ⟨[],by rw [aH];show path++[47]++s=_;simp_all, .inl rfl⟩
   .split at i
    .obtain ⟨m,_,_,r,e,_⟩:=My f t i;exact ⟨47::(m.iU++r),by rw [e];show path++[47]++s++_=_;simp, .inr ⟨_,rfl⟩⟩
    .cases i
  rw [List.pairwise_flatMap];refine ⟨λs _=>?_,?_⟩
  .unfold tl;cases p:jJ s (lJ l outs dir) with
   |none=>exact .nil
   |some n=>
    refine cb.2 ⟨λt i=>?_,?_⟩
    .split at i
     .obtain ⟨m,_,_,r,e,_⟩:=My f t i;simp_all
     .cases i
    .split
     .exact Qs u f
     .exact .nil
  .have d:(oZ ((lJ l outs dir).map (·.2.1))).Nodup:=(ui _).nodup_iff.2 D.u5;refine d.imp fun {a b} B=>λx g y j e=>?_
   unfold tl at g j;cases k:jJ a (lJ l outs dir) with
   |none=>simp_all
   |some n=>
    cases o:jJ b (lJ l outs dir) with
    |none=>simp_all
    |some m=>
     rw [k] at g;rw [o] at j;obtain ⟨K,F⟩:=h a n k;obtain ⟨L,q⟩:=h b m o;obtain ⟨r,H,J⟩:=F x g;obtain ⟨N,v,E⟩:=q y j;grind [List.append_cancel_left,agM]
end Gw
namespace Go.Am
open Go.RowKit
section
theorem iE.agN {P σ r nt q n c K} (t e s) {isNil sz} (O:σ (.ct t)= .bg (.a8 isNil sz [] .fW)) (u:Nat.blt t nt=true)
  (h:iE P r nt q c (fc (fc σ (.eT n) (.eU e s 0)) (.ct t) (.bg (.a8 isNil s [] (.hJ n)))) (n+1) K):iE P r nt q c σ n K:=by
 refine ⟨λb H a w z m=>?_⟩;obtain ⟨g,l,f,E,L⟩:=m;obtain ⟨A,d⟩:=l.FE (t:=e) (sz:=s) (N:=0) l.sh.2;have B:fl b (fc (fc σ (.eT n) (.eU e s 0)) (.ct t) (.bg (.a8 isNil s [] (.hJ n)))) (·<n+1) (g.p7 n 0) w:=
  (A.xx (λF=>g9 (by intro e;cases e)) (λF=>g9 (by intro e;cases e))).mQ (λi p=>by omega)
 refine h.nM b H a w z ⟨_,B,⟨f.qU,f.sg,λi p=>?_⟩,E.lF d,om⟩;have k:=f.oW i p
 by_cases j:i=t
 .subst j;have v:jx σ i= .a8 isNil sz [] .fW:=by grind [jx]
  rw [v] at k;rw [Gx];obtain ⟨I,J,y,D,o⟩:=(k.oU d).nq;rw [y];refine .m7 ((mR.kd _ _ _).ue _ _ _ D) ?_;exact ⟨none,0,by simp [gX.p7],aq _,λ_=> .inl ⟨o,rfl⟩⟩
 .rw [Ac (by grind)];have x:jx (fc σ (.eT n) (.eU e s 0)) i=jx σ i:=by trivial
  rw [x];exact k.oU d
variable {P:Program} {T:iw} {σ:eK}
theorem agO (R T fn):VS R T fn=yN T fn (λv σ _=>∃ res,R res/\CP mR σ v res):=by funext e _ _;cases e<;>rfl
theorem VB.MA (u:jc P T) {f fn c} (m:P.funcs[f]? =some fn) (b:fn.body=some c) (n:(fn.name== "runtime.NumGoroutine")=false) {args R} (z:Nat.ble args.length fn.ntmps=true) (d:pN fn.ntmps fn.results.toList=true)
  (h:iE P none fn.ntmps 0 c (sj args) 0 (VS R T fn)):VB P f args R:=by
 rw [UY,agO] at h;refine ⟨pL m b n,λw F s j g l B=>(fF.IR (fF.Bm u m b n z d h) w F j g (fl.LG w F j g) l λi x v D E=> .fJ (B i x v D E)).mono ?_⟩;rintro _ K ⟨v,x,H,J,I,y,⟨e,t,a⟩,r,A,b,p,q⟩;exact ⟨v,_,e,y,b,λk o a=> .inl (p k o a),λk o a=>a.elim (q k o) .inr,t,CP.Pn (λ_ _ h=>h) A a r⟩
theorem er.Mz {f args res} (h:VB P f args (λr=>mR r res)):er P f args res:=
 ⟨h.afQ,λw F a k l m n=>(h.afR w F a k l m n).mono λ_ _ ⟨v,b,_,e,c,d,g,i,j⟩=>⟨v,b,e,c,d,g,i.ue _ _ _ j⟩⟩
end
section
variable {P:Program} {T:iw} {σ:eK} {o:Oper} {n:Nat} {K:b9->eK->Nat->Prop}
theorem qu.agP {mt kt et} (N:P.underlying mt=some (.map kt et)) {d} (p:o.op= .call d) (j:d.callee= .builtin .clear) (q:d.argTypes[0]? =some mt) {x} (r:d.args=#[x])
  {m l es} (R:eR σ x= .gi m) (A:σ (.ay m)= .iD (.jq l es))
  (F:K (.dn []) (fc σ (.ay m) (.iD (.jq l []))) (n+1)):qu P o σ n K:=by
 refine ⟨λb g a w h O=>?_⟩;have k:=O x (by simp [p,Op.operands,Call.operands,r]);rw [R] at k;obtain ⟨c,z,E⟩:=k.Bb;obtain ⟨B,f,Y⟩:=h.xz m _ c A z;have L:(σ (.ay m)).jb=true:=by rw [A];rfl
 have s:∀ {y:World},(Builtin.clear_ d.argTypes o.type #[a.eval x]).run P w= .ok (.tuple #[]) y->(execOp a.eval o).run P w= .ok (.value (.tuple #[])) y:=by
  intro y H;obtain ⟨D,Z,ty,W,t,u⟩:=o;simp only at p;subst p;refine xK j ?_;simp only [builtin,r,List.map_toArray,bp,cJ,Sem.run_bind,H,Result.andThen_ok,Sem.run_pure]
 obtain ⟨Q,J⟩:=Jk (es':=#[]) (clock':=l) f;obtain ⟨S,U⟩:=h.ot (X:= .iD (.jq l [])) L z Q (λ_=>⟨[],J,rfl,λi e x I=>by simp at I⟩);refine ⟨.value (.tuple #[]), .tuple #[],_, .dn [],_,n+1,g,s ?_, .inl rfl,F,aZ n, .nR (vs:=[]) rfl (λi x v f=>by simp at f),S.uV (aZ n),U⟩;simp [Builtin.clear_,q,E,run_underlying N,MapKept.run_getObj_map f,MapKept.run_setObj_map _ f,Result.andThen]
end
end Go.Am
namespace Go.Proofs.YtffboamedcmpaaaGreatDoor
open Gw
open Go.Am
open Go.Proofs.Tryz Tryz
def lU (l:List Int):List (List b9):=l.map λr=>[.ax .i32 r]
theorem WQ (s p:List UInt8):er prog 239 [.cp s, .cp p] (.eD (tc p s)):=by
 unfold tc;refine fS func239 ?_
 conv=>whnf
 refine ab (λh=>?_) λh=>?_
 .refine cx ?_;simp_all
 .conv=>whnf
  grind
theorem agU (s p:List UInt8):er prog 260 [.cp s, .cp p] (.eD (tc p s)):=by
 refine fS func260 ?_
 conv=>whnf
 refine fF.kc (WQ s p) rfl ?_
 conv=>whnf
theorem agQ (r:Int):er prog 244 [.ax .i32 r] (.eD (Et r)):=by
 unfold Et;refine fS func244 ?_
 conv=>whnf
 refine ⟨λh=>?_,λh=>?_⟩
 .conv=>whnf
  rw [h];rfl
 .rw [h]
  conv=>whnf
  refine ⟨λa=>?_,λa=>?_⟩
  .have a:r=47:=by simpa using a
   conv=>whnf
   simp_all
  .have a:¬r=47:=by simpa using a
   conv=>whnf
   grind
theorem agV (n:Bool) (l:List Int) (f:l.length<=4611686018427387904):er prog 281 [.a8 n 1 (lU l) .dm, .eW 244 [] []] (.ax .i64 (Mj l)):=by
 have e:(lU l).length=l.length:=by simp [lU]
 refine fS func281 ?_
 conv=>whnf
 refine iE.gY (λk:Nat=>[(.ct 0, .bg (.a8 n 1 (lU l) .dm)),(.ct 1, .bg (.eW 244 [] [])),(.ct 7, .bg (.ax .i64 l.length)),(.ct 8, .bg (.ax .i64 k))]) 0
  (λk=>k<=l.length/\(l.take k).findIdx? Et=none) (λk=>l.length - k) dd 0 ⟨ar _,rfl⟩ ⟨rfl,rfl,rfl,rfl,?_,af⟩ ?_
 .show gC.bg (b9.ax .i64 ((lU l).length:Nat))=_;rw [e]
 rintro k ⟨d,o⟩;refine gk ?_;refine ab (λh=>?_) λh=>?_
 .have t:k<l.length:=om;have b:(lU l)[k]? =some [.ax .i32 l[k]]:=by grind [lU]
  have c:=agQ l[k];refine cx ?_;refine ⟨λa=>?_,λa=>?_⟩
  .conv=>whnf
   grind [List.findIdx?_eq_some_iff_getElem,Mj]
  .conv=>whnf
   refine ⟨k+1,⟨om,?_⟩,by grind,rfl,rfl,rfl,rfl,rfl,rfl,?_,rfl,ae⟩
   .grind [List.take_succ_eq_append_getElem]
   .exact ix
 .obtain rfl:k=l.length:=om;rw [aN] at o
  conv=>whnf
  grind [Mj]
theorem agT (n:Bool) (l:List Int) (h:l.length<=4611686018427387904):er prog 243 [.a8 n 1 (lU l) .dm, .eW 244 [] []] (.eD (l.any Et)):=by
 refine fS func243 ?_
 conv=>whnf
 refine fF.kc (agV n l h) rfl ?_
 conv=>whnf
 congr 1;grind [Mj]
def agX (o:Option (List Int)):b9:=match o with
 |none=> .dn [.a8 true 1 [] .dm, .eD false]
 |some l=> .dn [.a8 false 1 (lU l) .dm, .eD true]
theorem WU (s:List UInt8) (o:s.length<=1048576):er prog 221 [.cp s] (agX (qE s)):=by
 refine fS func221 ?_
 conv=>whnf
 refine ⟨⟨om,ji om dd⟩,?_⟩
 conv=>whnf
 refine iE.gY (X:=Nat×List Int) (λx=>[(.ct 0, .bg (.cp s)),(.ct 4, .bg (.a8 false 1 (lU x.2) (.je 4))),(.ct 5, .bg .fU),(.ct 12, .bg (.gH 8)),(.eT 4, .eU 21 1 x.2.length),(.ay 8, .mP s x.1)]) 9
  (λx=>x.1<=s.length+4/\x.2.length<=x.1/\∃ f,s.length<f+x.1/\qE s=td s f x.1 x.2) (λx=>s.length - x.1) dd (0,[]) ⟨om,aq _,s.length+1,om,rfl⟩
  ⟨rfl,rfl,rfl,rfl,rfl,rfl,rfl,rfl,rfl,rfl,rfl,rfl,trivial⟩ ?_
 rintro ⟨p,a⟩ ⟨i,j,f,k,h⟩;simp only at i j k h;have l:(lU a).length=a.length:=by simp [lU]
 refine gk ?_
 by_cases d:p<s.length
 .obtain ⟨f,rfl⟩:∃ g,f=g+1:=⟨f - 1,om⟩;rw [td,ak d] at h;refine ⟨true,(aO d).symm,?_⟩;have m:=Mi s p;have n:=P2 s p
  conv=>whnf
  refine ⟨λb=>?_,λb=>?_⟩
  .have b:((pO s p).1:Int)≠65533:=by
    grind [pO]
   rw [ak (.inl b)] at h
   conv=>whnf
   refine ⟨⟨l.symm,ji (by grind) dd⟩,?_⟩
   conv=>whnf
   refine ⟨(p+(pO s p).2,a++[((pO s p).1:Int)]),⟨om,by grind,f,om,h⟩,by grind,rfl,rfl,?_,rfl,rfl,rfl,rfl,rfl,?_,af⟩
   .show gC.bg (b9.a8 false 1 (lU a++[[b9.ax .i32 ((pO s p).1:Int)]]) _)=gC.bg (b9.a8 false 1 (lU (a++[((pO s p).1:Int)])) _);grind [lU]
   .show gC.eU _ 1 ((lU a).length+1)=gC.eU _ 1 (a++[_]).length;simp_all
  .have b:((pO s p).1:Int)=65533:=by
    grind [pO]
   have r:=agU (s.drop p) [239,191,189];refine gI ?_;refine cx ?_;refine ⟨λc=>?_,λc=>?_⟩
   .rw [ak (.inr c)] at h
    conv=>whnf
    refine ⟨⟨l.symm,ji (by grind) dd⟩,?_⟩
    conv=>whnf
    refine ⟨(p+(pO s p).2,a++[((pO s p).1:Int)]),⟨om,by grind,f,om,h⟩,by grind,rfl,rfl,?_,rfl,rfl,rfl,rfl,rfl,?_,af⟩
    .show gC.bg (b9.a8 false 1 (lU a++[[b9.ax .i32 ((pO s p).1:Int)]]) _)=gC.bg (b9.a8 false 1 (lU (a++[((pO s p).1:Int)])) _);grind [lU]
    .show gC.eU _ 1 ((lU a).length+1)=gC.eU _ 1 (a++[_]).length;simp_all
   .rw [ai (by rw [b,c];simp)] at h
    conv=>whnf
    rw [h];rfl
 .refine ⟨false,(aJ d).symm,?_⟩;have e:td s f p a=some a:=by
   cases f with
   |zero=>rfl
   |succ f=>grind [td]
  rw [e] at h;rw [h];exact fu
theorem WR (s:List UInt8) (g:s.length<=1048576):er prog 207 [.cp s] (.eD (ta s)):=by
 have f:=WU s g;have n:∀ l,qE s=some l->l.length<=1048576:=λl h=>av (VY h) g
 cases o:qE s with
 |none=>
  have e:ta s=false:=by grind [ta]
  rw [o] at f;rw [e];refine fS func207 ?_;exact jf
 |some l=>
  have k:=n l o;have i:(lU l).length=l.length:=by simp [lU]
  have j:=agT false l om;have e:ta s=GD s l:=by grind [ta]
  rw [o] at f;rw [e];unfold GD;refine fS func207 ?_;refine cx ?_;refine ⟨λc=>?_,λc=>?_⟩
  .have c:=ah c
   conv=>whnf
   rw [aO (by omega:l.length<1)];rfl
  have c:=ag c;rw [aJ (by omega:¬l.length<1)]
  conv=>whnf
  refine ⟨λd=>?_,λd=>?_⟩
  .have d:=ah d
   conv=>whnf
   grind
  have d:=ag d;rw [aJ (by omega:¬20<l.length)]
  conv=>whnf
  refine ⟨λa=>?_,λa=>?_⟩
  .have a:s=[46]:=ah a
   conv=>whnf
   simp_all
  have a:¬s=[46]:=ag a;rw [aJ a]
  conv=>whnf
  refine ⟨λb=>?_,λb=>?_⟩
  .have b:s=[46,46]:=ah b
   conv=>whnf
   simp_all
  have b:¬s=[46,46]:=ag b;rw [aJ b];exact fu
theorem agR (a b:Int):er prog 220 [.ax .i32 a, .ax .i32 b] (.ax .i64 (if a<b then -1 else if b<a then 1 else 0)):=by
 have n:∀ x:Int,er prog 259 [.ax .i32 x] (.eD false):=λx=>by
  refine fS func259 ?_
  conv=>whnf
  simp_all
 refine fS func220 ?_
 conv=>whnf
 refine fF.kc (n a) rfl ?_
 conv=>whnf
 refine fF.kc (n b) rfl ?_;refine cx ?_;refine ⟨λh=>?_,λh=>?_⟩
 .rw [ak (ah h)]
  conv=>whnf
 rw [ai (ag h)]
 conv=>whnf
 refine ⟨λh=>?_,λh=>?_⟩
 .rw [ak (ah h)]
  conv=>whnf
 rw [ai (ag h)]
 conv=>whnf
theorem Qt (l:List Int):(lU l).length=l.length:=by simp [lU]
theorem WO {l:List Int} {k:Nat} (h:k<l.length):(lU l)[k]? =some [.ax .i32 l[k]]:=by grind [lU]
theorem agS (n i:Bool) (a b:List Int) (p:a.length<=4611686018427387904):er prog 168 [.a8 n 1 (lU a) .dm, .a8 i 1 (lU b) .dm] (.ax .i64 (oX a b)):=by
 refine fS func168 ?_;have f:=Qt a;have o:=Qt b
 conv=>whnf
 refine iE.gY (λk:Nat=>[(.ct 0, .bg (.a8 n 1 (lU a) .dm)),(.ct 1, .bg (.a8 i 1 (lU b) .dm)),(.ct 9, .bg (.a8 n 1 (lU a) .dm)),(.ct 10, .bg (.ax .i64 (a.length:Nat))),(.ct 11, .bg (.ax .i64 k))])
  0 (λk=>k<=a.length/\k<=b.length/\oX a b=oX (a.drop k) (b.drop k)) (λk=>a.length - k) dd 0 ⟨ar _,ar _,rfl⟩ ⟨rfl,rfl,rfl,rfl,rfl,rfl,?_,af⟩ ?_
 .show gC.bg (b9.ax .i64 ((lU a).length:Nat))=_;rw [f]
 rintro k ⟨s,m,c⟩;refine gk ?_;refine ab (λh=>?_) λh=>?_
 .have t:k<a.length:=om;have r:=WO t;rw [aY t] at c;refine cx ?_;refine ⟨λh=>?_,λh=>?_⟩
  .have h:=ah h;rw [show b.drop k=[] from bM om,oX] at c;rw [c]
   conv=>whnf
  have h:=ag h;have l:k<b.length:=om;have j:=WO l;have q:=agR a[k] b[k];rw [aY l,oX] at c;refine cx ?_
  by_cases d:a[k]<b[k]
  .rw [ak d] at c ⊢;rw [c];exact jf
  by_cases g:b[k]<a[k]
  .rw [ai d,ak g] at c ⊢;rw [c];exact jf
  rw [ai d,ai g] at c ⊢
  conv=>whnf
  refine ⟨λh=>absurd h dd,λ_=>?_⟩
  conv=>whnf
  refine ⟨k+1,⟨om,om,c⟩,by grind,rfl,rfl,rfl,rfl,rfl,rfl,rfl,rfl,?_,rfl,ae⟩;show gC.bg (b9.ax .i64 (IntKind.i64.wrap ((k:Int)+1)))=gC.bg (b9.ax .i64 ((k+1:Nat):Int));grind [fq]
 .have e:k=a.length:=om;rw [e,cR] at c
  conv=>whnf
  refine ab (λh=>?_) λh=>?_
  .have l:a.length<b.length:=om;rw [aY l,oX] at c;rw [c]
   conv=>whnf
  .rw [bM om,oX] at c;rw [c]
   conv=>whnf
theorem agW (s:List UInt8):(u0 s).length<=s.length:=by
 unfold u0;cases h:qE s with
 |none=>simp
 |some l=>exact VY h
theorem WT (s:List UInt8) (c:s.length<=1048576):er prog 169 [.cp s] (.a8 false 1 (lU (u0 s)) .dm):=by
 have a:=WU s c;unfold u0;cases o:qE s with
 |some l=>
  rw [o] at a;refine fS func169 ?_;exact jf
 |none=>
  rw [o] at a;refine fS func169 ?_;refine cx ?_;refine ⟨⟨om,ji om dd⟩,?_⟩
  conv=>whnf
  refine iE.gY (λk:Nat=>[(.ct 0, .bg (.cp s)),(.ct 3, .bg (.a8 false 1 (lU ((s.take k).map λb=>(1114112+b.toNat:Int))) (.je 10))),(.ct 17, .bg (.ax .i64 (s.length:Nat))),(.ct 18, .bg (.ax .i64 k)),(.eT 10, .eU 21 1 k)])
   11 (λk=>k<=s.length) (λk=>s.length - k) dd 0 (Nat.zero_le _) ⟨rfl,rfl,rfl,rfl,rfl,rfl,rfl,rfl,rfl,rfl,trivial⟩ ?_
  rintro k f;have e:(lU ((s.take k).map λb=>(1114112+b.toNat:Int))).length=k:=by grind [Qt]
  refine gk ?_;refine ab (λh=>?_) λh=>?_
  .have t:k<s.length:=om;have d:=s[k].toNat_lt
   conv=>whnf
   refine ⟨s[k],⟨om,aj t⟩,?_⟩
   conv=>whnf
   refine ⟨⟨e.symm,ji (by grind) dd⟩,?_⟩
   conv=>whnf
   refine ⟨k+1,om,by grind,rfl,rfl,?_,rfl,rfl,rfl,?_,rfl,?_,rfl,ae⟩
   .show gC.bg (b9.a8 false 1 (lU ((s.take k).map λb=>(1114112+b.toNat:Int))++[[b9.ax .i32 (IntKind.i32.wrap (IntKind.i32.wrap (1114111+IntKind.i32.wrap (s[k].toNat:Int))+1))]]) _)=gC.bg (b9.a8 false 1 (lU ((s.take (k+1)).map λb=>(1114112+b.toNat:Int))) _);grind [List.take_succ_eq_append_getElem,lU,IntKind.wrap_i32]
   .show gC.bg (b9.ax .i64 (IntKind.i64.wrap ((k:Int)+1)))=gC.bg (b9.ax .i64 ((k+1:Nat):Int));grind [fq]
   .show gC.eU _ 1 ((lU _).length+1)=gC.eU _ 1 (k+1);rw [e]
  .obtain rfl:k=s.length:=om;rw [aN]
   conv=>whnf
theorem WS (a b:List UInt8) (h:a.length<=1048576) (c:b.length<=1048576):er prog 101 [.cp a, .cp b] (.eD (pQ a b)):=by
 have d:=agS false false (u0 a) (u0 b) (by grind [agW]);refine fS func101 ?_
 conv=>whnf
 refine fF.kc (WT a h) rfl ?_
 conv=>whnf
 refine fF.kc (WT b c) rfl ?_;exact fu
end Go.Proofs.YtffboamedcmpaaaGreatDoor
