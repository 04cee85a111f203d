import Derived.Test.YtffboamedcmpaaaGreatDoorBk
set_option linter.all false
set_option maxHeartbeats 4000000
set_option maxRecDepth 100000
namespace Gw
section
variable {α:Type}
abbrev nG (α:Type):=List (Nat×List UInt8×α)
def kA (k:List UInt8):nG α->Option α
 |[]=>none
 |e::m=>if e.2.1=k then some e.2.2 else kA k m
def tY (k:List UInt8) (x:α):nG α->Option (nG α)
 |[]=>none
 |e::m=>if e.2.1=k then some ((e.1,e.2.1,x)::m) else match tY k x m with
  |some l=>some (e::l)
  |none=>none
def wX (x:Nat×nG α) (k:List UInt8) (v:α):Nat×nG α:=match tY k v x.2 with
 |some m=>(x.1,m)
 |none=>(x.1+1,x.2++[(x.1,k,v)])
def Gm (m:nG α):List (List UInt8):=m.map (·.2.1)
theorem UL (k:List UInt8) (n:α):∀ m:nG α,(tY k n m=none/\kA k m=none)\/
  ∃ m',tY k n m=some m'/\m'.map (·.1)=m.map (·.1)/\Gm m'=Gm m/\(∀ k',kA k' m'=if k'=k then some n else kA k' m)/\(kA k m).isSome
 |[]=> .inl ⟨rfl,rfl⟩
 |e::m=>by
  rw [tY,kA]
  by_cases hk:e.2.1=k
  ·rw [if_pos hk,if_pos hk];refine .inr ⟨_,rfl,rfl,rfl,λk'=>?_,rfl⟩;rw [kA,kA]
   by_cases h1:k'=k
   ·rw [if_pos h1,if_pos (by rw [h1];exact hk)]
   ·rw [if_neg (λh=>h1 (by rw [<-h];exact hk)),if_neg h1,if_neg (λh=>h1 (by rw [<-h];exact hk))]
  ·rw [if_neg hk,if_neg hk];rcases UL k n m with ⟨h1,h2⟩|⟨m',h1,h2,h3,h4,h5⟩
   ·exact .inl ⟨by rw [h1],h2⟩
   ·refine .inr ⟨e::m',by rw [h1],by rw [List.map_cons,List.map_cons,h2],by unfold Gm at*;rw [List.map_cons,List.map_cons,h3],λk'=>?_,h5⟩;rw [kA,kA,h4]
    by_cases h6:e.2.1=k'
    ·rw [if_pos h6,if_pos h6,if_neg (λh=>hk (by rw [h6,h]))]
    ·rw [if_neg h6,if_neg h6]
theorem UK (k:List UInt8) (e:Nat×List UInt8×α):∀ m:nG α,kA k (m++[e])=match kA k m with|some n=>some n|none=>if e.2.1=k then some e.2.2 else none
 |[]=>rfl
 |x::m=>by
  rw [List.cons_append,kA,kA];split
  ·rfl
  ·exact UK k e m
theorem aes (x:Nat×nG α) (k:List UInt8) (n:α) (k':List UInt8):kA k' (wX x k n).2=if k'=k then some n else kA k' x.2:=by
 unfold wX;rcases UL k n x.2 with ⟨h1,h2⟩|⟨m',h1,_,_,h4,_⟩
 ·rw [h1];show kA k' (x.2++[(x.1,k,n)])=_;rw [UK]
  by_cases hk:k'=k
  ·subst hk;rw [h2]
  ·rw [if_neg hk];cases kA k' x.2 with
   |some m=>rfl
   |none=>simp only;rw [if_neg (λh=>hk h.symm)]
 ·rw [h1];exact h4 k'
end
structure jr where
 aet:Int
 aeu:List UInt8
deriving DecidableEq
def pj (c:Nat) (l:List dH):Nat×nG dH:=l.foldl (λx t=>wX x t.dx t) (c,[])
def yw (l:List dH) (p:List UInt8):Option dH:=l.reverse.find? λt=>decide (t.dx=p)
def wY (l:List dH) (t:dH):Bool:=match yw l t.dx with
 |none=>false
 |some x=>decide (x.eM=t.eM)
def Gq (l:List dH) (t:dH):Bool:=match yw l t.dx with
 |none=>false
 |some x=>decide (x.eM=t.eM) && !decide (x.wJ=t.wJ)
def Gn (was is:List dH):List jr:=(was.reverse.filter λt=>!wY is t).map λt=>⟨1,t.dx⟩
def DK (was is:List dH):List jr:=(is.filter λt=>!wY was t).map λt=>⟨2,t.dx⟩
def Gp (was is:List dH):List jr:=(is.filter λt=>Gq was t).map λt=>⟨3,t.dx⟩
def vj (was is:List dH):List jr:=Gn was is++DK was is++Gp was is
theorem UN (c:Nat) (l:List dH) (t:dH):pj c (l++[t])=wX (pj c l) t.dx t:=by unfold pj;rw [List.foldl_append];rfl
theorem UM (c:Nat) (l:List dH) (p:List UInt8):kA p (pj c l).2=yw l p:=by
 have key:∀ (l:List dH) (x:Nat×nG dH),kA p (l.foldl (λx t=>wX x t.dx t) x).2=match yw l p with|some t=>some t|none=>kA p x.2:=by
  intro l
  induction l with
  |nil=>intro x;rfl
  |cons t l ih=>
   intro x;rw [List.foldl_cons,ih];unfold yw;rw [List.reverse_cons,List.find?_append];cases List.find? (λt=>decide (t.dx=p)) l.reverse with
   |some y=>rfl
   |none=>
    simp only [Option.none_or,List.find?_singleton];rw [aes]
    by_cases h:p=t.dx
    ·rw [if_pos h,if_pos (by simp [h])]
    ·rw [if_neg h,if_neg (by simpa using λq=>h q.symm)]
 have:=key l (c,[]);unfold pj;rw [this];cases yw l p<;>rfl
structure cj (α:Type) where
 dI:Bool
 ab:List α
section
variable {α β:Type}
def cj.dE:cj α:=⟨true,[]⟩
def cj.jK (l:List α):cj α:=⟨false,l⟩
def cj.jg (s:cj α) (a:α):cj α:=⟨false,s.ab++[a]⟩
def cj.eI (s:cj α) (l:List α):cj α:=⟨s.dI && l.isEmpty,s.ab++l⟩
def cj.bZ (s:cj α):Bool:=s.dI && s.ab.isEmpty
def cj.gL (s:cj α) (p:α->Bool):cj α:=⟨s.bZ,s.ab.filter λa=>!p a⟩
theorem cj.wZ {s:cj α} (h:s.bZ=true):s.ab=[]:=by
 unfold cj.bZ at h;rw [Bool.and_eq_true] at h;simpa using h.2
end
structure bX where
 eA:Int
 fZ:Int
deriving DecidableEq
structure ib where
 eW:cj bX
 di:cj bX
def DM (t:ib) (lock:Int):Option Int:=(t.eW.ab.find? λh=>decide (h.eA=lock)).map (·.fZ)
def Jx (t:ib) (thread:Int):Option Int:=(t.di.ab.find? λh=>decide (h.fZ=thread)).map (·.eA)
def mC {α:Type} (p:α->Bool):List α->List α
 |[]=>[]
 |a::l=>if p a=true then l else a::mC p l
def iO (h:ib) (thread lock:Int):ib×Option Int:=
 match h.eW.ab.any λx=>decide (x=⟨lock,thread⟩) with
 |false=>(h,none)
 |true=>match h.di.ab.find? λw=>decide (w.eA=lock) with
  |none=>(⟨.jK (mC (λx=>decide (x=⟨lock,thread⟩)) h.eW.ab),h.di⟩,none)
  |some next=>(⟨.jK (mC (λx=>decide (x=⟨lock,thread⟩)) h.eW.ab++[next]), .jK (mC (λw=>decide (w.eA=lock)) h.di.ab)⟩,some next.fZ)
def sB (t:ib) (thread lock:Int):ib×Bool:=
 match DM t lock with
 |some h=>if h=thread then (t,true) else if (t.di.ab.any λw=>decide (w=⟨lock,thread⟩))=true then (t,false) else (⟨t.eW,t.di.jg ⟨lock,thread⟩⟩,false)
 |none=>(⟨t.eW.jg ⟨lock,thread⟩,t.di⟩,true)
def nI (thread:Int) (x:ib×cj bX) (held:bX):ib×cj bX:=
 if held.fZ=thread then (match iO x.1 thread held.eA with
  |(h,some next)=>(h,x.2.jg ⟨held.eA,next⟩)
  |(h,none)=>(h,x.2)) else x
def j7 (t:ib) (thread:Int):ib×cj bX:=t.eW.ab.foldl (nI thread) (⟨t.eW,t.di.gL λw=>decide (w.fZ=thread)⟩, .dE)
structure fI where
 fJ:Int
 oA:Int
structure l6 where
 nH:Int
 gi:cj fI
def BD (thread upto:Int):List fI->List fI
 |[]=>[]
 |w::l=>if w.fJ=thread then ⟨w.fJ,max w.oA upto⟩::l else w::BD thread upto l
def rv (g:l6) (thread:Int):Bool:=g.gi.ab.any λw=>decide (w.fJ=thread)
def zO (g:l6) (thread upto:Int):l6×Bool:=
 if upto<=g.nH then (g,true) else if rv g thread=true then (⟨g.nH,⟨g.gi.dI,BD thread upto g.gi.ab⟩⟩,false) else (⟨g.nH,g.gi.jg ⟨thread,upto⟩⟩,false)
def DL (g:l6):Option (Int×Int):=match g.gi.ab with
 |[]=>none
 |w::l=>some (w.fJ,(w::l).foldl (λm x=>max m x.oA) w.oA)
def w6 (g:l6) (kept:Int):l6×cj Int:=
 (⟨max g.nH kept,⟨true,g.gi.ab.filter λw=>!decide (w.oA<=max g.nH kept)⟩⟩, .jK ((g.gi.ab.filter λw=>decide (w.oA<=max g.nH kept)).map (·.fJ)))
structure vn where
 oB:cj jr
 Gs:Bool
def DR (q:vn) (l:List jr):vn:=
 if q.Gs=true then ⟨.jK q.oB.ab,true⟩
 else if 8 - q.oB.ab.length<l.length then ⟨.jK (q.oB.ab++l.take (8 - q.oB.ab.length)++[⟨9,[]⟩]),true⟩
 else ⟨.jK (q.oB.ab++l),false⟩
def sG (q:vn):vn×cj jr:=(⟨.jK [],q.Gs⟩, .jK q.oB.ab)
structure l7 where
 vk:Int
 DN:List UInt8
 kB:cj (List UInt8)
 qF:Int
 mD:cj jr
def fg (e:Int):l7:=⟨e,[], .dE,0, .dE⟩
structure cd where
 dN:bu
 jB:cj Int
 mX:Int
 tZ:Bool
 kf:Bool
 ua:Int
 Jy:Int
 lh:Int
 pW:Int
 dT:l7
structure dt where
 gu:Int
 pk:Int
inductive Nt
 |zP
 |yx (c:bu)
 |sC (names:cj (List UInt8))
def Nu (p:List UInt8):Option (cj (List UInt8)):=match ir p with
 |none=>none
 |some []=>some .dE
 |some l=>some (.jK l)
def zQ (c:bu) (all:Bool):Nt:=match Nu c.bY with
 |none=> .sC .dE
 |some s=>match s.ab with
  |[]=> .sC s
  |_=>if all=true\/c.dD=10 then .sC s else .sC (.jK s.ab.dropLast)
def sF (c:bu):Nt:=
 if c.dD=4 then (if c.cR=0 then zQ c false else .zP)
 else if c.dD=7 then (if c.cR=0 then zQ c true else .zP)
 else if c.dD=1\/c.dD=2\/c.dD=3\/c.dD=10 then zQ c false
 else if c.dD=5\/c.dD=6\/c.dD=13 then .yx c
 else .zP
def vm (c:bu):Bool:=match sF c with
 | .sC _=>true
 |_=>false
def sE (c:bu):List (List UInt8):=if c.dD=5 then [c.bY,c.fO] else if c.dD=6 then [c.bY] else []
def po (l:List aI) (dirs:List Int) (p:List UInt8):List Int:=match ir p with
 |none=>dirs
 |some []=>dirs
 |some (a::r)=>
  if (jq l (a::r).dropLast).2=0/\fk (jq l (a::r).dropLast).1=true/\(jq l (a::r).dropLast).1∉dirs then dirs++[(jq l (a::r).dropLast).1] else dirs
def Gr (l:List aI) (a b:Int):Bool:=(jS l b).contains a
def DQ (l:List aI):List Int->List Int
 |[a,b]=>if Gr l a b=false/\(Gr l b a=true\/b<a) then [b,a] else [a,b]
 |d=>d
def DO (l:List aI) (c:bu):List Int:=1::DQ l ((sE c).foldl (po l) [])
def w7 (l:List aI) (t:cd) (names:cj (List UInt8)):dt:=match t.jB.ab with
 |[]=>⟨1,0⟩
 |here::r=>
  if r≠[] then ⟨2,here⟩
  else
   let go:dt:=if (jq l names.ab).2=0/\fk (jq l names.ab).1=true/\(jq l names.ab).1≠here then ⟨2,here⟩ else ⟨3,0⟩
   if 0<=t.mX/\t.mX<names.ab.length then (match mT l here (names.ab[t.mX.toNat]?.getD []) with
    |some n=>if fk n.bc=true then ⟨1,n.bc⟩ else go
    |none=>go)
   else go
def DP (l:List aI) (t:cd) (c:bu):dt:=match (DO l c).find? λk=>!t.jB.ab.contains k with
 |some k=>⟨1,k⟩
 |none=>⟨3,0⟩
def ub (l:List aI) (t:cd):dt:=
 if t.kf=true then ⟨0,0⟩
 else if t.tZ=true then (match t.jB.ab with
  |h::_=>⟨2,h⟩
  |[]=>if t.dN.dD=12 then ⟨4,0⟩ else ⟨5,0⟩)
 else match sF t.dN with
  | .zP=>⟨3,0⟩
  | .yx c=>DP l t c
  | .sC names=>w7 l t names
def nJ (t:cd) (u:dt):cd:=
 if u.gu=1 then {t with mX:=if t.jB.ab.length=1/\vm t.dN=true then t.mX+1 else t.mX,jB:=t.jB.jg u.pk}
 else if u.gu=2 then {t with jB:=t.jB.gL (λk=>decide (k=u.pk)),mX:=if (t.jB.gL (λk=>decide (k=u.pk))).ab=[]/\t.tZ=false/\vm t.dN=true then 0 else t.mX}
 else if u.gu=3 then {t with tZ:=true}
 else if u.gu=5 then {t with kf:=true}
 else t
def i6 (t:cd):cd:={t with jB:= .dE,mX:=0}
def sJ (l:List aI) (o:aH) (u:wI):List aI:=
 if fH l=true/\u.Ms=true then
  (if jR o.aY=true/\u.Mt=true/\u.tN.bc=o.aY then l.take (cZ l o.aY)++[u.tN]++l.drop (gG l o.aY) else l.take (cZ l o.aY)++l.drop (gG l o.aY))
 else l
structure iG where
 cF:aH
 qG:wI
structure eh where
 b8:cj iG
 aQ:cj aI
def UO:eh:=⟨.dE, .dE⟩
def kg (g:eh) (at_:iu):Bool:=g.b8.ab.any λe=>decide (e.cF.aT.dg=at_.dg) && decide (e.cF.aT.dS=at_.dS)
def rz (at_:iu) (l:List iG):Nat:=(l.takeWhile λe=>jQ at_ e.cF.aT).length
def vo (x:eh) (o:aH):eh:=⟨x.b8.jg ⟨o,lf x.aQ.ab o⟩, .jK (jm x.aQ.ab o)⟩
def yy (n:cj aI) (e:iG):cj aI:= .jK (sJ n.ab e.cF e.qG)
def eF (g:eh) (o:aH):eh×Int:=
 if cJ o=false then (g,50)
 else if kg g o.aT=true then (g,0)
 else if 200<=g.b8.ab.length then (g,193)
 else
  let b:=rz o.aT g.b8.ab.reverse
  let from_:=g.b8.ab.length - b
  let nodes:=(g.b8.ab.reverse.take b).foldl yy g.aQ
  ((o::(g.b8.ab.drop from_).map (·.cF)).foldl vo ⟨⟨g.b8.dI,g.b8.ab.take from_⟩,nodes⟩,0)
def DS (g:eh) (l:List aH):eh×Int:=l.foldl (λx o=>((eF x.1 o).1,if (eF x.1 o).2≠0 then x.2+1 else x.2)) (g,0)
structure jC where
 iI:Int
 DT:cj aI
structure fQ where
 ic:Int
 kC:Int
 l8:vn
structure bM where
 aA:eh
 eC:Int
 iH:Int
 dO:cj jC
 de:cj fQ
 fz:Int
def Nv:bM:=⟨UO,0,0, .dE, .dE,0⟩
structure dj where
 bp:bM
 gj:l7
 jh:bu
 fP:cj aH
def gx (l:List aI) (path:List UInt8):Int×Int:=match ir path with
 |none=>(0,10)
 |some names=>jq l names
def kP (l:List aI) (path:List UInt8):(Int×List UInt8)×Int:=match ir path with
 |none=>((0,[]),10)
 |some []=>((0,[]),194)
 |some (s::r)=>
  if (jq l (s::r).dropLast).2≠0 then ((0,[]),(jq l (s::r).dropLast).2)
  else if fk (jq l (s::r).dropLast).1=false then ((0,[]),81)
  else (((jq l (s::r).dropLast).1,(s::r).getLast (by simp)),0)
def BE (seen replica:Int):Option iu:=if seen<0\/1048576<=seen then none else if j5 ⟨seen+1,replica⟩=true then some ⟨seen+1,replica⟩ else none
def jD (m:bM):iu×Int:=match BE m.eC m.iH with
 |none=>(⟨0,0⟩,20)
 |some s=>if 200<=m.aA.b8.ab.length then (⟨0,0⟩,193) else (s,0)
def uc (d:dj) (o:aH):dj×Int:=match eF d.bp.aA o with
 |(g,e)=>if e≠0 then (d,e) else ({d with bp:={d.bp with aA:=g},fP:=d.fP.jg o},0)
def sI (o:aH) (s:iu):aH:=⟨s,o.fc,o.aY,o.gg,o.j4,o.j3⟩
def ll (d:dj) (o:aH):dj×Int:=match jD d.bp with
 |(s,e)=>if e≠0 then (d,e) else (match uc d (sI o s) with
  |(d',e')=>if e'≠0 then (d',e') else ({d' with bp:={d'.bp with eC:=s.dg}},0))
def sH (m:bM) (handle:Int):Option (cj aI):=if handle=0 then some m.aA.aQ else (m.dO.ab.find? λs=>decide (s.iI=handle)).map (·.DT)
def w9 (s:iu) (file:Bool):Int:=if j5 s=true then 128*s.dg+2*s.dS+(if file=true then 1 else 0) else -1
def lj (kind node parent:Int) (name data:List UInt8):aH:=⟨⟨0,0⟩,kind,node,parent,name,data⟩
def ud (d:dj):dj×Int:=
 if d.jh.bY=[47] then (d,194)
 else match kP d.bp.aA.aQ.ab d.jh.bY with
  |((dir,last),e)=>
   if e≠0 then (d,e)
   else if (mT d.bp.aA.aQ.ab dir last).isSome=true then (d,190)
   else match jD d.bp with
    |(s,e)=>if e≠0 then (d,e) else ll d (lj 1 (w9 s (decide (d.jh.dD=1))) dir last [])
def uq (d:dj):dj×Int:=match gx d.bp.aA.aQ.ab d.jh.bY with
 |(id,e)=>if e≠0 then (d,e) else if fk id=true then (d,82) else ll d (lj 2 id 0 [] d.jh.ia)
def UP (l:List aI) (id:Int):aI:=((if fH l=true then iD l id else none)).getD FZ
def ui (d:dj):dj×Int:=match sH d.bp d.jh.cR with
 |none=>(d,191)
 |some l=>match gx l.ab d.jh.bY with
  |(id,e)=>if e≠0 then (d,e) else if fk id=true then (d,82) else ({d with gj:={d.gj with DN:=(UP l.ab id).ov}},0)
def uf (d:dj):dj×Int:=match sH d.bp d.jh.cR with
 |none=>(d,191)
 |some l=>match gx l.ab d.jh.bY with
  |(id,e)=>if e≠0 then (d,e) else if fk id=false then (d,81) else ({d with gj:={d.gj with kB:=⟨true,yj l.ab id⟩}},0)
def ug (d:dj):dj×Int:=
 if d.jh.bY=[47]\/d.jh.fO=[47] then (d,194)
 else match gx d.bp.aA.aQ.ab d.jh.bY with
  |(id,e)=>if e≠0 then (d,e) else match kP d.bp.aA.aQ.ab d.jh.fO with
   |((dir,last),e)=>
    if e≠0 then (d,e)
    else if (mT d.bp.aA.aQ.ab dir last).isSome=true then (d,190)
    else if dir=id\/(jS d.bp.aA.aQ.ab dir).contains id=true then (d,192)
    else ll d (lj 1 id dir last [])
def uj (d:dj):dj×Int:=
 if d.jh.bY=[47] then (d,194)
 else match gx d.bp.aA.aQ.ab d.jh.bY with
  |(id,e)=>if e≠0 then (d,e) else match ir d.jh.bY with
   |none=>(d,194)
   |some []=>(d,194)
   |some (s::r)=>ll d (lj 1 id 2 ((s::r).getLast (by simp)) [])
def um (d:dj):dj×Int:=
 if 8<=d.bp.dO.ab.length then (d,193)
 else ({d with gj:={d.gj with qF:=d.bp.fz},bp:={d.bp with dO:=d.bp.dO.jg ⟨d.bp.fz,d.bp.aA.aQ⟩,fz:=d.bp.fz+1}},0)
def ue (d:dj):dj×Int:=
 if (d.bp.dO.ab.any λs=>decide (s.iI=d.jh.cR))=false/\(d.bp.de.ab.any λs=>decide (s.ic=d.jh.cR))=false then (d,191)
 else ({d with bp:={d.bp with dO:=d.bp.dO.gL λs=>decide (s.iI=d.jh.cR),de:=d.bp.de.gL λs=>decide (s.ic=d.jh.cR)}},0)
def uo (d:dj):dj×Int:=match gx d.bp.aA.aQ.ab d.jh.bY with
 |(id,e)=>
  if e≠0 then (d,e) else if fk id=false then (d,81) else if 8<=d.bp.de.ab.length then (d,193)
  else ({d with gj:={d.gj with qF:=d.bp.fz},bp:={d.bp with de:=d.bp.de.jg ⟨d.bp.fz,id,⟨.dE,false⟩⟩,fz:=d.bp.fz+1}},0)
def vp (n:Int):List fQ->List fQ
 |[]=>[]
 |w::l=>if w.ic=n then ⟨w.ic,w.kC,(sG w.l8).1⟩::l else w::vp n l
def uh (d:dj):dj×Int:=match d.bp.de.ab.find? λw=>decide (w.ic=d.jh.cR) with
 |none=>(d,191)
 |some w=>({d with gj:={d.gj with mD:=(sG w.l8).2},bp:={d.bp with de:=⟨d.bp.de.dI,vp d.jh.cR d.bp.de.ab⟩}},0)
def mY (seen:Int) (s:iu):Int:=if j5 s=true then max seen s.dg else seen
def zR (a b:iu):Bool:=decide (a.dg=b.dg) && decide (a.dS=b.dS)
def i7 (g:eh) (x:Int×cj aH) (o:aH):Int×cj aH:=(mY x.1 o.aT,if kg g o.aT=false/\(x.2.ab.any λf=>zR f.aT o.aT)=false then x.2.jg o else x.2)
def nK:dj->List aH->dj×Int
 |d,[]=>(d,0)
 |d,o::l=>match uc d o with
  |(d',e)=>if e≠0 then (d',e) else nK d' l
theorem US {l:List aI} {id:Int} {n:aI} (h:iD l id=some n):lb l id=true:=by rw [zB,h];rfl
theorem aey {l:List aI} (hc:fH l=true) (o:aH):sJ (jm l o) o (lf l o)=l:=by
 by_cases hm:yh l o=true
 ·obtain ⟨_,_,hok⟩:=Nq hm;have hcd:=Uz hc o;have hid:=UA l o;have hd:jm l o=l.take (cZ l o.aY)++[pf ((iD l o.aY).getD (yg o.aY)) o]++l.drop (gG l o.aY):=by grind [jm]
  have hu:lf l o=⟨true,lb l o.aY,(iD l o.aY).getD FZ⟩:=by grind [lf]
  have hpl:=FY l o.aY;have hlen:(l.take (cZ l o.aY)).length=cZ l o.aY:=by simp_all
  generalize ht:pf ((iD l o.aY).getD (yg o.aY)) o=t at*;have hpos:cZ (jm l o) o.aY=cZ l o.aY:=by
   refine (Mv (l:=jm l o) (i:=cZ l o.aY) ?_ (λk hk h=>?_) (λk hk h=>?_)).symm
   ·simp_all
   ·have e:(jm l o)[k]=(l.take (cZ l o.aY))[k]'om:=by
     simp_all
    rw [e];exact UC _ (List.getElem_mem _)
   ·rcases Nat.lt_or_ge (cZ l o.aY) k with q|q
    ·have e0:(jm l o)[cZ l o.aY]'om=t:=by
      simp_all
     have:=zA hcd q hk;grind
    simp_all
  have hmem:t∈jm l o:=by rw [hd];simp
  have hfd:iD (jm l o) o.aY=some t:=by grind [Bm]
  have hup:gG (jm l o) o.aY=cZ l o.aY+1:=by grind [gG,US]
  have htk:(jm l o).take (cZ l o.aY)=l.take (cZ l o.aY):=by simp_all
  have hdr:(jm l o).drop (cZ l o.aY+1)=l.drop (gG l o.aY):=by grind [List.drop_left']
  unfold sJ;rw [if_pos ⟨hcd,by rw [hu]⟩,hpos,hup,htk,hdr,hu];simp only;cases hf:iD l o.aY with
  |none=>
   have hh:lb l o.aY=false:=by rw [zB,hf];rfl
   rw [hh,if_neg (by simp)];have:gG l o.aY=cZ l o.aY:=by grind [gG]
   simp_all
  |some m=>
   obtain ⟨k1,k2,k3,k4⟩:=yf hf;have hh:=US hf;rw [hh,if_pos ⟨hok,rfl,k2⟩];have:gG l o.aY=cZ l o.aY+1:=by grind [gG]
   rw [this];show l.take (cZ l o.aY)++[m]++l.drop (cZ l o.aY+1)=l;grind [List.drop_eq_getElem_cons,List.take_append_drop]
 grind [lf,jm,sJ]
inductive mE:List iG->List aI->Prop
 |zS:mE [] []
 |zT {es:List iG} {l:List aI} (h:mE es l) (o:aH):mE (es++[⟨o,lf l o⟩]) (jm l o)
theorem mE.Nx {es:List iG} {l:List aI} (h:mE es l):fH l=true:=by
 induction h with
 |zS=>rfl
 |zT h o ih=>exact Uz ih o
theorem mE.aew {es:List iG} {l:List aI} (h:mE es l):l.length<=es.length:=by
 induction h with
 |zS=>exact Nat.le_refl _
 |zT h o ih=>
  grind [SL]
theorem mE.aev {es:List iG} {e:iG} {l:List aI} (h:mE (es++[e]) l):mE es (sJ l e.cF e.qG):=by
 generalize hE:es++[e]=E at h;cases h with
 |zS=>simp at hE
 |zT h o=>
  grind [List.append_inj',aey,h.Nx]
theorem mE.Nw {l:List aI}:∀ (b:Nat) {es:List iG} {n:cj aI},mE es n.ab->b<=es.length->mE (es.take (es.length - b)) ((es.reverse.take b).foldl yy n).ab
 |0,es,n,h,_=>by
  simp_all
 |b+1,es,n,h,hb=>by
  rcases List.eq_nil_or_concat es with rfl|⟨es,e,rfl⟩
  ·simp at hb
  ·rw [List.concat_eq_append] at*;rw [List.length_append,List.length_singleton] at hb;have:=mE.Nw (l:=l) b (n:=yy n e) (mE.aev h) om;grind
theorem mE.Ny:∀ (l:List aH) {x:eh},mE x.b8.ab x.aQ.ab->mE (l.foldl vo x).b8.ab (l.foldl vo x).aQ.ab/\(l.foldl vo x).b8.ab.map (·.cF)=x.b8.ab.map (·.cF)++l
 |[],x,h=>⟨h,by simp⟩
 |o::l,x,h=>by
  obtain ⟨h1,h2⟩:=mE.Ny l (x:=vo x o) (mE.zT h o);refine ⟨h1,?_⟩;rw [List.foldl_cons,h2];show ((x.b8.ab++[_]).map _)++l=_;simp_all
theorem UR (at_:iu) (l:List iG):rz at_ l<=l.length:=(List.takeWhile_sublist _).length_le
theorem aex {g:eh} (h:mE g.b8.ab g.aQ.ab) (o:aH):mE (eF g o).1.b8.ab (eF g o).1.aQ.ab/\(∀ p∈(eF g o).1.b8.ab.map (·.cF),p∈g.b8.ab.map (·.cF)\/(p=o/\cJ o=true))/\((eF g o).1.b8.ab.length<=g.b8.ab.length\/((eF g o).1.b8.ab.length=g.b8.ab.length+1/\g.b8.ab.length<200/\(eF g o).2=0)):=by
 unfold eF
 by_cases h1:cJ o=false
 ·simp_all
 rw [if_neg h1]
 by_cases h2:kg g o.aT=true
 ·simp_all
 rw [if_neg h2]
 by_cases h3:200<=g.b8.ab.length
 ·simp_all
 rw [if_neg h3];have hb:=UR o.aT g.b8.ab.reverse;rw [List.length_reverse] at hb;have hbk:=mE.Nw (l:=[]) (rz o.aT g.b8.ab.reverse) (n:=g.aQ) h hb;simp only;generalize rz o.aT g.b8.ab.reverse=b at*;obtain ⟨k1,k2⟩:=mE.Ny (o::(g.b8.ab.drop (g.b8.ab.length - b)).map (·.cF)) (x:=⟨⟨g.b8.dI,g.b8.ab.take (g.b8.ab.length - b)⟩,(g.b8.ab.reverse.take b).foldl yy g.aQ⟩) hbk;grind [List.length_append]
def sK (d:dj):dj×Int:=match pV d.jh.ia with
 |none=>(d,50)
 |some l=>
  let x:=l.foldl (i7 d.bp.aA) (d.bp.eC, .dE)
  if 200<d.bp.aA.b8.ab.length+x.2.ab.length then (d,193)
  else match nK d x.2.ab with
   |(d',e)=>if e≠0 then (d',e) else ({d' with gj:={d'.gj with qF:=x.2.ab.length},bp:={d'.bp with eC:=x.1}},0)
def DV (k:Int):Option (dj->dj×Int):=
 if k=1\/k=2 then some ud else if k=3 then some uq else if k=4 then some ui else if k=5 then some ug else if k=6 then some uj
 else if k=7 then some uf else if k=8 then some um else if k=9 then some ue else if k=10 then some uo else if k=11 then some uh
 else if k=12 then some λd=>(d,0) else if k=13 then some sK else none
def nL (was now:List aI) (w:fQ):fQ:=⟨w.ic,w.kC,DR w.l8 (vj (eL was w.kC) (eL now w.kC))⟩
def DU (d:dj) (was:List aI):dj:={d with bp:={d.bp with de:=⟨d.bp.de.dI,d.bp.de.ab.map (nL was d.bp.aA.aQ.ab)⟩}}
def dR (m:bM) (c:bu):bM×l7×cj aH:=
 if yt c=false then (m,fg 180, .dE)
 else match DV c.dD with
  |none=>(m,fg 180, .dE)
  |some f=>match f ⟨m,fg 0,c, .dE⟩ with
   |(d,e)=>
    if e≠0 then (m,fg e, .dE)
    else if d.fP.ab=[] then (d.bp,d.gj,d.fP) else ((DU d m.aA.aQ.ab).bp,d.gj,d.fP)
def rF (replica:Int):bM×Int:=if replica<0\/63<replica then (Nv,20) else ({Nv with iH:=replica,fz:=1},0)
def Jz (m:bM) (l:List aH):bM:={m with aA:=(DS m.aA l).1,eC:=l.foldl (λs o=>if cJ o=true then mY s o.aT else s) m.eC}
structure aV where
 br:bM
 cM:ib
 dy:l6
 aq:cj cd
 ca:Int
 bG:cj aH
def aeA:ib:=⟨.dE, .dE⟩
def aez:l6:=⟨0, .dE⟩
def Nz:aV:=⟨Nv,aeA,aez, .dE,0, .dE⟩
def oD (replica:Int):aV×Int:=match rF replica with
 |(m,e)=>if e≠0 then (Nz,e) else ({Nz with br:=m},0)
def Gt (c:bu) (begin_:Int):cd:=⟨c, .dE,0,false,false,0,begin_,0,0,fg 0⟩
def qJ (x:aV) (c:bu):aV×Int×Int:=
 if 40<=x.aq.ab.length then (x,0,193)
 else ({x with ca:=x.ca+1,aq:=x.aq.jg (Gt c (x.ca+1))},x.aq.ab.length,0)
def oC (x:aV) (n:Nat) (t:cd):Bool:=
 if t.kf=true then false
 else if (Jx x.cM n).isSome=true then false
 else if rv x.dy n=true then (match DL x.dy with
  |some (first,_)=>decide (first=n)
  |none=>false)
 else true
def js (x:aV):Nat->List cd->List Int
 |_,[]=>[]
 |n,t::l=>if oC x n t=true then (n:Int)::js x (n+1) l else js x (n+1) l
def BF (x:aV):List Int:=js x 0 x.aq.ab
def sM (pick:Int) (n:Nat):Nat:=((pick.tmod n+n).tmod n).toNat
def qI (x:aV) (p:Int):Option (Int×Bool):=match BF x with
 |[]=>none
 |a::l=>some (((a::l)[sM p (l.length+1)]?).getD 0,rv x.dy (((a::l)[sM p (l.length+1)]?).getD 0))
def gA (l:List cd) (n:Int) (f:cd->cd):List cd:=if n<0 then l else l.modify n.toNat f
def gy (x:aV) (n:Int) (f:cd->cd):aV:={x with aq:=⟨x.aq.dI,gA x.aq.ab n f⟩}
def jE (x:aV) (h:bX):aV:=gy x h.fZ λt=>nJ t ⟨1,h.eA⟩
def kD (x:aV) (n:Int):aV:=gy x n λt=>{t with kf:=true,pW:=x.ca}
def qH (x:aV) (who:Int) (full:Bool):aV:=
 if full=true then
  kD (gy {x with dy:=⟨x.dy.nH,x.dy.gi.gL λw=>decide (w.fJ=who)⟩} who λt=>{t with dT:=fg 120}) who
 else match w6 x.dy x.bG.ab.length with
  |(g,gone)=>gone.ab.foldl kD {x with dy:=g}
def jT (x:aV) (who:Int) (u:dt):aV:=gy x who λt=>nJ t u
def yB (x:aV) (who:Int) (u:dt):aV:=match sB x.cM who u.pk with
 |(t,has)=>if has=true then jT {x with cM:=t} who u else {x with cM:=t}
def yA (x:aV) (who:Int) (u:dt):aV:=match iO x.cM who u.pk with
 |(t,none)=>jT {x with cM:=t} who u
 |(t,some next)=>jE (jT {x with cM:=t} who u) ⟨u.pk,next⟩
def lK (x:aV) (who:Int):bu:=match x.aq.ab[who.toNat]? with
 |some t=>t.dN
 |none=>⟨0,[],[],[],0⟩
def ln (who:Int) (x:aV) (n:Nat):aV:=match x.aq.ab[n]? with
 |none=>x
 |some t=>if (n:Int)≠who/\vm t.dN=true/\t.tZ=false then
   (match j7 x.cM n with
    |(tb,passed)=>passed.ab.foldl jE (gy {x with cM:=tb} n i6))
  else x
def yz (x:aV) (who:Int):aV:=(List.range x.aq.ab.length).foldl (ln who) x
def vr (x:aV) (who:Int) (u:dt):aV:=match dR x.br (lK x who) with
 |(m,a,ops)=>
  let y:=jT (gy {x with br:=m,bG:=⟨(x.bG.eI ops.ab).dI,(x.bG.eI ops.ab).ab⟩} who λt=>{t with dT:=a,lh:=x.ca,ua:=(x.bG.eI ops.ab).ab.length}) who u
  if (lK x who).dD=13/\a.vk=0 then yz y who else y
def Gx (x:aV) (who:Int):Int:=match x.aq.ab[who.toNat]? with
 |some t=>t.ua
 |none=>0
def vu (x:aV) (who:Int):aV:=match zO x.dy who (Gx x who) with
 |(g,kept)=>if kept=true then kD {x with dy:=g} who else {x with dy:=g}
def Gu (x:aV) (who:Int) (u:dt):aV:=gy (jT x who u) who λt=>{t with pW:=x.ca}
def BH (x:aV) (who:Int) (u:dt):aV:=
 if u.gu=1 then yB x who u else if u.gu=2 then yA x who u else if u.gu=3 then vr x who u else if u.gu=4 then vu x who else if u.gu=5 then Gu x who u else x
def Gv (x:aV) (who:Int):dt:=match x.aq.ab[who.toNat]? with
 |some t=>ub x.br.aA.aQ.ab t
 |none=>⟨0,0⟩
def pX (x:aV) (p:Int) (full:Bool):aV:=match qI x p with
 |none=>x
 |some (who,waits)=>if waits=true then qH {x with ca:=x.ca+1} who full else BH {x with ca:=x.ca+1} who (Gv x who)
def BG (x:aV):Bool:=x.aq.ab.all (·.kf)
end Gw
namespace Go.Proofs.YtffboamedcmpaaaGreatDoor
open Gw
open Go.Am
def fD (e:jr):List ae:=[.aa .i64 e.aet, .ai e.aeu]
def yC (l:List jr):List (List ae):=l.map fD
theorem JA (l:List jr):(yC l).length=l.length:=by simp [yC]
def pY {α:Type} (f:α->ae) (m:nG α):iC:=m.map λe=>(e.1, .ai e.2.1,f e.2.2)
theorem JB {α:Type} (f:α->ae) (k:List UInt8):∀ m:nG α,qv (.ai k) (pY f m)=(kA k m).map f
 |[]=>rfl
 |e::m=>by
  show (match mo (.ai e.2.1) (.ai k) with|true=>some _|false=>qv (.ai k) (pY f m))=_;rw [kA,JB f k m];simp only [mo]
  by_cases h:e.2.1=k
  ·rw [decide_eq_true h,if_pos h];rfl
  ·rw [decide_eq_false h,if_neg h]
theorem NA {α:Type} (f:α->ae) (k:List UInt8) (n:α):∀ m:nG α,pJ (.ai k) (f n) (pY f m)=(tY k n m).map (pY f)
 |[]=>rfl
 |e::m=>by
  show (match mo (.ai e.2.1) (.ai k) with|true=>some _|false=>match pJ (.ai k) (f n) (pY f m) with|some l=>some _|none=>none)=_;rw [tY,NA f k n m];simp only [mo]
  by_cases h:e.2.1=k
  ·rw [decide_eq_true h,if_pos h];rfl
  ·rw [decide_eq_false h,if_neg h];cases tY k n m<;>rfl
theorem Gy {α:Type} (f:α->ae) (m:nG α):∀ e∈pY f m,oh .string e.2.1:=λe h=>by
 obtain ⟨x,_,rfl⟩:=List.mem_map.1 h;rfl
theorem UT {α:Type} (f:α->ae) (x:Nat×nG α) (k:List UInt8) (n:α):A5 x.1 (pY f x.2) (.ai k) (f n) ((tY k n x.2).map (pY f))= .dP (wX x k n).1 (pY f (wX x k n).2):=by
 unfold wX;cases tY k n x.2 with
 |some m=>rfl
 |none=>
  show EM.dP (x.1+1) (pY f x.2++[_])=EM.dP (x.1+1) (pY f (x.2++[_]));unfold pY;rw [List.map_append];rfl
abbrev nM:dH->ae:=λt=> .aK (Gj t)
theorem Gz (T:TypeId) (r:Nat) (A:List jr) (t:jr):bs.au T [ae.ag (decide (A=[]) && false) 2 (yC A++[fD t]) (.cO r)]=bs.au T [ae.ag (decide (A++[t]=[])) 2 (yC (A++[t])) (.cO r)]:=by
 rw [Bool.and_false,decide_eq_false (by simp)];grind [yC]
theorem GA (T:TypeId) (A:List jr) (t:jr):bs.aN T 2 ((yC A).length+1)=bs.aN T 2 (A++[t]).length:=by
 grind [JA]
abbrev JC (qa qb:Bool) (A B:List dH) (E:List jr) (S:Nat×nG dH):List (Am.aS×bs):=
 [(.aj 7, .ah (.ag qa 3 (iN A) .av)),(.aj 8, .ah (.ag qb 3 (iN B) .av)),(.aj 9, .ah (.ar 7 0)),(.aj 10, .ah (.ar 10 0)),(.aj 11, .ah (.ar 13 0)),
  (.af 7, .au 74 [.ag (decide (E=[])) 2 (yC E) (.cO 8)]),(.aJ 8, .aN 216 2 E.length),(.af 10, .au 142 [.aP 159 [] [.ar 7 0]]),
  (.af 12, .c9 (.dP S.1 (pY nM S.2))),(.af 13, .au 280 [.cg 12])]
def sO (A B:List dH) (k:Nat):List jr:=((A.reverse.take k).filter λt=>!wY B t).map λt=>⟨1,t.dx⟩
theorem aeD {A B:List dH} {k:Nat} (h:k<A.length):sO A B (k+1)=if wY B A[A.length - 1 - k]=true then sO A B k else sO A B k++[⟨1,A[A.length - 1 - k].dx⟩]:=by
 unfold sO;rw [List.take_succ_eq_append_getElem (by simp_all),List.filter_append,List.map_append,List.getElem_reverse];grind
theorem UW (A B:List dH) (k:Nat):(sO A B k).length<=A.length:=by
 grind [sO]
def sN (A B:List dH) (k:Nat):List jr:=((B.take k).filter λt=>!wY A t).map λt=>⟨2,t.dx⟩
theorem aeB {A B:List dH} {k:Nat} (h:k<B.length):sN A B (k+1)=if wY A B[k]=true then sN A B k else sN A B k++[⟨2,B[k].dx⟩]:=by
 grind [sN,List.take_succ_eq_append_getElem]
theorem UU (A B:List dH) (k:Nat):(sN A B k).length<=B.length:=by
 grind [sN]
def sP (A B:List dH) (k:Nat):List jr:=((B.take k).filter λt=>Gq A t).map λt=>⟨3,t.dx⟩
theorem aeF {A B:List dH} {k:Nat} (h:k<B.length):sP A B (k+1)=if Gq A B[k]=true then sP A B k++[⟨3,B[k].dx⟩] else sP A B k:=by
 grind [sP,List.take_succ_eq_append_getElem]
theorem aeE (A B:List dH) (k:Nat):(sP A B k).length<=B.length:=by
 grind [sP]
theorem aeC (n1 n2:Bool) (a b:List aI) (dir:Int) (ha:∀ n∈a,dX n.bc) (hb:∀ n∈b,dX n.bc) (hal:a.length<=1000) (hbl:b.length<=1000) (has:∀ n∈a,n.fm.length<=1000) (hbs:∀ n∈b,n.fm.length<=1000):
  aC Tryz.prog 91 [.ag n1 8 (cT a) .av, .ag n2 8 (cT b) .av, .aa .i64 dir]
   (.ag (decide (vj (eL a dir) (eL b dir)=[])) 2 (yC (vj (eL a dir) (eL b dir))) .av):=by
 have hia:=DJ n1 a dir ha om has;have hib:=DJ n2 b dir hb om hbs;have hla:=Ju a dir;have hlb:=Ju b dir;generalize eL a dir=A at*;generalize eL b dir=B at*;have hAl:A.length<=1000:=om;have hBl:B.length<=1000:=om;have hAe:=DH A;have hBe:=DH B;refine aC.IH (Rj.II dW (fn:=Tryz.f91) aG rfl aG rfl rfl ?_);refine eK ?_;refine eK ?_;refine ak ?_;generalize decide (A=[])=qa;generalize decide (B=[])=qb;refine eK ?_;refine db.Ft 7 216 2 rfl ?_;refine eK ?_;refine eK ?_;refine mf.Fq rfl ?_
 conv=>whnf
 refine eK ?_;refine db.cK (λk:Nat=>(.aj 36, .ah (.ag qb 3 (iN B) .av))::(.aj 37, .ah (.aa .i64 B.length))::(.aj 38, .ah (.aa .i64 k))::JC qa qb A B [] (pj 0 (B.take k))) 14
  (λk=>k<=B.length) (λk=>B.length - k) dd 0 (Nat.zero_le _) ⟨rfl,rfl,?_,rfl,rfl,rfl,rfl,rfl,rfl,rfl,rfl,rfl,rfl,rfl,rfl,rfl,rfl,rfl,rfl,rfl,rfl,rfl,rfl,rfl,rfl,rfl,trivial⟩ ?_
 ·show bs.ah (ae.aa .i64 (iN B).length)=_;rw [hBe]
 rintro k hk;refine cn ?_;refine ⟨λh=>?_,λh=>?_⟩
 ·have h:=of_decide_eq_true h;have hlt:k<B.length:=om;have hg:=zL hlt;have hst:pj 0 (B.take (k+1))=wX (pj 0 (B.take k)) B[k].dx B[k]:=by rw [List.take_succ_eq_append_getElem hlt,UN]
  generalize hS:pj 0 (B.take k)=S at*;generalize hS':pj 0 (B.take (k+1))=S' at*;refine ak ?_;generalize B[k]=it at*
  conv=>whnf
  refine mf.k8 (kt:=9) (et:=60) (d:= .string) aG aG (.inl rfl) rfl rfl rfl rfl (Gy nM _) ((tY it.dx it S.2).map (pY nM)) (NA nM _ it _) ?_
  conv=>whnf
  refine ⟨k+1,hlt,by grind,rfl,rfl,rfl,rfl,?_,rfl,rfl,rfl,rfl,rfl,rfl,rfl,rfl,rfl,rfl,rfl,rfl,rfl,rfl,rfl,rfl,rfl,?_,rfl,rfl,rfl,trivial⟩
  ·exact dh
  ·rw [hS',hst];exact congrArg bs.c9 (UT nM S it.dx it)
 have h:=of_decide_eq_false h;obtain rfl:k=B.length:=om;rw [List.take_length];have hbf:=UM 0 B;generalize pj 0 B=S at*
 conv=>whnf
 refine eK ?_;refine bn Tryz.func160 ?_
 conv=>whnf
 refine db.Fs [(7, .ag qa 3 (iN A) .av),(8, .ag qb 3 (iN B) .av),(9, .ar 7 0),(10, .ar 10 0),(11, .ar 13 0)] ⟨rfl,rfl,rfl,rfl,rfl,rfl,rfl,rfl,rfl,rfl,trivial⟩ rfl rfl ?_;refine bn Tryz.func216 ?_
 conv=>whnf
 have hwz:IntKind.i64.wrap ((A.length:Int) - 1)=((A.length:Int) - 1 - (0:Nat)):=by grind [bj]
 refine db.cK (λk:Nat=>[(.aj 0, .ah (.cw 20)),(.aj 1, .ah (.ar 16 0)),(.aj 3, .ah (.aa .i64 ((A.length:Int) - 1 - k))),
  (.af 7, .au 74 [.ag (decide (sO A B k=[])) 2 (yC (sO A B k)) (.cO 8)]),(.aJ 8, .aN 216 2 (sO A B k).length),(.af 10, .au 142 [.aP 159 [] [.ar 7 0]]),
  (.af 12, .c9 (.dP S.1 (pY nM S.2))),(.af 13, .au 280 [.cg 12]),(.af 16, .au 55 [.ag qa 3 (iN A) .av]),
  (.af 20, .eZ .ready none 144 [(7, .ag qa 3 (iN A) .av),(8, .ag qb 3 (iN B) .av),(9, .ar 7 0),(10, .ar 10 0),(11, .ar 13 0)] [49,50] (DB Tryz.f91 0).1 (DB Tryz.f91 0).2)]) 21
  (λk=>k<=A.length) (λk=>A.length - k) dd 0 (Nat.zero_le _) ⟨rfl,rfl,rfl,rfl,?_,rfl,rfl,rfl,rfl,rfl,rfl,rfl,rfl,rfl,rfl,rfl,rfl,rfl,rfl,rfl,trivial⟩ ?_
 ·show bs.ah (ae.aa .i64 (IntKind.i64.wrap (((iN A).length:Nat) - 1)))=_;rw [hAe,hwz]
 rintro k hk;refine cn ?_;refine ⟨λh=>?_,λh=>?_⟩
 ·have h:=of_decide_eq_true h;have hlt:k<A.length:=om;have hk2:(((A.length:Int) - 1 - k)).toNat=A.length - 1 - k:=om;have hg:(iN A)[A.length - 1 - k]? =_:=zL (show A.length - 1 - k<A.length by omega);have hnx:=aeD (B:=B) hlt;have hEl:=UW A B k;have wk:IntKind.i64.wrap ((A.length:Int) - 1 - k - 1)=((A.length:Int) - 1 - (k+1:Nat)):=by grind [bj]
  generalize hE:sO A B k=E at*;generalize hE':sO A B (k+1)=E' at*;have hEe:=JA E;unfold wY at hnx;have hbf1:=hbf A[A.length - 1 - k].dx
  conv=>whnf
  refine ⟨_,⟨om,by rw [hk2];exact hg⟩,?_⟩;generalize A[A.length - 1 - k]=it at*
  conv=>whnf
  refine CH.Fu dW jd rfl rfl rfl (λlp=>?_)
  conv=>whnf
  refine mf.xQ dW (kt:=9) (et:=60) (d:= .string) aG aG rfl rfl aG rfl rfl (.inl rfl) rfl (Gy nM _) ((kA it.dx S.2).map nM) (JB nM it.dx S.2) ?_;rw [hbf1];cases hlk:yw B it.dx with
  |none=>
   rw [hlk] at hnx;simp only [Bool.false_eq_true,if_false] at hnx;rw [Option.map_none];refine ak ?_;refine bn Tryz.func159 ?_
   conv=>whnf
   refine ⟨⟨hEe.symm,dG (by grind) dd⟩,?_⟩
   conv=>whnf
   refine ⟨k+1,hlt,by grind,rfl,rfl,rfl,rfl,?_,rfl,?_,rfl,?_,rfl,rfl,rfl,rfl,rfl,rfl,rfl,rfl,rfl,rfl,rfl,trivial⟩
   ·show bs.ah (ae.aa .i64 (IntKind.i64.wrap ((A.length:Int) - 1 - k - 1)))=_;rw [wk]
   ·rw [hE',hnx];exact Gz _ _ E ⟨1,it.dx⟩
   ·rw [hE',hnx];exact GA _ E ⟨1,it.dx⟩
  |some x=>
   rw [hlk] at hnx;rw [Option.map_some];refine ak ?_;refine ⟨λh=>?_,λh=>?_⟩
   ·have h:x.eM≠it.eM:=by simpa using h
    simp only [decide_eq_false h,Bool.false_eq_true,if_false] at hnx
    conv=>whnf
    refine bn Tryz.func159 ?_
    conv=>whnf
    refine ⟨⟨hEe.symm,dG (by grind) dd⟩,?_⟩
    conv=>whnf
    refine ⟨k+1,hlt,by grind,rfl,rfl,rfl,rfl,?_,rfl,?_,rfl,?_,rfl,rfl,rfl,rfl,rfl,rfl,rfl,rfl,rfl,rfl,rfl,trivial⟩
    ·show bs.ah (ae.aa .i64 (IntKind.i64.wrap ((A.length:Int) - 1 - k - 1)))=_;rw [wk]
    ·rw [hE',hnx];exact Gz _ _ E ⟨1,it.dx⟩
    ·rw [hE',hnx];exact GA _ E ⟨1,it.dx⟩
   ·have h:x.eM=it.eM:=by simpa using h
    simp only [decide_eq_true h,if_true] at hnx
    conv=>whnf
    refine ⟨k+1,hlt,by grind,rfl,rfl,rfl,rfl,?_,rfl,?_,rfl,?_,rfl,rfl,rfl,rfl,rfl,rfl,rfl,rfl,rfl,rfl,rfl,trivial⟩
    ·show bs.ah (ae.aa .i64 (IntKind.i64.wrap ((A.length:Int) - 1 - k - 1)))=_;rw [wk]
    ·rw [hE',hnx];rfl
    ·rw [hE',hnx];rfl
 have h:=of_decide_eq_false h;obtain rfl:k=A.length:=om;have hgone:sO A B A.length=Gn A B:=by
  grind [sO,Gn,List.length_reverse]
 rw [hgone];have hE1l:=UW A B A.length;rw [hgone] at hE1l;generalize hE1:Gn A B=E1 at*
 conv=>whnf
 refine eK ?_;refine mf.aav (kt:=9) (et:=60) aG rfl rfl rfl rfl rfl rfl ?_
 conv=>whnf
 refine eK ?_;clear hbf;refine db.cK (λk:Nat=>(.aj 72, .ah (.ag qa 3 (iN A) .av))::(.aj 73, .ah (.aa .i64 A.length))::(.aj 74, .ah (.aa .i64 k))::JC qa qb A B E1 (pj S.1 (A.take k))) 14
  (λk=>k<=A.length) (λk=>A.length - k) dd 0 (Nat.zero_le _) ⟨rfl,rfl,?_,rfl,rfl,rfl,rfl,rfl,rfl,rfl,rfl,rfl,rfl,rfl,rfl,rfl,rfl,rfl,rfl,rfl,rfl,rfl,rfl,rfl,rfl,rfl,trivial⟩ ?_
 ·show bs.ah (ae.aa .i64 (iN A).length)=_;rw [hAe]
 rintro k hk;refine cn ?_;refine ⟨λh=>?_,λh=>?_⟩
 ·have h:=of_decide_eq_true h;have hlt:k<A.length:=om;have hg:=zL hlt;have hst:pj S.1 (A.take (k+1))=wX (pj S.1 (A.take k)) A[k].dx A[k]:=by rw [List.take_succ_eq_append_getElem hlt,UN]
  generalize hR:pj S.1 (A.take k)=R at*;generalize hR':pj S.1 (A.take (k+1))=R' at*;refine ak ?_;generalize A[k]=it at*
  conv=>whnf
  refine mf.k8 (kt:=9) (et:=60) (d:= .string) aG aG (.inl rfl) rfl rfl rfl rfl (Gy nM _) ((tY it.dx it R.2).map (pY nM)) (NA nM _ it _) ?_
  conv=>whnf
  refine ⟨k+1,hlt,by grind,rfl,rfl,rfl,rfl,?_,rfl,rfl,rfl,rfl,rfl,rfl,rfl,rfl,rfl,rfl,rfl,rfl,rfl,rfl,rfl,rfl,rfl,?_,rfl,rfl,rfl,trivial⟩
  ·exact dh
  ·rw [hR',hst];exact congrArg bs.c9 (UT nM R it.dx it)
 have h:=of_decide_eq_false h;obtain rfl:k=A.length:=om;rw [List.take_length];have hbf:=UM S.1 A;generalize pj S.1 A=R at*
 conv=>whnf
 refine eK ?_;refine db.cK (λk:Nat=>(.aj 83, .ah (.ag qb 3 (iN B) .av))::(.aj 84, .ah (.aa .i64 B.length))::(.aj 85, .ah (.aa .i64 k))::JC qa qb A B (E1++sN A B k) R) 14
  (λk=>k<=B.length) (λk=>B.length - k) dd 0 (Nat.zero_le _) ⟨rfl,rfl,?_,rfl,rfl,rfl,rfl,rfl,rfl,rfl,rfl,rfl,rfl,rfl,rfl,rfl,?_,rfl,?_,rfl,rfl,rfl,rfl,rfl,rfl,rfl,trivial⟩ ?_
 ·show bs.ah (ae.aa .i64 (iN B).length)=_;rw [hBe]
 ·rw [show sN A B 0=[] from rfl,List.append_nil];rfl
 ·rw [show sN A B 0=[] from rfl,List.append_nil];rfl
 rintro k hk;refine cn ?_;refine ⟨λh=>?_,λh=>?_⟩
 ·have h:=of_decide_eq_true h;have hlt:k<B.length:=om;have hg:=zL hlt;have hnx:=aeB (A:=A) hlt;have hEl:=UU A B k;have w1:IntKind.i64.wrap ((k:Int)+1)=((k+1:Nat):Int):=by grind [bj]
  generalize hE:sN A B k=E at*;generalize hE':sN A B (k+1)=E' at*;have hEe:=JA (E1++E);have hEb:(E1++E).length<=2000:=by grind
  unfold wY at hnx;have hbf1:=hbf B[k].dx;refine ak ?_;generalize B[k]=it at*
  conv=>whnf
  refine mf.xQ dW (kt:=9) (et:=60) (d:= .string) aG aG rfl rfl aG rfl rfl (.inl rfl) rfl (Gy nM _) ((kA it.dx R.2).map nM) (JB nM it.dx R.2) ?_;rw [hbf1];cases hlk:yw A it.dx with
  |none=>
   rw [hlk] at hnx;simp only [Bool.false_eq_true,if_false] at hnx;rw [Option.map_none];refine ak ?_;refine bn Tryz.func159 ?_
   conv=>whnf
   refine ⟨⟨hEe.symm,dG (by grind) dd⟩,?_⟩
   conv=>whnf
   refine ⟨k+1,hlt,by grind,rfl,rfl,rfl,rfl,?_,rfl,rfl,rfl,rfl,rfl,rfl,rfl,rfl,rfl,rfl,rfl,?_,rfl,?_,rfl,rfl,rfl,rfl,rfl,rfl,rfl,trivial⟩
   ·exact dh
   ·rw [hE',hnx,<-List.append_assoc];exact Gz _ _ (E1++E) ⟨2,it.dx⟩
   ·rw [hE',hnx,<-List.append_assoc];exact GA _ (E1++E) ⟨2,it.dx⟩
  |some x=>
   rw [hlk] at hnx;rw [Option.map_some];refine ak ?_;refine ⟨λh=>?_,λh=>?_⟩
   ·have h:x.eM≠it.eM:=by simpa using h
    simp only [decide_eq_false h,Bool.false_eq_true,if_false] at hnx
    conv=>whnf
    refine bn Tryz.func159 ?_
    conv=>whnf
    refine ⟨⟨hEe.symm,dG (by grind) dd⟩,?_⟩
    conv=>whnf
    refine ⟨k+1,hlt,by grind,rfl,rfl,rfl,rfl,?_,rfl,rfl,rfl,rfl,rfl,rfl,rfl,rfl,rfl,rfl,rfl,?_,rfl,?_,rfl,rfl,rfl,rfl,rfl,rfl,rfl,trivial⟩
    ·exact dh
    ·rw [hE',hnx,<-List.append_assoc];exact Gz _ _ (E1++E) ⟨2,it.dx⟩
    ·rw [hE',hnx,<-List.append_assoc];exact GA _ (E1++E) ⟨2,it.dx⟩
   ·have h:x.eM=it.eM:=by simpa using h
    simp only [decide_eq_true h,if_true] at hnx
    conv=>whnf
    refine ⟨k+1,hlt,by grind,rfl,rfl,rfl,rfl,?_,rfl,rfl,rfl,rfl,rfl,rfl,rfl,rfl,rfl,rfl,rfl,?_,rfl,?_,rfl,rfl,rfl,rfl,rfl,rfl,rfl,trivial⟩
    ·exact dh
    ·rw [hE',hnx];rfl
    ·rw [hE',hnx];rfl
 have h:=of_decide_eq_false h;obtain rfl:k=B.length:=om;have hcame:sN A B B.length=DK A B:=by grind [sN,DK]
 rw [hcame];have hcl:(E1++DK A B).length<=2000:=by
  rw [List.length_append,<-hcame];have:=UU A B B.length;omega
 unfold vj;rw [hE1];generalize E1++DK A B=E2 at*
 conv=>whnf
 refine eK ?_;refine db.cK (λk:Nat=>(.aj 110, .ah (.ag qb 3 (iN B) .av))::(.aj 111, .ah (.aa .i64 B.length))::(.aj 112, .ah (.aa .i64 k))::JC qa qb A B (E2++sP A B k) R) 14
  (λk=>k<=B.length) (λk=>B.length - k) dd 0 (Nat.zero_le _) ⟨rfl,rfl,?_,rfl,rfl,rfl,rfl,rfl,rfl,rfl,rfl,rfl,rfl,rfl,rfl,rfl,?_,rfl,?_,rfl,rfl,rfl,rfl,rfl,rfl,rfl,trivial⟩ ?_
 ·show bs.ah (ae.aa .i64 (iN B).length)=_;rw [hBe]
 ·rw [show sP A B 0=[] from rfl,List.append_nil];rfl
 ·rw [show sP A B 0=[] from rfl,List.append_nil];rfl
 rintro k hk;refine cn ?_;refine ⟨λh=>?_,λh=>?_⟩
 ·have h:=of_decide_eq_true h;have hlt:k<B.length:=om;have hg:=zL hlt;have hnx:=aeF (A:=A) hlt;have hEl:=aeE A B k;have w1:IntKind.i64.wrap ((k:Int)+1)=((k+1:Nat):Int):=by grind [bj]
  generalize hE:sP A B k=E at*;generalize hE':sP A B (k+1)=E' at*;have hEe:=JA (E2++E);have hEb:(E2++E).length<=3000:=by grind
  unfold Gq at hnx;have hbf1:=hbf B[k].dx;refine ak ?_;generalize B[k]=it at*
  conv=>whnf
  refine mf.xQ dW (kt:=9) (et:=60) (d:= .string) aG aG rfl rfl aG rfl rfl (.inl rfl) rfl (Gy nM _) ((kA it.dx R.2).map nM) (JB nM it.dx R.2) ?_;rw [hbf1];cases hlk:yw A it.dx with
  |none=>
   rw [hlk] at hnx;simp only [Bool.false_eq_true,if_false] at hnx;rw [Option.map_none];refine iV ?_;refine ⟨k+1,hlt,by grind,rfl,rfl,rfl,rfl,?_,rfl,rfl,rfl,rfl,rfl,rfl,rfl,rfl,rfl,rfl,rfl,?_,rfl,?_,rfl,rfl,rfl,rfl,rfl,rfl,rfl,trivial⟩
   ·exact dh
   ·rw [hE',hnx];rfl
   ·rw [hE',hnx];rfl
  |some x=>
   rw [hlk] at hnx;rw [Option.map_some];refine ak ?_;refine ⟨λh=>?_,λh=>?_⟩
   ·have h:x.eM=it.eM:=by simpa using h
    simp only [decide_eq_true h,Bool.true_and] at hnx
    conv=>whnf
    refine ⟨λh=>?_,λh=>?_⟩
    ·have h:x.wJ≠it.wJ:=by simpa using h
     simp only [decide_eq_false h,Bool.not_false,if_true] at hnx
     conv=>whnf
     refine bn Tryz.func159 ?_
     conv=>whnf
     refine ⟨⟨hEe.symm,dG (by grind) dd⟩,?_⟩
     conv=>whnf
     refine ⟨k+1,hlt,by grind,rfl,rfl,rfl,rfl,?_,rfl,rfl,rfl,rfl,rfl,rfl,rfl,rfl,rfl,rfl,rfl,?_,rfl,?_,rfl,rfl,rfl,rfl,rfl,rfl,rfl,trivial⟩
     ·exact dh
     ·rw [hE',hnx,<-List.append_assoc];exact Gz _ _ (E2++E) ⟨3,it.dx⟩
     ·rw [hE',hnx,<-List.append_assoc];exact GA _ (E2++E) ⟨3,it.dx⟩
    ·have h:x.wJ=it.wJ:=by simpa using h
     simp only [decide_eq_true h,Bool.not_true,Bool.false_eq_true,if_false] at hnx
     conv=>whnf
     refine ⟨k+1,hlt,by grind,rfl,rfl,rfl,rfl,?_,rfl,rfl,rfl,rfl,rfl,rfl,rfl,rfl,rfl,rfl,rfl,?_,rfl,?_,rfl,rfl,rfl,rfl,rfl,rfl,rfl,trivial⟩
     ·exact dh
     ·rw [hE',hnx];rfl
     ·rw [hE',hnx];rfl
   ·have h:x.eM≠it.eM:=by simpa using h
    simp only [decide_eq_false h,Bool.false_and,Bool.false_eq_true,if_false] at hnx;refine iV ?_;refine ⟨k+1,hlt,by grind,rfl,rfl,rfl,rfl,?_,rfl,rfl,rfl,rfl,rfl,rfl,rfl,rfl,rfl,rfl,rfl,?_,rfl,?_,rfl,rfl,rfl,rfl,rfl,rfl,rfl,trivial⟩
    ·exact dh
    ·rw [hE',hnx];rfl
    ·rw [hE',hnx];rfl
 have h:=of_decide_eq_false h;obtain rfl:k=B.length:=om;have hwr:sP A B B.length=Gp A B:=by grind [sP,Gp]
 rw [hwr];generalize E2++Gp A B=E3 at*
 conv=>whnf
 refine cn ?_;exact ⟨_,iL.bw _,iL.bw _⟩
def cv {α:Type} (sz:Nat) (enc:α->List ae) (s:cj α):ae:= .ag s.bZ sz (s.ab.map enc) .av
theorem lN {α:Type} (enc:α->List ae) {l:List α} {k:Nat} (hk:k<l.length):(l.map enc)[k]? =some (enc l[k]):=by simp_all
def bA (h:bX):List ae:=[.aa .i64 h.eA, .aa .i64 h.fZ]
def dz (w:fI):List ae:=[.aa .i64 w.fJ, .aa .i64 w.oA]
def ie (z:Int):List ae:=[.aa .i64 z]
def jv (s:List UInt8):List ae:=[.ai s]
def dY (e:iG):List ae:=[.aa .i64 e.cF.aT.dg, .aa .i64 e.cF.aT.dS, .aa .i64 e.cF.fc, .aa .i64 e.cF.aY, .aa .i64 e.cF.gg, .ai e.cF.j4, .ai e.cF.j3,
 .aE e.qG.Ms, .aE e.qG.Mt, .aa .i64 e.qG.tN.bc, .aa .i64 e.qG.tN.gh, .ai e.qG.tN.fm, .aa .i64 e.qG.tN.mA.dg, .aa .i64 e.qG.tN.mA.dS, .ai e.qG.tN.ov, .aa .i64 e.qG.tN.FW.dg, .aa .i64 e.qG.tN.FW.dS]
def UX (g:eh):List ae:=[cv 17 dY g.b8,cv 8 iF g.aQ]
def rG (g:eh):ae:= .aK (UX g)
def iJ (s:jC):List ae:=[.aa .i64 s.iI,cv 8 iF s.DT]
def DX (q:vn):List ae:=[cv 2 fD q.oB, .aE q.Gs]
def ej (w:fQ):List ae:=[.aa .i64 w.ic, .aa .i64 w.kC,cv 2 fD w.l8.oB, .aE w.l8.Gs]
def aeG (m:bM):List ae:=[cv 17 dY m.aA.b8,cv 8 iF m.aA.aQ, .aa .i64 m.eC, .aa .i64 m.iH,cv 2 iJ m.dO,cv 4 ej m.de, .aa .i64 m.fz]
def yD (a:l7):List ae:=[.aa .i64 a.vk, .ai a.DN,cv 1 jv a.kB, .aa .i64 a.qF,cv 2 fD a.mD]
def NB (d:dj):List ae:=[cv 17 dY d.bp.aA.b8,cv 8 iF d.bp.aA.aQ, .aa .i64 d.bp.eC, .aa .i64 d.bp.iH,cv 2 iJ d.bp.dO,cv 4 ej d.bp.de, .aa .i64 d.bp.fz,
 .aa .i64 d.gj.vk, .ai d.gj.DN,cv 1 jv d.gj.kB, .aa .i64 d.gj.qF,cv 2 fD d.gj.mD, .aa .i64 d.jh.dD, .ai d.jh.bY, .ai d.jh.fO, .ai d.jh.ia, .aa .i64 d.jh.cR,cv 7 cI d.fP]
def cr (t:cd):List ae:=[.aa .i64 t.dN.dD, .ai t.dN.bY, .ai t.dN.fO, .ai t.dN.ia, .aa .i64 t.dN.cR,cv 1 ie t.jB, .aa .i64 t.mX, .aE t.tZ, .aE t.kf, .aa .i64 t.ua, .aa .i64 t.Jy, .aa .i64 t.lh, .aa .i64 t.pW,
 .aa .i64 t.dT.vk, .ai t.dT.DN,cv 1 jv t.dT.kB, .aa .i64 t.dT.qF,cv 2 fD t.dT.mD]
def vw (t:ib):List ae:=[cv 2 bA t.eW,cv 2 bA t.di]
def BI (g:l6):List ae:=[.aa .i64 g.nH,cv 2 dz g.gi]
def DW (x:aV):List ae:=[cv 17 dY x.br.aA.b8,cv 8 iF x.br.aA.aQ, .aa .i64 x.br.eC, .aa .i64 x.br.iH,cv 2 iJ x.br.dO,cv 4 ej x.br.de, .aa .i64 x.br.fz,
 cv 2 bA x.cM.eW,cv 2 bA x.cM.di, .aa .i64 x.dy.nH,cv 2 dz x.dy.gi,cv 18 cr x.aq, .aa .i64 x.ca,cv 7 cI x.bG]
def zU (m:bM):ae:= .aK (aeG m)
def JD (a:l7):ae:= .aK (yD a)
def vz (t:cd):ae:= .aK (cr t)
def eY (t:ib):ae:= .aK (vw t)
def l9 (g:l6):ae:= .aK (BI g)
def lM (x:aV):ae:= .aK (DW x)
def GB (u:dt):ae:= .aK [.aa .i64 u.gu, .aa .i64 u.pk]
def fR {α:Type} (p:α->Bool) (l:List α):Int:=match l.findIdx? p with|some i=>i|none=>-1
theorem UZ {α:Type} {p:α->Bool} {l:List α} {k:Nat} (hk:k<l.length) (h:∀ a∈l.take k,p a=false) (hp:p l[k]=true):fR p l=k:=by
 grind [List.findIdx?_eq_some_iff_getElem,List.mem_take_iff_getElem,fR]
theorem ND {α:Type} {p:α->Bool} {l:List α} (h:∀ a∈l,p a=false):fR p l=-1:=by
 grind [fR]
theorem UY {α:Type} (p:α->Bool) (l:List α):decide (0<=fR p l)=l.any p:=by
 grind [fR]
theorem NF {α:Type} {p:α->Bool} {l:List α} {k:Nat} (hk:k<l.length) (h:∀ a∈l.take k,p a=false) (hp:p l[k]=false):∀ a∈l.take (k+1),p a=false:=λa ha=>by
 grind [List.take_succ_eq_append_getElem]
end Go.Proofs.YtffboamedcmpaaaGreatDoor
namespace Gw
section
variable {α β:Type} {enc:α->List β} {sz:Nat}
theorem pq (hs:∀ a,(enc a).length=sz):∀ l:List α,((l.map enc).flatten).length=l.length*sz
 |[]=>by simp
 |a::l=>by rw [List.map_cons,List.flatten_cons,List.length_append,pq hs l,hs,List.length_cons,Nat.succ_mul];omega
theorem GC (l m:List α):((l++m).map enc).flatten=(l.map enc).flatten++(m.map enc).flatten:=by rw [List.map_append,List.flatten_append]
theorem DY (a:α) (l:List α):((a::l).map enc).flatten=enc a++(l.map enc).flatten:=rfl
theorem BJ (hs:∀ a,(enc a).length=sz) {l:List α} {k:Nat} (hk:k<=l.length):((l.map enc).flatten).drop (k*sz)=((l.drop k).map enc).flatten:=by
 have h:((l.take k).map enc).flatten.length=k*sz:=by rw [pq hs,List.length_take,Nat.min_eq_left hk]
 conv=>lhs;rw [<-List.take_append_drop k l,GC]
 rw [List.drop_left' h]
theorem BL (hs:∀ a,(enc a).length=sz) {l:List α} {k:Nat} (hk:k<=l.length):((l.map enc).flatten).take (k*sz)=((l.take k).map enc).flatten:=by
 have h:((l.take k).map enc).flatten.length=k*sz:=by rw [pq hs,List.length_take,Nat.min_eq_left hk]
 conv=>lhs;rw [<-List.take_append_drop k l,GC]
 rw [List.take_left' h]
theorem vA (hs:∀ a,(enc a).length=sz) {l:List α} {k:Nat} (hk:k<l.length):(((l.map enc).flatten).drop (k*sz)).take sz=enc l[k]:=by
 rw [BJ hs (Nat.le_of_lt hk),List.drop_eq_getElem_cons hk,DY,List.take_left' (hs _)]
theorem BK {l:List α} {k:Nat} (hs:∀ a,(enc a).length=sz) (hk:k<l.length):k*sz+sz<=((l.map enc).flatten).length:=by
 rw [pq hs,<-Nat.succ_mul];exact Nat.mul_le_mul_right _ hk
theorem DZ (hs:∀ a,(enc a).length=sz) (l m:List α) (a b:α):(((l++a::m).map enc).flatten).take (l.length*sz)++enc b++(((l++a::m).map enc).flatten).drop (l.length*sz+sz)=((l++b::m).map enc).flatten:=by
 have h1:=BL (enc:=enc) hs (l:=l++a::m) (k:=l.length) (by rw [List.length_append];omega);have h2:=BJ (enc:=enc) hs (l:=l++a::m) (k:=l.length+1) (by rw [List.length_append,List.length_cons];omega);rw [Nat.succ_mul] at h2;rw [h1,h2,List.take_left' rfl,GC,DY];have:(l++a::m).drop (l.length+1)=m:=by rw [<-List.drop_drop,List.drop_left' rfl];rfl
 rw [this,List.append_assoc]
theorem aeH {f:α->β} (hf:∀ a,enc a=[f a]):∀ {l:List α} {k:Nat} (hk:k<l.length),((l.map enc).flatten)[k*1]? =some (f l[k])
 |a::l,0,_=>by rw [DY,hf];rfl
 |a::l,k+1,hk=>by
  rw [DY,hf,Nat.mul_one];have:=aeH hf (l:=l) (k:=k) (by simpa using hk);rw [Nat.mul_one] at this;exact this
end
end Gw
namespace Go.Am
open Go.RowKit
section
def NH:ae->Bool
 | .aa _ _=>true
 | .ai _=>true
 | .aE _=>true
 | .bN=>true
 | .bo=>true
 | .ag ..=>true
 | .bU=>true
 |_=>false
theorem U1 {w:World} {g:cf} {x:ae} {v:Value} (h:aF w g x v) (hx:NH x=true):v.oneCell'=true:=by
 cases x with
 |aa k n=>cases h with|bC h=>cases h;rfl
 |ai s=>cases h with|bC h=>cases h with|gX h=>rfl
 |aE b=>rw [h.s9];rfl
 |bN=>rw [h.xw];rfl
 |bo=>rw [h.xr];rfl
 |ag a b c d=>obtain ⟨ad,c,rfl,_⟩:=h.jj;rfl
 |bU=>cases h with|bC h=>cases h;rfl
 |_=>cases hx
variable {P:Program} {T:cN} {σ:az} {o:Oper} {n:Nat} {K:ae->az->Nat->Prop}
theorem mf.aks (hT:dA P T) {t0 e:TypeId} (hu:P.underlying t0=some (.slice e)) {c0:Call} (hop:o.op= .call c0) (hcal:c0.callee= .builtin .clear) (hat:c0.argTypes[0]? =some t0) {x:Operand} (hargs:c0.args=#[x])
  {id off sz len:Nat} {full:Bool} (hx:aM σ x= .aL id off sz len full) {bt:TypeId} {cells:List ae} (hs:σ (.af id)= .aR bt cells) {r:lz} (hr:cP T e=some r) (hsz:r.aO=sz) (hz:r.jX.all NH=true) (hle:off+len*sz<=cells.length)
  (hK:K (.aw []) (aU σ (.af id) (.aR bt (cells.take off))) (n+1)):mf P o σ n K:=by
 refine ⟨λb g a w h hrr=>?_⟩;have hrx:=hrr x (by grind [Op.operands,Call.operands]);rw [hx] at hrx;obtain ⟨c,cap,ad,q1,ex,q3,q4,q5,q6⟩:=hrx.mK;obtain ⟨ad',rfl⟩:=Option.isSome_iff_exists.1 q4;obtain ⟨arr,z,m1,m2,m3,m4⟩:=h.oN id bt cells c hs q1;obtain ⟨ti,zv,z1,z2,z3,_,z4,z5,z6,_⟩:=lz.pG hT hr;have hzl:zv.cells.size=sz:=by rw [z4,hsz]
 have run:∀ {w':World},(Builtin.clear_ c0.argTypes o.type #[a.eval x]).run P w= .ok (.tuple #[]) w'->(execOp a.eval o).run P w= .ok (.value (.tuple #[])) w':=by
  intro w' hb;obtain ⟨dst,op,ty,pos,after,guard⟩:=o;grind [tl,builtin,Sem.run_bind,Result.andThen_ok,Sem.run_pure]
 have hvl:(Builtin.zeroCells zv.cells len).toList.length=len*sz:=by simp [Builtin.zeroCells,hzl]
 have hone:∀ (i:Nat) (v:Value),(Builtin.zeroCells zv.cells len).toList[i]? =some v->v.oneCell'=true:=by
  intro i v hv;have hi:i<len*sz:=by grind
  have hpos:0<sz:=by
   grind
  have hm:i % sz<sz:=Nat.mod_lt _ hpos;have hm1:i % sz<r.jX.length:=om;have hm2:i % sz<zv.cells.size:=om;have e2:v=zv.cells[i % sz]:=by
   have hv':(Builtin.zeroCells zv.cells len)[i]? =some v:=by simpa using hv
   simp only [Builtin.zeroCells,hzl,Array.getElem?_map,Array.getElem?_range,hi,if_pos,Option.map_some,Option.some.injEq] at hv';simp_all
  subst e2;exact U1 (z6 w g (i % sz) _ _ (List.getElem?_eq_getElem hm1) (by simp [hm2])) (List.all_eq_true.1 hz _ (List.getElem_mem hm1))
 have store:∃ w',(Builtin.clear_ c0.argTypes o.type #[a.eval x]).run P w= .ok (.tuple #[]) w'/\kj c w w'/\w'.heap[c]? =some (.cells (arr.take off++(Builtin.zeroCells zv.cells len).toList++arr.drop (off+(Builtin.zeroCells zv.cells len).toList.length)).toArray bt z):=by
  rcases Nat.eq_zero_or_pos len with h0|h0
  ·subst h0;refine ⟨w,?_,⟨rfl,rfl,rfl,rfl,λ_ _=>rfl,rfl,λ_ h=>h,rfl⟩,by simp_all⟩;simp [Builtin.clear_,hat,ex,run_underlying hu,Result.andThen]
  ·have e:=q3 h0;cases e;obtain ⟨w',r1,r2,r3⟩:=AG (P:=P) c (Builtin.zeroCells zv.cells len).toList off 0 arr w m1 (by rw [hvl];omega) (λo ho=>m3 o ho) (λu hu'=>by
    obtain ⟨i,hi,rfl⟩:=List.getElem_of_mem hu';exact hone i _ (List.getElem?_eq_getElem hi))
   refine ⟨w',?_,r2,by simpa using r3⟩;have hzr:(zeroValue e).run P w= .ok zv w:=by simp [zeroValue,typeInfo,z1,z2]
   obtain ⟨k,rfl⟩:∃ k,len=k+1:=⟨len - 1,om⟩;simp only [Builtin.clear_,hat,ex,List.getElem?_toArray,List.getElem?_cons_zero,Sem.run_bind,run_underlying hu,Result.andThen_ok,hzr,r1,Sem.run_pure]
 obtain ⟨w',r1,r2,r3⟩:=store;have hE:dp g w g w':=dp.pC r2 (λo=>by obtain ⟨c',p1,_,_,p2⟩:=h.dq id (by rw [hs];rfl);simp_all);obtain ⟨k1,k2⟩:=h.j8 (X:= .aR bt (cells.take off)) (by rw [hs];rfl) q1 r2 (λ_=>by
  refine ⟨_,z,r3,by simp [hvl];omega,λo ho=>m3 o (by grind),λi y u hy hu=>?_⟩;have hi:i<off:=by
   grind
  rw [List.getElem?_take,if_pos hi] at hy;rw [List.append_assoc,List.getElem?_append_left (by grind),List.getElem?_take,if_pos hi] at hu;exact (m4 i y u hy hu).eO hE.ee)
 exact ⟨.value (.tuple #[]), .tuple #[],w', .aw [],_,n+1,g,run r1, .inl rfl,hK,Nat.le_succ n, .jN (vs:=[]) rfl (λi x v h1=>by simp at h1),k1.qp (Nat.le_succ n),k2⟩
theorem mf.NG (hT:dA P T) {t0 e:TypeId} (hu:P.underlying t0=some (.slice e)) {c0:Call} (hop:o.op= .call c0) (hcal:c0.callee= .builtin .clear) (hat:c0.argTypes[0]? =some t0) {x:Operand} (hargs:c0.args=#[x])
  {id off sz len:Nat} {full:Bool} (hx:aM σ x= .aL id off sz len full) {bt:TypeId} {cells:List ae} (hs:σ (.af id)= .aR bt cells) {r:lz} (hr:cP T e=some r) (hsz:r.aO=sz) (hz:r.jX.all NH=true) (hzp:kZ r.jX=true) (hle:off+len*sz<=cells.length)
  (hK:K (.aw []) (aU σ (.af id) (.aR bt (cells.take off++eB len (iB r.jX)++cells.drop (off+len*sz)))) (n+1)):mf P o σ n K:=by
 refine ⟨λb g a w h hrr=>?_⟩;have hrx:=hrr x (by grind [Op.operands,Call.operands]);rw [hx] at hrx;obtain ⟨c,cap,ad,q1,ex,q3,q4,q5,q6⟩:=hrx.mK;obtain ⟨ad',rfl⟩:=Option.isSome_iff_exists.1 q4;obtain ⟨arr,z,m1,m2,m3,m4⟩:=h.oN id bt cells c hs q1;obtain ⟨ti,zv,z1,z2,z3,_,z4,z5,z6,_⟩:=lz.pG hT hr;have hzl:zv.cells.size=sz:=by rw [z4,hsz]
 have run:∀ {w':World},(Builtin.clear_ c0.argTypes o.type #[a.eval x]).run P w= .ok (.tuple #[]) w'->(execOp a.eval o).run P w= .ok (.value (.tuple #[])) w':=by
  intro w' hb;obtain ⟨dst,op,ty,pos,after,guard⟩:=o;grind [tl,builtin,Sem.run_bind,Result.andThen_ok,Sem.run_pure]
 have hvl:(Builtin.zeroCells zv.cells len).toList.length=len*sz:=by simp [Builtin.zeroCells,hzl]
 have hone:∀ (i:Nat) (v:Value),(Builtin.zeroCells zv.cells len).toList[i]? =some v->v.oneCell'=true:=by
  intro i v hv;have hi:i<len*sz:=by grind
  have hpos:0<sz:=by
   grind
  have hm:i % sz<sz:=Nat.mod_lt _ hpos;have hm1:i % sz<r.jX.length:=om;have hm2:i % sz<zv.cells.size:=om;have e2:v=zv.cells[i % sz]:=by
   have hv':(Builtin.zeroCells zv.cells len)[i]? =some v:=by simpa using hv
   simp only [Builtin.zeroCells,hzl,Array.getElem?_map,Array.getElem?_range,hi,if_pos,Option.map_some,Option.some.injEq] at hv';simp_all
  subst e2;exact U1 (z6 w g (i % sz) _ _ (List.getElem?_eq_getElem hm1) (by simp [hm2])) (List.all_eq_true.1 hz _ (List.getElem_mem hm1))
 have store:∃ w',(Builtin.clear_ c0.argTypes o.type #[a.eval x]).run P w= .ok (.tuple #[]) w'/\kj c w w'/\w'.heap[c]? =some (.cells (arr.take off++(Builtin.zeroCells zv.cells len).toList++arr.drop (off+(Builtin.zeroCells zv.cells len).toList.length)).toArray bt z):=by
  rcases Nat.eq_zero_or_pos len with h0|h0
  ·subst h0;refine ⟨w,?_,⟨rfl,rfl,rfl,rfl,λ_ _=>rfl,rfl,λ_ h=>h,rfl⟩,by simp_all⟩;simp [Builtin.clear_,hat,ex,run_underlying hu,Result.andThen]
  ·have e:=q3 h0;cases e;obtain ⟨w',r1,r2,r3⟩:=AG (P:=P) c (Builtin.zeroCells zv.cells len).toList off 0 arr w m1 (by rw [hvl];omega) (λo ho=>m3 o ho) (λu hu'=>by
    obtain ⟨i,hi,rfl⟩:=List.getElem_of_mem hu';exact hone i _ (List.getElem?_eq_getElem hi))
   refine ⟨w',?_,r2,by simpa using r3⟩;have hzr:(zeroValue e).run P w= .ok zv w:=by simp [zeroValue,typeInfo,z1,z2]
   obtain ⟨k,rfl⟩:∃ k,len=k+1:=⟨len - 1,om⟩;simp only [Builtin.clear_,hat,ex,List.getElem?_toArray,List.getElem?_cons_zero,Sem.run_bind,run_underlying hu,Result.andThen_ok,hzr,r1,Sem.run_pure]
 obtain ⟨w',r1,r2,r3⟩:=store;have hE:dp g w g w':=dp.pC r2 (λo=>by obtain ⟨c',p1,_,_,p2⟩:=h.dq id (by rw [hs];rfl);simp_all);have hzlen:r.jX.length=sz:=by
  omega
 obtain ⟨k1,k2⟩:=h.j8 (X:= .aR bt (cells.take off++eB len (iB r.jX)++cells.drop (off+len*sz))) (by rw [hs];rfl) q1 r2 (λ_=>by
  have hrl:(eB len (iB r.jX)).length=len*sz:=by rw [r8,rZ,hzlen]
  refine ⟨_,z,r3,by grind,λo ho=>m3 o (by grind),λi y u hy hu=>?_⟩;rw [List.append_assoc] at hy hu;rcases Nat.lt_or_ge i off with hi|hi
  ·rw [List.getElem?_append_left (by grind),List.getElem?_take,if_pos hi] at hy;rw [List.getElem?_append_left (by grind),List.getElem?_take,if_pos hi] at hu;exact (m4 i y u hy hu).eO hE.ee
  ·rw [List.getElem?_append_right (by grind),List.length_take,Nat.min_eq_left om] at hy hu;rcases Nat.lt_or_ge (i - off) (len*sz) with hi2|hi2
   ·rw [List.getElem?_append_left om] at hy;rw [List.getElem?_append_left om] at hu;obtain ⟨hy1,_⟩:=EX _ _ _ _ hy;have hpos:0<sz:=by
     grind
    have hm:(i - off) % sz<sz:=Nat.mod_lt _ hpos;have hm2:(i - off) % sz<zv.cells.size:=om;have hu':(Builtin.zeroCells zv.cells len)[i - off]? =some u:=by simpa using hu
    simp only [Builtin.zeroCells,hzl,Array.getElem?_map,Array.getElem?_range,hi2,if_pos,Option.map_some,Option.some.injEq] at hu';rw [<-hu',getElem!_pos zv.cells ((i - off) % sz) hm2];rw [rZ,hzlen] at hy1;obtain ⟨y0,hy0,rfl⟩:=rY hy1;have e9:zv.cells.toList[(i - off) % sz]? =some (zv.cells[(i - off) % sz]):=by simp [hm2]
    grind [tg,tf]
   ·rw [List.getElem?_append_right om,List.getElem?_drop,hrl] at hy;rw [List.getElem?_append_right om,List.getElem?_drop,hvl] at hu;exact (m4 _ y u hy hu).eO hE.ee)
 exact ⟨.value (.tuple #[]), .tuple #[],w', .aw [],_,n+1,g,run r1, .inl rfl,hK,Nat.le_succ n, .jN (vs:=[]) rfl (λi x v h1=>by simp at h1),k1.qp (Nat.le_succ n),k2⟩
theorem mf.U0 (hT:dA P T) {t e:TypeId} {x lo hi:Operand} (hop:o.op= .slice t x (some lo) (some hi) none) {n0 b0:Nat} {z0:List ae} (hr:cP T t=some ⟨.dK e,n0,b0,z0⟩) {r:lz} (he:cP T e=some r)
  {id sz len:Nat} (hx:aM σ x= .aL id 0 sz len true) (hsz:r.aO=sz) {k1 k2:IntKind} {l h:Int} (hl:aM σ lo= .aa k1 l) (hh:aM σ hi= .aa k2 h) {bt:TypeId} {cells:List ae} (hs:σ (.af id)= .aR bt cells) (h0:0<=l) (hlh:l<=h) (hpos:0<sz) (hle:h.toNat*sz<=cells.length)
  (hK:K (.aL id (0+l.toNat*sz) sz (h.toNat - l.toNat) false) σ (n+1)):mf P o σ n K:=by
 refine ⟨λb g a w hsim hrr=>?_⟩;subst hsz;have hrx:=hrr x (by simp [hop,Op.operands]);have hrl:=hrr lo (by simp [hop,Op.operands]);have hrh:=hrr hi (by simp [hop,Op.operands]);rw [hx] at hrx;obtain ⟨c,cap,ad,q1,q2,q3,q4,q5,q6⟩:=hrx.mK;obtain ⟨_,rfl,tt,hshape⟩:=q6 rfl;obtain ⟨arr,z,m1,m2,m3,m4⟩:=hsim.oN id bt cells c hs q1;have hal:arr.length=cap*r.aO:=by
  grind [World.shape?]
 have hcap:h.toNat<=cap:=Nat.le_of_mul_le_mul_right (Nat.le_trans hle om) hpos;have e1:iq σ (some lo)=some (some l):=by simp [iq,hl]
 have e2:iq σ (some hi)=some (some h):=by simp [iq,hh]
 have hb:=Cy (P:=P) (w:=w) (g:=g) (a:=a) (σ:=σ) (isS:=true) (Nat.le_refl cap) e1 e2 (m:=none) (mx:=none) rfl (λy hy=>by
  grind) (by simp) (λm hm=>by grind [cS]) (λm hm=>by cases hm;omega)
 have hrow:=(hT t _ hr).1;simp only at hrow;have hrun:(execOp a.eval o).run P w= .ok (.value (.slice (if cap=l.toNat then some ⟨c,0,none⟩ else (some (⟨c,0,none⟩:Addr)).map (·.add (l.toNat*r.aO))) (h.toNat - l.toNat) (cap - l.toNat))) w:=by
  obtain ⟨dst,op,ty,pos,after,guard⟩:=o;simp only at hop;subst hop;simp only [cS] at hb
  replace hb:(Instr.sliceBounds true len cap ((some lo:Option Operand).map a.eval) ((some hi:Option Operand).map a.eval) ((none:Option Operand).map a.eval)).run P w= .ok (l.toNat,h.toNat,cap) w:=hb
  generalize (some lo:Option Operand)=lo' at hb ⊢;generalize (some hi:Option Operand)=hi' at hb ⊢;simp only [Option.map_none] at hb;simp only [Option.map_none,execOp,Instr.sliceAt,Sem.run_bind,run_underlying hrow,Result.andThen_ok,Instr.slice,q2,hb,xE hT he,Sem.run_pure]
 refine ⟨_,_,w,_,σ,n+1,g,hrun, .inl rfl,hK,Nat.le_succ n,?_,hsim.qp (Nat.le_succ n),dp.qg _ _⟩;refine .kH q1 (λhp=>?_) ?_ om (λhf=>by cases hf)
 ·grind [qW]
 ·split<;>rfl
theorem bz.aeI {f:FuncId} {args:List ae} {n:Nat} {K:ae->az->Nat->Prop} (h:bz P f args σ n (λv σ' n'=>K v (aU σ' (.aJ 1) (.ah .bV)) n')):bz P f args σ n K:=
 ⟨h.r9,λb g w vals hs hl hv=>(h.q8 b g w vals hs hl hv).mono λ_ _ ⟨v,x,_,n',g',e1,e2,e3,e4,e5,e6⟩=>⟨v,x,_,n',g',e1,e2,e3,e4,e5.Rh,e6⟩⟩
end
end Go.Am
