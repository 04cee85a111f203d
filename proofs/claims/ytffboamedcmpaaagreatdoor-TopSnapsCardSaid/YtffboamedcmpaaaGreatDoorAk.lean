import Derived.Test.YtffboamedcmpaaaGreatDoorAj
set_option linter.all false
set_option maxHeartbeats 4000000
set_option maxRecDepth 100000
namespace Go.Proofs.YtffboamedcmpaaaGreatDoor
open Gw
open Go.Am
open Go.Proofs.Tryz Tryz
def G7 (s:List Int):List (List b9):=s.map λz=>[.ax .i64 z]
theorem ah4 {w:World} {F:Nat->Nat->Prop} {isNil:Bool} {z:List Int} {v:Value} (h:gb w F (.a8 isNil 1 (G7 z) .dm) v):MR w v z:=by
 cases h with
 | @mG _ _ _ q c y o A u n p t=>
  have l:(G7 z).length=z.length:=by simp [G7]
  cases z with
  |nil=>exact .inl ⟨rfl,q,c,rfl⟩
  |cons j z=>
   have g:∀ i,i<(j::z).length->(G7 (j::z))[i]? =some [.ax .i64 ((j::z).getD i 0)]:=λi f=>by
    grind [G7]
   obtain ⟨k,b,rfl,_,d⟩:=n 0 _ 0 _ (g 0 (by simp)) rfl;refine .inr ⟨k,b,c,by rw [l],ON d,λi f=>?_⟩;obtain ⟨m,s,e,_,a⟩:=n i _ 0 _ (g i f) rfl;have r:=t i _ 0 _ (g i f) rfl;simp only [aG,Addr.mk.injEq,and_true] at e;obtain ⟨rfl,rfl⟩:=e;rw [Nat.mul_one,cI] at a;rw [a];generalize y i 0=x at r;cases r;rfl
theorem JO (s:List UInt8) (isNil:Bool) (a:List Int) (f:∀ z∈a,0<=z/\z<9223372036854775808) (b:s.length+9*a.length<1000000000):
  er prog 93 [.cp s, .a8 isNil 1 (G7 a) .dm] (.dn [.cp (s++mU (a.map Int.toNat)), .ax .i64 0]):=by
 refine ⟨pL (fn:=f93) (by kernel_rfl) rfl (by kernel_rfl),λw F l o n m d=>?_⟩
 match l,m with
 |[v,u],_=>
  have g:v= .string ⟨s.toArray⟩:=PF (d 0 _ v rfl rfl) rfl;have k:=ah4 (d 1 _ u rfl rfl);subst g;have c:=XB ⟨s.toArray⟩ a (λz h=>(f z h).2) b u w k;have p:yb ⟨s.toArray⟩ a= .tuple #[.string ⟨(s++mU (a.map Int.toNat)).toArray⟩, .int .i64 0]:=by
   unfold yb;rw [ak (bi.2 λz h=>aO (f z h).1)];rfl
  rw [p] at c;exact c.mono λe q ⟨i,j⟩=>⟨_,F,i,j.G6,λ_ _ h=>h,λ_ _ h=> .inl h, .LJ (.aeG _) (.kS _ _)⟩
def uD (s:List UInt8):b9:=match lI s with
 |none=> .dn [.ax .i64 0, .cp [], .ax .i64 40]
 |some (n,u)=> .dn [.ax .i64 (n:Int), .cp (s.drop u), .ax .i64 0]
theorem ah6 (s:List UInt8) (w:World) (F:Nat->Nat->Prop):gb w F (uD s) (AA ⟨s.toArray⟩):=by
 unfold uD AA;show gb w F (match lI s with|none=>_|some (n,u)=>_) (match lI s with|none=>_|some (n,u)=>_);cases lI s with
 |none=>exact .LK (.kS _ _) (.lW rfl) (.kS _ _)
 |some p=>
  obtain ⟨n,u⟩:=p;refine .LK (.kS _ _) (.lW ?_) (.kS _ _);show (ByteArray.extract ⟨s.toArray⟩ u s.length).data.toList=_;grind [ByteArray.data_extract,List.take_of_length_le]
theorem JP (s:List UInt8) (b:s.length<1000000000000):er prog 224 [.cp s] (uD s):=
 .D8 (pL (fn:=f224) (by kernel_rfl) rfl (by kernel_rfl)) rfl (λw _=>(XF ⟨s.toArray⟩ b w).mono λ_ _ ⟨h,a⟩=>⟨h,a.G6⟩) (ah6 s)
def tD (s:List UInt8):b9:=match uw s with
 |none=> .dn [.cp [], .cp [], .ax .i64 40]
 |some (n,u)=> .dn [.cp ((s.drop u).take n), .cp (s.drop (u+n)), .ax .i64 0]
theorem ah5 (s:List UInt8) (w:World) (F:Nat->Nat->Prop):gb w F (tD s) (BX ⟨s.toArray⟩):=by
 unfold tD BX;show gb w F (match uw s with|none=>_|some (n,u)=>_) (match uw s with|none=>_|some (n,u)=>_);cases uw s with
 |none=>exact .LK (.lW rfl) (.lW rfl) (.kS _ _)
 |some p=>
  obtain ⟨n,u⟩:=p;refine .LK (.lW ?_) (.lW ?_) (.kS _ _)
  .simp_all
  .show (ByteArray.extract ⟨s.toArray⟩ (u+n) s.length).data.toList=_;grind [ByteArray.data_extract,List.take_of_length_le]
theorem G8 (s:List UInt8) (b:s.length<1000000000000):er prog 177 [.cp s] (tD s):=
 .D8 (pL (fn:=f177) (by kernel_rfl) rfl (by kernel_rfl)) rfl (λw _=>(ah2 ⟨s.toArray⟩ b w).mono λ_ _ ⟨h,a⟩=>⟨h,a.G6⟩) (ah5 s)
theorem G9 (b t:List UInt8) (s:b.length+t.length<900000000):er prog 112 [.cp b, .cp t] (.cp (nF b t)):=
 .D8 (pL (fn:=f112) (by kernel_rfl) rfl (by kernel_rfl)) rfl (λw _=>(ah3 ⟨b.toArray⟩ ⟨t.toArray⟩ s w).mono λ_ _ ⟨h,a⟩=>⟨h,a.G6⟩) (λ_ _=> .lW rfl)
def QM (n:Nat):ByteArray:=⟨(gh n).toArray⟩
theorem XG (n:Nat) (h:n<9223372036854775808):(QM n).size=o9 n:=by
 show (gh n).toArray.size=_;grind [C0]
end Go.Proofs.YtffboamedcmpaaaGreatDoor
namespace Gw
theorem XH (s):∀ f p a l,s.length<p+f->td s f p a=some l->s.length+4*a.length<=4*l.length+p
 |0,p,a,l,b,h=>by simp only [td,aG] at h;subst h;omega
 |f+1,p,a,l,b,h=>by
  rw [td] at h;have c:=Mi s p;have d:=P2 s p;split at h
  .split at h
   .have:=XH s f _ _ _ om h;rw [au,cQ] at this;omega
   .cases h
  .simp only [aG] at h;subst h;omega
theorem ah7 {s} (h:ta s=true):s.length<=80:=by
 unfold ta at h;cases a:qE s with
 |none=>rw [a] at h;cases h
 |some l=>
  rw [a] at h;simp only at h;have b:=XH s _ _ _ _ om a;unfold GD at h;simp only [az,bR,dA,dG] at h;simp at b;omega
end Gw
namespace Go.Proofs.YtffboamedcmpaaaGreatDoor
open Gw
open Go.RowKit Go.Am
open Go.Proofs.Tryz Tryz
def EK (c:fG):List b9:=[.ax .i64 c.gD, .cp c.fR, .cp c.kE, .cp c.lS, .ax .i64 c.g7]
def yc (c:fG):b9:= .eN (EK c)
def ah8 (p:Ex):Int:=(if p.Qc=true then 1 else 0)+(if p.Qd=true then 2 else 0)+(if p.Qa=true then 4 else 0)+(if p.Qb=true then 8 else 0)
def aia (o:Option Ex):b9:=match o with|none=> .dn [.ax .i64 0, .eD false]|some p=> .dn [.ax .i64 (ah8 p), .eD true]
theorem aib (k:Int):er prog 37 [.ax .i64 k] (aia (wU k)):=by
 by_cases h:1<=k/\k<=13
 .obtain ⟨a,b⟩:=h;obtain rfl|rfl|rfl|rfl|rfl|rfl|rfl|rfl|rfl|rfl|rfl|rfl|rfl:k=1\/k=2\/k=3\/k=4\/k=5\/k=6\/k=7\/k=8\/k=9\/k=10\/k=11\/k=12\/k=13:=om
  all_goals
   refine fS func37 ?_;exact fu
 .have e:wU k=none:=by
   cases d:wU k with
   |none=>rfl
   |some p=>exact absurd (agq d) h
  have n:∀ m:Int,1<=m->m<=13->¬(k==m)=true:=λm a b c=>h (by simp at c;omega)
  rw [e];refine fS func37 ?_
  conv=>whnf
  repeat (
      refine ⟨λh=>absurd h (n _ dd dd),λ_=>?_⟩
      (conv=>whnf))
  rfl
theorem XJ (s:List UInt8) (a:s.length<=1048576):er prog 39 [.cp s] (.eD (CT s)):=by
 have h:=G5 s a;rw [ahO] at h;unfold CT;refine fS func39 ?_;cases o:(kV s).isSome with
 |true=>
  rw [o,ak rfl] at h;exact fu
 |false=>
  rw [o,ai dd] at h;exact fu
theorem ah9 (p part:Int) (q e:Bool) (hp:p=0\/p=1\/p=3\/p=4\/p=5\/p=8\/p=9) (hpart:part=1\/part=2\/part=4\/part=8) (w:World) (c:Nat) (hh:w.heap[c]? =some (.cells [.int .i64 p].toArray 3 (0,0))):
  Calls prog 38 #[.int .i64 part, .bool q, .bool e, .pointer (some ⟨c,0,none⟩)] w λed w'=>ed= .returned (.bool (if p.toNat &&& part.toNat=0 then e else q))/\(Below w.heap.size w w'/\w.drawn<=w'.drawn):=by
 have h0:w.cell? ⟨c,0,none⟩=some (.int .i64 p):=by rw [ru hh];rfl
 clear hh;rcases hp with rfl|rfl|rfl|rfl|rfl|rfl|rfl<;>rcases hpart with rfl|rfl|rfl|rfl
 all_goals
  go_enter func38,ntmps38
  go_wp2
  go_ret
  exact ⟨rfl,Below.refl _ _,aq _⟩
theorem XI {k:Int} {p:Ex} (h:wU k=some p):((k=1\/k=2\/k=6\/k=10)/\p=⟨true,false,false,false⟩)\/(k=3/\p=⟨true,false,true,false⟩)\/((k=4\/k=7)/\p=⟨true,false,false,true⟩)\/(k=5/\p=⟨true,true,false,false⟩)\/
  ((k=9\/k=11)/\p=⟨false,false,false,true⟩)\/(k=13/\p=⟨false,false,true,false⟩)\/((k=8\/k=12)/\p=⟨false,false,false,false⟩):=by
 unfold wU at h
 repeat' split at h
 all_goals first|(cases h;done)|(simp only [aG] at h;simp_all)
theorem aic (p:Ex) (c:fG):Ez p c=((bif p.Qc then CT c.fR else decide (c.fR=[])) && ((bif p.Qd then CT c.kE else decide (c.kE=[])) && ((bif p.Qa then decide ((c.lS.length:Int)<=(Ey c.gD:Nat)) else decide (c.lS=[])) && (bif p.Qb then decide (0<=c.g7) else (c.g7==0))))):=by
 have e:decide ((c.lS.length:Int)<=(Ey c.gD:Nat))=decide (c.lS.length<=Ey c.gD):=by rw [df];simp
 have f:(c.g7==0)=decide (c.g7=0):=by rw [df];simp
 unfold Ez;rw [e,f];obtain ⟨a,b,d,n⟩:=p;cases a<;>cases b<;>cases d<;>cases n<;>rfl
theorem MS {σ:eK} {p part:Int} {q e b:Bool} (s:σ (.ay 7)= .dc 3 [.ax .i64 p]) (hp:p=0\/p=1\/p=3\/p=4\/p=5\/p=8\/p=9) (h:part=1\/part=2\/part=4\/part=8) (c:(if p.toNat &&& part.toNat=0 then e else q)=b):O2 prog 38 [.ax .i64 part, .eD q, .eD e, .c8 7 0] σ (.eD b):=by
 subst c;exact O2.afS (args0:=[.ax .i64 part, .eD q, .eD e]) (pL (fn:=f38) (by kernel_rfl:prog.funcs[38]? =_) rfl eI) s rfl rfl (λw a d=>ah9 p part _ _ hp h w a d) (λ_ _=> .fJ (.rq _))
theorem QN (c:fG) (l:c.fR.length<=1048576) (n:c.kE.length<=1048576):er prog 17 [yc c] (.eD (uj c)):=by
 have b:=aib c.gD;have r:=XJ c.fR l;have s:=XJ c.kE n;unfold yc EK uj;cases a:wU c.gD with
 |none=>
  rw [a] at b;exact fS func17 jf
 |some p=>
  rw [a] at b;have o:=XI a;clear a;show er _ _ _ (.eD (Ez p c));rw [aic];have m:(if c.gD=13 then 4000 else 64)=Ey c.gD:=rfl;generalize Ey c.gD=N at*;rcases o with ⟨h,rfl⟩|⟨h,rfl⟩|⟨h,rfl⟩|⟨h,rfl⟩|⟨h,rfl⟩|⟨h,rfl⟩|⟨h,rfl⟩
  all_goals
   dsimp only
   first
    |(rw [ai om] at m;have t:(c.gD==13)=false:=cL.2 om)
    |(rw [ak om] at m;have t:(c.gD==13)=true:=dC.2 om)
   subst m;generalize g:(bif _ then CT c.fR else _)=d;generalize i:(bif _ then CT c.kE else _)=e;generalize j:(bif _ then decide ((c.lS.length:Int)<=_) else _)=f;generalize k:(bif _ then decide (0<=c.g7) else _)=q;refine fS func17 ?_;refine gI ?_
   first|refine PZ t ?_|refine VU t ?_
   refine gI ?_;refine .inl ⟨_,_,_,(MS rfl dd dd (by exact g)).LL,rfl,?_⟩;cases d
   .exact jf
   refine gI ?_;refine .inl ⟨_,_,_,(MS rfl dd dd (by exact i)).LL,rfl,?_⟩;cases e
   .exact jf
   refine gI ?_;refine .inl ⟨_,_,_,(MS rfl dd dd (by exact j)).LL,rfl,?_⟩;cases f
   .exact jf
   refine gI ?_;refine .inl ⟨_,_,_,(MS rfl dd dd (by exact k)).LL,rfl,?_⟩;exact jf
open Go.Am
def gE {α:Type} (sz:Nat) (enc:α->List b9) (s:gp α):b9:= .a8 s.gg sz (s.al.map enc) .dm
theorem pV {α:Type} (enc:α->List b9) {l:List α} {k:Nat} (h:k<l.length):(l.map enc)[k]? =some (enc l[k]):=by simp_all
def fI (h:fK):List b9:=[.ax .i64 h.gf, .ax .i64 h.ig]
def ja (w:kF):List b9:=[.ax .i64 w.js, .ax .i64 w.pz]
def l7 (z:Int):List b9:=[.ax .i64 z]
def nk (s:List UInt8):List b9:=[.cp s]
def jB (e:oc):List b9:=[.ax .i64 e.gN.fa.iH, .ax .i64 e.gN.fa.jw, .ax .i64 e.gN.iT, .ax .i64 e.gN.eO, .ax .i64 e.gN.iW, .cp e.gN.mI, .cp e.gN.n9,
 .eD e.va.Qf, .eD e.va.Qg, .ax .i64 e.va.xZ.eM, .ax .i64 e.va.xZ.jj, .cp e.va.xZ.iU, .ax .i64 e.va.xZ.lA.iH, .ax .i64 e.va.xZ.lA.jw, .cp e.va.xZ.qZ, .ax .i64 e.va.xZ.Jo.iH, .ax .i64 e.va.xZ.Jo.jw]
def XK (g:li):List b9:=[gE 17 jB g.fZ,gE 8 mD g.ec]
def yd (g:li):b9:= .eN (XK g)
def mw (s:nH):List b9:=[.ax .i64 s.lZ,gE 8 mD s.BN]
def Hb (q:BL):List b9:=[gE 2 kL q.sy, .eD q.Jz]
def jH (w:k7):List b9:=[.ax .i64 w.l0, .ax .i64 w.oP,gE 2 kL w.qe.sy, .eD w.qe.Jz]
def aid (m:fX):List b9:=[gE 17 jB m.cy.fZ,gE 8 mD m.cy.ec, .ax .i64 m.jk, .ax .i64 m.ky,gE 2 mw m.iq,gE 4 jH m.iG, .ax .i64 m.jg]
def BY (a:oM):List b9:=[.ax .i64 a.qc, .cp a.BK,gE 1 nk a.nS, .ax .i64 a.qd,gE 2 kL a.qH]
def QO (d:iY):List b9:=[gE 17 jB d.e8.cy.fZ,gE 8 mD d.e8.cy.ec, .ax .i64 d.e8.jk, .ax .i64 d.e8.ky,gE 2 mw d.e8.iq,gE 4 jH d.e8.iG, .ax .i64 d.e8.jg,
 .ax .i64 d.kg.qc, .cp d.kg.BK,gE 1 nk d.kg.nS, .ax .i64 d.kg.qd,gE 2 kL d.kg.qH, .ax .i64 d.kQ.gD, .cp d.kQ.fR, .cp d.kQ.kE, .cp d.kQ.lS, .ax .i64 d.kQ.g7,gE 7 gV d.kZ]
def gx (t:ft):List b9:=[.ax .i64 t.fx.gD, .cp t.fx.fR, .cp t.fx.kE, .cp t.fx.lS, .ax .i64 t.fx.g7,gE 1 l7 t.fA, .ax .i64 t.jA, .eD t.g8, .eD t.gS, .ax .i64 t.j8, .ax .i64 t.Mv, .ax .i64 t.kf, .ax .i64 t.nu,
 .ax .i64 t.gu.qc, .cp t.gu.BK,gE 1 nk t.gu.nS, .ax .i64 t.gu.qd,gE 2 kL t.gu.qH]
def y8 (t:kz):List b9:=[gE 2 fI t.iV,gE 2 fI t.fH]
def EL (g:py):List b9:=[.ax .i64 g.mC,gE 2 ja g.iI]
def Ha (x:fb):List b9:=[gE 17 jB x.ep.cy.fZ,gE 8 mD x.ep.cy.ec, .ax .i64 x.ep.jk, .ax .i64 x.ep.ky,gE 2 mw x.ep.iq,gE 4 jH x.ep.iG, .ax .i64 x.ep.jg,
 gE 2 fI x.fg.iV,gE 2 fI x.fg.fH, .ax .i64 x.fm.mC,gE 2 ja x.fm.iI,gE 18 gx x.bf, .ax .i64 x.eZ,gE 7 gV x.eL]
def ye (m:fX):b9:= .eN (aid m)
def Hc (a:oM):b9:= .eN (BY a)
def y9 (t:ft):b9:= .eN (gx t)
def km (t:kz):b9:= .eN (y8 t)
def qh (g:py):b9:= .eN (EL g)
def pU (x:fb):b9:= .eN (Ha x)
def JQ (u:iX):b9:= .eN [.ax .i64 u.kX, .ax .i64 u.qI]
def k9 {α:Type} (p:α->Bool) (l:List α):Int:=match l.findIdx? p with|some i=>i|none=>-1
theorem XM {α:Type} {p:α->Bool} {l:List α} {k:Nat} (b:k<l.length) (h:∀ a∈l.take k,p a=false) (hp:p l[k]=true):k9 p l=k:=by
 grind [List.findIdx?_eq_some_iff_getElem,List.mem_take_iff_getElem,k9]
theorem QP {α:Type} {p:α->Bool} {l:List α} (h:∀ a∈l,p a=false):k9 p l=-1:=by
 grind [k9]
theorem XL {α:Type} (p:α->Bool) (l:List α):decide (0<=k9 p l)=l.any p:=by
 grind [k9]
theorem QQ {α:Type} {p:α->Bool} {l:List α} {k:Nat} (c:k<l.length) (h:∀ a∈l.take k,p a=false) (hp:p l[k]=false):∀ a∈l.take (k+1),p a=false:=λa b=>by
 grind [List.take_succ_eq_append_getElem]
end Go.Proofs.YtffboamedcmpaaaGreatDoor
namespace Gw
section
variable {α β:Type} {enc:α->List β} {sz:Nat}
theorem tE (h:∀ a,(enc a).length=sz):∀ l:List α,((l.map enc).flatten).length=l.length*sz
 |[]=>by simp
 |a::l=>by rw [bp,jS,au,tE h l,h,aL,Nat.succ_mul];omega
theorem JR (l m:List α):((l++m).map enc).flatten=(l.map enc).flatten++(m.map enc).flatten:=by rw [aU,dX]
theorem He (a:α) (l):((a::l).map enc).flatten=enc a++(l.map enc).flatten:=rfl
theorem EM (s:∀ a,(enc a).length=sz) {l:List α} {k:Nat} (b:k<=l.length):((l.map enc).flatten).drop (k*sz)=((l.drop k).map enc).flatten:=by
 have h:((l.take k).map enc).flatten.length=k*sz:=by rw [tE s,aT,cj b]
 conv=>lhs;rw [<-bJ k l,JR]
 rw [dK h]
theorem EO (s:∀ a,(enc a).length=sz) {l:List α} {k:Nat} (b:k<=l.length):((l.map enc).flatten).take (k*sz)=((l.take k).map enc).flatten:=by
 have h:((l.take k).map enc).flatten.length=k*sz:=by rw [tE s,aT,cj b]
 conv=>lhs;rw [<-bJ k l,JR]
 rw [cg h]
theorem za (s:∀ a,(enc a).length=sz) {l:List α} {k:Nat} (h:k<l.length):(((l.map enc).flatten).drop (k*sz)).take sz=enc l[k]:=by
 rw [EM s (cU h),aY h,He,cg (s _)]
theorem EN {l:List α} {k:Nat} (s:∀ a,(enc a).length=sz) (h:k<l.length):k*sz+sz<=((l.map enc).flatten).length:=by
 rw [tE s,<-Nat.succ_mul];exact bI _ h
theorem Hf (s:∀ a,(enc a).length=sz) (l m:List α) (a b:α):(((l++a::m).map enc).flatten).take (l.length*sz)++enc b++(((l++a::m).map enc).flatten).drop (l.length*sz+sz)=((l++b::m).map enc).flatten:=by
 have c:=EO (enc:=enc) s (l:=l++a::m) (k:=l.length) (by rw [au];omega);have h:=EM (enc:=enc) s (l:=l++a::m) (k:=l.length+1) (by rw [au,aL];omega);rw [Nat.succ_mul] at h;rw [c,h,cg rfl,JR,He];have:(l++a::m).drop (l.length+1)=m:=by rw [<-cD,dK rfl];rfl
 rw [this,aA]
theorem aie {f:α->β} (h:∀ a,enc a=[f a]):∀ {l:List α} {k:Nat} (b:k<l.length),((l.map enc).flatten)[k*1]? =some (f l[k])
 |a::l,0,_=>by rw [He,h];rfl
 |a::l,k+1,b=>by
  rw [He,h,Nat.mul_one];have:=aie h (l:=l) (k:=k) (by simpa using b);rw [Nat.mul_one] at this;exact this
end
end Gw
namespace Go.Am
open Go.RowKit
section
def QS:b9->Bool
 | .ax _ _=>true
 | .cp _=>true
 | .eD _=>true
 | .fU=>true
 | .fD=>true
 | .a8 ..=>true
 | .fY=>true
 |_=>false
theorem XO {w g x v} (h:eH w g x v) (e:QS x=true):v.oneCell'=true:=by
 cases x with
 |ax k n=>cases h with|fJ h=>cases h;rfl
 |cp s=>cases h with|fJ h=>cases h with|lW h=>rfl
 |eD b=>rw [h.xA];rfl
 |fU=>rw [h.Bc];rfl
 |fD=>rw [h.Ba];rfl
 |a8 a b c d=>obtain ⟨f,c,rfl,_⟩:=h.nq;rfl
 |fY=>cases h with|fJ h=>cases h;rfl
 |_=>cases e
variable {P:Program} {T:iw} {σ:eK} {o:Oper} {n:Nat} {K:b9->eK->Nat->Prop}
theorem qu.arm (hT:jc P T) {t0 e} (D:P.underlying t0=some (.slice e)) {l:Call} (hop:o.op= .call l) (hcal:l.callee= .builtin .clear) (t:l.argTypes[0]? =some t0) {x} (N:l.args=#[x])
  {id off sz len:Nat} {full:Bool} (hx:eR σ x= .eP id off sz len full) {bt} {cells:List b9} (R:σ (.ay id)= .eY bt cells) {r:xB} (hr:hU T e=some r) (S:r.eV=sz) (hz:r.nZ.all QS=true) (hle:off+len*sz<=cells.length)
  (hK:K (.dn []) (fc σ (.ay id) (.eY bt (cells.take off))) (n+1)):qu P o σ n K:=by
 refine ⟨λb g a w h Q=>?_⟩;have B:=Q x (by grind [Op.operands,Call.operands]);rw [hx] at B;obtain ⟨c,cap,ad,q1,ex,q3,q4,q5,q6⟩:=B.qS;obtain ⟨ad',rfl⟩:=bN.1 q4;obtain ⟨j,z,m1,m2,m3,m4⟩:=h.sY id bt cells c R q1;obtain ⟨ti,f,z1,z2,z3,_,z4,z5,z6,_⟩:=xB.ud hT hr;have F:f.cells.size=sz:=by rw [z4,S]
 have run:∀ {d:World},(Builtin.clear_ l.argTypes o.type #[a.eval x]).run P w= .ok (.tuple #[]) d->(execOp a.eval o).run P w= .ok (.value (.tuple #[])) d:=by
  intro d hb;obtain ⟨dst,op,ty,pos,I,J⟩:=o;grind [xK,builtin,Sem.run_bind,Result.andThen_ok,Sem.run_pure]
 have E:(Builtin.zeroCells f.cells len).toList.length=len*sz:=by simp [Builtin.zeroCells,F]
 have q:∀ (i:Nat) v,(Builtin.zeroCells f.cells len).toList[i]? =some v->v.oneCell'=true:=by
  intro i v hv;have m:i<len*sz:=by grind
  have A:0<sz:=by
   grind
  have hm:i % sz<sz:=jU _ A;have p:i % sz<r.nZ.length:=om;have O:i % sz<f.cells.size:=om;have e2:v=f.cells[i % sz]:=by
   have W:(Builtin.zeroCells f.cells len)[i]? =some v:=by simpa using hv
   simp only [Builtin.zeroCells,F,ek,dP,m,ak,bz,aG] at W;simp_all
  subst e2;exact XO (z6 w g (i % sz) _ _ (aj p) (by simp [O])) (bi.1 hz _ (aI p))
 have s:∃ d,(Builtin.clear_ l.argTypes o.type #[a.eval x]).run P w= .ok (.tuple #[]) d/\oH c w d/\d.heap[c]? =some (.cells (j.take off++(Builtin.zeroCells f.cells len).toList++j.drop (off+(Builtin.zeroCells f.cells len).toList.length)).toArray bt z):=by
  rcases cT len with L|L
  .subst L;refine ⟨w,?_,⟨rfl,rfl,rfl,rfl,λ_ _=>rfl,rfl,λ_ h=>h,rfl⟩,by simp_all⟩;simp [Builtin.clear_,t,ex,run_underlying D,Result.andThen]
  .have e:=q3 L;cases e;obtain ⟨d,Z,H,r3⟩:=D3 (P:=P) c (Builtin.zeroCells f.cells len).toList off 0 j w m1 (by rw [E];omega) (λo ho=>m3 o ho) (λu U=>by
    obtain ⟨i,m,rfl⟩:=bC U;exact q i _ (aj m))
   refine ⟨d,?_,H,by simpa using r3⟩;have Y:(zeroValue e).run P w= .ok f w:=by simp [zeroValue,typeInfo,z1,z2]
   obtain ⟨k,rfl⟩:∃ k,len=k+1:=⟨len - 1,om⟩;simp only [Builtin.clear_,t,ex,dt,cZ,Sem.run_bind,run_underlying D,Result.andThen_ok,Y,Z,Sem.run_pure]
 obtain ⟨d,Z,H,r3⟩:=s;have hE:iN g w g d:=iN.tZ H (λo=>by obtain ⟨c',p1,_,_,p2⟩:=h.iR id (by rw [R];rfl);simp_all);obtain ⟨k1,k2⟩:=h.ot (X:= .eY bt (cells.take off)) (by rw [R];rfl) q1 H (λ_=>by
  refine ⟨_,z,r3,by simp [E];omega,λo ho=>m3 o (by grind),λi y u hy D=>?_⟩;have m:i<off:=by
   grind
  rw [bq,ak m] at hy;rw [aA,aS (by grind),bq,ak m] at D;exact (m4 i y u hy D).ka hE.jC)
 exact ⟨.value (.tuple #[]), .tuple #[],d, .dn [],_,n+1,g,run Z, .inl rfl,hK,aZ n, .nR (vs:=[]) rfl (λi x v h1=>by simp at h1),k1.uV (aZ n),k2⟩
theorem qu.QR (hT:jc P T) {t0 e} (j:P.underlying t0=some (.slice e)) {E:Call} (hop:o.op= .call E) (hcal:E.callee= .builtin .clear) (F:E.argTypes[0]? =some t0) {x} (W:E.args=#[x])
  {id off sz len:Nat} {full:Bool} (hx:eR σ x= .eP id off sz len full) {bt} {cells:List b9} (hs:σ (.ay id)= .eY bt cells) {r:xB} (hr:hU T e=some r) (hsz:r.eV=sz) (hz:r.nZ.all QS=true) (hzp:pr r.nZ=true) (hle:off+len*sz<=cells.length)
  (hK:K (.dn []) (fc σ (.ay id) (.eY bt (cells.take off++jM len (mB r.nZ)++cells.drop (off+len*sz)))) (n+1)):qu P o σ n K:=by
 refine ⟨λb g a w h Z=>?_⟩;have L:=Z x (by grind [Op.operands,Call.operands]);rw [hx] at L;obtain ⟨c,cap,ad,q1,ex,q3,q4,q5,q6⟩:=L.qS;obtain ⟨ad',rfl⟩:=bN.1 q4;obtain ⟨t,z,m1,m2,m3,m4⟩:=h.sY id bt cells c hs q1;obtain ⟨ti,d,z1,z2,z3,_,z4,z5,z6,_⟩:=xB.ud hT hr;have B:d.cells.size=sz:=by rw [z4,hsz]
 have run:∀ {f:World},(Builtin.clear_ E.argTypes o.type #[a.eval x]).run P w= .ok (.tuple #[]) f->(execOp a.eval o).run P w= .ok (.value (.tuple #[])) f:=by
  intro f hb;obtain ⟨dst,op,ty,pos,R,S⟩:=o;grind [xK,builtin,Sem.run_bind,Result.andThen_ok,Sem.run_pure]
 have N:(Builtin.zeroCells d.cells len).toList.length=len*sz:=by simp [Builtin.zeroCells,B]
 have J:∀ (i:Nat) v,(Builtin.zeroCells d.cells len).toList[i]? =some v->v.oneCell'=true:=by
  intro i v hv;have A:i<len*sz:=by grind
  have p:0<sz:=by
   grind
  have hm:i % sz<sz:=jU _ p;have I:i % sz<r.nZ.length:=om;have m:i % sz<d.cells.size:=om;have e2:v=d.cells[i % sz]:=by
   have hv':(Builtin.zeroCells d.cells len)[i]? =some v:=by simpa using hv
   simp only [Builtin.zeroCells,B,ek,dP,A,ak,bz,aG] at hv';simp_all
  subst e2;exact XO (z6 w g (i % sz) _ _ (aj I) (by simp [m])) (bi.1 hz _ (aI I))
 have D:∃ f,(Builtin.clear_ E.argTypes o.type #[a.eval x]).run P w= .ok (.tuple #[]) f/\oH c w f/\f.heap[c]? =some (.cells (t.take off++(Builtin.zeroCells d.cells len).toList++t.drop (off+(Builtin.zeroCells d.cells len).toList.length)).toArray bt z):=by
  rcases cT len with U|U
  .subst U;refine ⟨w,?_,⟨rfl,rfl,rfl,rfl,λ_ _=>rfl,rfl,λ_ h=>h,rfl⟩,by simp_all⟩;simp [Builtin.clear_,F,ex,run_underlying j,Result.andThen]
  .have e:=q3 U;cases e;obtain ⟨f,r1,Q,r3⟩:=D3 (P:=P) c (Builtin.zeroCells d.cells len).toList off 0 t w m1 (by rw [N];omega) (λo ho=>m3 o ho) (λu q=>by
    obtain ⟨i,A,rfl⟩:=bC q;exact J i _ (aj A))
   refine ⟨f,?_,Q,by simpa using r3⟩;have hzr:(zeroValue e).run P w= .ok d w:=by simp [zeroValue,typeInfo,z1,z2]
   obtain ⟨k,rfl⟩:∃ k,len=k+1:=⟨len - 1,om⟩;simp only [Builtin.clear_,F,ex,dt,cZ,Sem.run_bind,run_underlying j,Result.andThen_ok,hzr,r1,Sem.run_pure]
 obtain ⟨f,r1,Q,r3⟩:=D;have hE:iN g w g f:=iN.tZ Q (λo=>by obtain ⟨c',p1,_,_,p2⟩:=h.iR id (by rw [hs];rfl);simp_all);have l:r.nZ.length=sz:=by
  omega
 obtain ⟨k1,k2⟩:=h.ot (X:= .eY bt (cells.take off++jM len (mB r.nZ)++cells.drop (off+len*sz))) (by rw [hs];rfl) q1 Q (λ_=>by
  have Y:(jM len (mB r.nZ)).length=len*sz:=by rw [wK,wI,l]
  refine ⟨_,z,r3,by grind,λo ho=>m3 o (by grind),λi y u s j=>?_⟩;rw [aA] at s j;rcases bu i off with A|A
  .rw [aS (by grind),bq,ak A] at s;rw [aS (by grind),bq,ak A] at j;exact (m4 i y u s j).ka hE.jC
  .rw [aW (by grind),aT,cj om] at s j;rcases bu (i - off) (len*sz) with H|H
   .rw [aS om] at s;rw [aS om] at j;obtain ⟨O,_⟩:=IM _ _ _ _ s;have p:0<sz:=by
     grind
    have hm:(i - off) % sz<sz:=jU _ p;have m:(i - off) % sz<d.cells.size:=om;have q:(Builtin.zeroCells d.cells len)[i - off]? =some u:=by simpa using j
    simp only [Builtin.zeroCells,B,ek,dP,H,ak,bz,aG] at q;rw [<-q,getElem!_pos d.cells ((i - off) % sz) m];rw [wI,l] at O;obtain ⟨y0,hy0,rfl⟩:=wH O;have e9:d.cells.toList[(i - off) % sz]? =some (d.cells[(i - off) % sz]):=by simp [m]
    grind [xH,xG]
   .rw [aW om,br,Y] at s;rw [aW om,br,N] at j;exact (m4 _ y u s j).ka hE.jC)
 exact ⟨.value (.tuple #[]), .tuple #[],f, .dn [],_,n+1,g,run r1, .inl rfl,hK,aZ n, .nR (vs:=[]) rfl (λi x v h1=>by simp at h1),k1.uV (aZ n),k2⟩
theorem qu.XN (B:jc P T) {t e:TypeId} {x lo hi:Operand} (d:o.op= .slice t x (some lo) (some hi) none) {n0 b0:Nat} {z0:List b9} (I:hU T t=some ⟨.jn e,n0,b0,z0⟩) {r:xB} (he:hU T e=some r)
  {id sz len:Nat} (hx:eR σ x= .eP id 0 sz len true) (A:r.eV=sz) {N O:IntKind} {l h:Int} (hl:eR σ lo= .ax N l) (hh:eR σ hi= .ax O h) {bt:TypeId} {cells:List b9} (hs:σ (.ay id)= .eY bt cells) (h0:0<=l) (H:l<=h) (j:0<sz) (v:h.toNat*sz<=cells.length)
  (hK:K (.eP id (0+l.toNat*sz) sz (h.toNat - l.toNat) false) σ (n+1)):qu P o σ n K:=by
 refine ⟨λb g a w s i=>?_⟩;subst A;have k:=i x (by simp [d,Op.operands]);have L:=i lo (by simp [d,Op.operands]);have J:=i hi (by simp [d,Op.operands]);rw [hx] at k;obtain ⟨c,p,S,q1,q2,W,X,Y,R⟩:=k.qS;obtain ⟨_,rfl,tt,q⟩:=R rfl;obtain ⟨arr,z,m1,m2,m3,U⟩:=s.sY id bt cells c hs q1;have E:arr.length=p*r.eV:=by
  grind [World.shape?]
 have D:h.toNat<=p:=Nat.le_of_mul_le_mul_right (av v om) j;have e1:mh σ (some lo)=some (some l):=by simp [mh,hl]
 have e2:mh σ (some hi)=some (some h):=by simp [mh,hh]
 have hb:=FZ (P:=P) (w:=w) (g:=g) (a:=a) (σ:=σ) (isS:=true) (aq p) e1 e2 (m:=none) (mx:=none) rfl (λy hy=>by
  grind) (by simp) (λm hm=>by grind [ia]) (λm hm=>by cases hm;omega)
 have f:=(B t _ I).1;simp only at f;have u:(execOp a.eval o).run P w= .ok (.value (.slice (if p=l.toNat then some ⟨c,0,none⟩ else (some (⟨c,0,none⟩:Addr)).map (·.add (l.toNat*r.eV))) (h.toNat - l.toNat) (p - l.toNat))) w:=by
  obtain ⟨dst,op,Z,pos,after,guard⟩:=o;simp only at d;subst d;simp only [ia] at hb
  replace hb:(Instr.sliceBounds true len p ((some lo:Option Operand).map a.eval) ((some hi:Option Operand).map a.eval) ((none:Option Operand).map a.eval)).run P w= .ok (l.toNat,h.toNat,p) w:=hb
  generalize (some lo:Option Operand)=Q at hb ⊢;generalize (some hi:Option Operand)=F at hb ⊢;simp only [bV] at hb;simp only [bV,execOp,Instr.sliceAt,Sem.run_bind,run_underlying f,Result.andThen_ok,Instr.slice,q2,hb,Bk B he,Sem.run_pure]
 refine ⟨_,_,w,_,σ,n+1,g,u, .inl rfl,hK,aZ n,?_,s.uV (aZ n),iN.uO _ _⟩;refine .oV q1 (λhp=>?_) ?_ om (λhf=>by cases hf)
 .grind [vy]
 .split<;>rfl
theorem fF.aif {f args n K} (h:fF P f args σ n (λv σ' c=>K v (fc σ' (.eT 1) (.bg .ga)) c)):fF P f args σ n K:=
 ⟨h.wL,λb g w a s p q=>(h.vC b g w a s p q).mono λ_ _ ⟨v,x,_,c,m,e,d,i,j,k,l⟩=>⟨v,x,_,c,m,e,d,i,j,k.Vz,l⟩⟩
end
end Go.Am
namespace Go.Proofs.YtffboamedcmpaaaGreatDoor
open Gw
theorem EP {α:Type} (p:α->Bool) (l:List α):(k9 p l=-1/\∀ a∈l,p a=false)\/∃ i,∃ h:i<l.length,k9 p l=(i:Int)/\(∀ a∈l.take i,p a=false)/\p l[i]=true:=by
 grind [k9,List.findIdx?_eq_some_iff_getElem,List.mem_take_iff_getElem]
theorem aro {α:Type} {p:α->Bool} {l:List α} {i:Nat} (b:i<l.length) (h:∀ a∈l.take i,p a=false) (hp:p l[i]=true):(l.take (i+1)).filter (λa=>!p a)=l.take i:=by
 grind [List.take_succ_eq_append_getElem,List.filter_eq_self]
theorem JT {α:Type} {p:α->Bool} {l:List α} (h:∀ a∈l,p a=false):l.find? p=none:=dp.2 λa b=>by rw [h a b];decide
theorem JS {α:Type} {p:α->Bool} {l:List α} {i:Nat} (b:i<l.length) (h:∀ a∈l.take i,p a=false) (hp:p l[i]=true):l.find? p=some l[i]:=by
 grind [List.take_append_drop,List.drop_eq_getElem_cons]
theorem arp {a:fK} {t th:Int} (h:(a.gf==t && a.ig==th)=true):decide (a=⟨t,th⟩)=true:=by
 have b:a.gf=t/\a.ig=th:=by simpa using h
 obtain ⟨x,y⟩:=a;simp_all
theorem arq {a:fK} {t th:Int} (h:(a.gf==t && a.ig==th)=false):decide (a=⟨t,th⟩)=false:=by
 grind
theorem XP (x y:Int):Go.Am.fc.match_1 (λ_=>Int) true (λ_=>max x y) (λ_=>min x y)=max x y:=rfl
theorem aih (x y:Int):Go.Am.fc.match_1 (λ_=>Int) false (λ_=>max x y) (λ_=>min x y)=min x y:=rfl
open Go.Am in
theorem xb {α:Type} (sz:Nat) (enc:α->List b9) (q:Bool) (a:α) (l:List α):gE sz enc ⟨q,a::l⟩= .a8 false sz ((a::l).map enc) .dm:=by
 grind [gE,gp.gg]
open Go.Am in
theorem Hg {α:Type} (sz:Nat) (enc:α->List b9) (q:Bool):gE sz enc ⟨q,[]⟩= .a8 q sz [] .dm:=by
 grind [gE,gp.gg]
open Go.Am in
theorem arn {P:Go.Program} {f:Go.FuncId} {args:List b9} {sz s:Nat} (h:yO P f args true sz []):yO P f args true s []:=
 ⟨h.PK,λw F v j k l m=>(h.PL w F v j k l m).mono λ_ _ ⟨d,a,e,b,c,g,i⟩=>⟨d,a,e,b,c,g,(mR.kd true sz s).ue _ _ _ i⟩⟩
open Go.Am in
inductive BZ (σ:eK):List b9->List b9->Prop
 |rf:BZ σ [] []
 |lM {x y:b9} {l m:List b9} (h:Am.oI σ x y) (t:BZ σ l m):BZ σ (x::l) (y::m)
section
open Go.Am
variable {σ:eK}
theorem BZ.QU:∀ {l m:List b9},BZ σ l m->l.length=m.length
 |_,_, .rf=>rfl
 |_,_, .lM _ t=>by rw [aL,aL,t.QU]
theorem BZ.QT:∀ {l m:List b9},BZ σ l m->∀ (i:Nat) (x y:b9),l[i]? =some x->m[i]? =some y->Am.oI σ x y
 |_,_, .lM h _,0,x,y,a,b=>by simp_all
 |_,_, .lM _ t,i+1,x,y,a,b=>t.QT i x y (by simpa using a) (by simpa using b)
theorem BZ.Db {l m:List b9} (h:BZ σ l m):Am.oI σ (.eN l) (.eN m):= .O0 h.QU h.QT
theorem BZ.B0 {l m:List b9} (h:BZ σ l m):Am.oI σ (.dn l) (.dn m):= .Um h.QU h.QT
end
open Go.Am in
theorem MT:∀ {a b:List b9},kT a=true->kT b=true->kT (a++b)=true
 |[],_,_,h=>h
 |x::l,b,h,c=>by
  unfold kT at h ⊢;simp only [bP];cases d:Bh x with
  |true=>rw [d] at h;exact MT h c
  |false=>simp_all
open Go.Am in
theorem Hh {α:Type} {enc:α->List b9} {sz:Nat} (s:∀ a,(enc a).length=sz) (o:∀ a,kT (enc a)=true) {σ:eK} {k:Nat} {full:Bool} {t:TypeId} {l:List α} (h:σ (.ay k)= .eY t ((l.map enc).flatten)):Am.oI σ (.eP k 0 sz l.length full) (.a8 false sz (l.map enc) .dm):=by
 refine .CJ h (ap _) ?_ ?_ ?_ ?_
 .simp_all
 .grind [tE]
 .grind [tE]
 .clear h
  induction l with
  |nil=>rfl
  |cons a l i=>grind [MT]
open Go.Am in
theorem QV {α:Type} {enc:α->List b9} {sz:Nat} (s:∀ a,(enc a).length=sz) (o:∀ a,kT (enc a)=true) {σ:eK} {k:Nat} {full:Bool} {t:TypeId} {l pad:List α} (h:σ (.ay k)= .eY t (((l++pad).map enc).flatten)):Am.oI σ (.eP k 0 sz l.length full) (.a8 false sz (l.map enc) .dm):=by
 have b:=EO (enc:=enc) s (l:=l++pad) (k:=l.length) (by simp_all);rw [cg rfl] at b;refine .CJ h (ap _) ?_ ?_ (by trivial) ?_
 .simp_all
 .grind [tE]
 .clear h b
  induction l with
  |nil=>rfl
  |cons a l i=>grind [MT]
open Go.Am
open Go.Proofs.Tryz Tryz
theorem BZ.MU {σ:eK} {x:b9} {l m:List b9} (h:Bi x=true) (t:BZ σ l m):BZ σ (x::l) (Bg x::m):= .lM (.qw h) t
theorem ars {α:Type} {enc:α->List b9} {sz n:Nat} {σ:eK} {k:Nat} {full:Bool} {t:TypeId} {l:List α} (hn:n=l.length) (h:σ (.ay k)= .eY t ((l.map enc).flatten)) (hs:∀ a,(enc a).length=sz) (hone:∀ a,kT (enc a)=true):Am.oI σ (.eP k 0 sz n full) (.a8 false sz (l.map enc) .dm):=by
 subst hn;exact Hh hs hone h
theorem QW {p:Prop} (e:p:=by
 try refine BZ.Db ?_
 repeat (first|exact BZ.rf|refine BZ.MU rfl ?_|refine BZ.lM (ars rfl rfl (λ_=>rfl) (λ_=>rfl)) ?_)):p:=e
theorem Hk {p:Prop} (e:p:=by
 repeat' (first|exact BZ.rf|refine BZ.B0 ?_|refine BZ.Db ?_|refine BZ.MU rfl ?_|refine BZ.lM (ars rfl rfl (λ_=>rfl) (λ_=>rfl)) ?_|refine BZ.lM ?_ ?_)):p:=e
theorem art (k:Nat) (h:k<=1048576):IntKind.i64.wrap ((k:Int)+1)=((k+1:Nat):Int):=by rw [fq (by omega) (by omega)];rfl
theorem vd {p:Prop} {f g:FuncId} {fn gn:Func} (hf:prog.funcs[f]? =some fn) (hg:prog.funcs[g]? =some gn) {n:Nat} (hl:n<=1048576) (e:(prog.funcs[f]? =some fn)->(prog.funcs[g]? =some gn)->n<=1048576->p:=by
 intro hf hg hl;show fF _ _ [.a8 ?qQ ?sz (List.map ?enc ?lL) ?tk,?fv] (eJ ?es) ?mM (gP _ (λx es=>x= .gO (.ax .i64 (k9 ?pP ?lL))/\es=_));refine fz hf ?_
 conv=>whnf
 refine iE.gY (λk:Nat=>(.ct 0, .bg (.a8 ?qQ ?sz (List.map ?enc ?lL) ?tk))::(.ct 1, .bg ?fv)::(.ct 7, .bg (.ax .i64 (?lL).length))::(.ct 8, .bg (.ax .i64 k))::?es) ?mM (λk=>k<=(?lL).length/\∀ a∈(?lL).take k,?pP a=false) (λk=>(?lL).length - k) (by decide) 0 ⟨Nat.zero_le _,λ_ h=>absurd h List.not_mem_nil⟩ ⟨rfl,rfl,rfl,rfl,congrArg (λn:Nat=>gC.bg (.ax .i64 n)) (List.length_map _),rfl,rfl,rfl,?_⟩ ?_
 .repeat (first|exact trivial|refine ⟨rfl,rfl,?_⟩)
 rintro k ⟨hk,hno⟩;refine wO jy m8 _ _ _ _ ?_
 conv=>whnf
 refine arf (λh=>?_) λh=>?_
 .have hlt:k<(?lL).length:=by omega
  have hp1:=XM (p:=?pP) hlt hno;have hp2:=QQ (p:=?pP) hlt hno;have w1:=art k (by omega);have hg':=pV ?enc hlt;generalize (?lL)[k]=a at*;refine gI ?_;refine fz hg ?_;refine gI ?_;refine ⟨λh=>?_,λh=>?_⟩
  .have h:?pP a=true:=by first|simpa using h|exact h|exact arp h|exact arq h
   conv=>whnf
   refine ⟨_,_,⟨rfl,rfl⟩,rfl,⟨congrArg (b9.ax .i64) (hp1 h).symm,rfl⟩,?_⟩
   repeat (first|exact trivial|refine ⟨rfl,rfl,?_⟩)
  .have h:?pP a=false:=by first|simpa using h|exact h|exact arp h|exact arq h
   conv=>whnf
   refine ⟨k+1,⟨hlt,hp2 h⟩,by show _ - (k+1)<_ - k;omega,rfl,rfl,rfl,rfl,rfl,rfl,congrArg (λn=>gC.bg (.ax .i64 n)) w1,rfl,?_⟩
   repeat (first|exact trivial|refine ⟨rfl,rfl,?_⟩)
 .obtain rfl:k=(?lL).length:=by omega
  rw [List.take_length] at hno
  conv=>whnf
  refine ⟨_,_,⟨rfl,rfl⟩,rfl,⟨congrArg (b9.ax .i64) (QP hno).symm,rfl⟩,?_⟩
  repeat (first|exact trivial|refine ⟨rfl,rfl,?_⟩)):p:=e hf hg hl
theorem Dc {p:Prop} {f g:FuncId} {fn gn:Func} (hf:prog.funcs[f]? =some fn) (hg:prog.funcs[g]? =some gn) {n:Nat} (hl:n<=1048576) (e:(prog.funcs[f]? =some fn)->(prog.funcs[g]? =some gn)->n<=1048576->p:=by
 intro hf hg hl;show fF _ _ [.eP ?bB 0 ?sz (List.length ?lL) ?ff,?fv] (eJ ((.ay ?bB, .eY ?tT (List.flatten (List.map ?enc (?lL++?pad))))::?es)) ?mM (gP _ (λx es=>x= .gO (.ax .i64 (k9 ?pP ?lL))/\es=_));refine fz hf ?_
 conv=>whnf
 refine iE.gY (λk:Nat=>(.ct 0, .bg (.eP ?bB 0 ?sz (List.length ?lL) ?ff))::(.ct 1, .bg ?fv)::(.ct 7, .bg (.ax .i64 (?lL).length))::(.ct 8, .bg (.ax .i64 k))::(.ay ?bB, .eY ?tT (List.flatten (List.map ?enc (?lL++?pad))))::?es) ?mM (λk=>k<=(?lL).length/\∀ a∈(?lL).take k,?pP a=false) (λk=>(?lL).length - k) (by decide) 0 ⟨Nat.zero_le _,λ_ h=>absurd h List.not_mem_nil⟩ ?_ ?_
 .repeat (first|exact trivial|refine ⟨rfl,rfl,?_⟩)
 rintro k ⟨hk,hno⟩;refine wO jy m8 _ _ _ _ ?_
 conv=>whnf
 refine arf (λh=>?_) λh=>?_
 .have hlt:k<(?lL).length:=by omega
  have hltp:k<(?lL++?pad).length:=by rw [List.length_append];omega
  have hgp:(?lL++?pad)[k]=(?lL)[k]:=List.getElem_append_left hlt;have hL:=za (enc:=?enc) (sz:=?sz) (λ_=>rfl) hltp;have hR:=EN (enc:=?enc) (sz:=?sz) (λ_=>rfl) hltp;rw [hgp] at hL;have hp1:=XM (p:=?pP) hlt hno;have hp2:=QQ (p:=?pP) hlt hno;have w1:=art k (by omega);have o1:0+(k:Int).toNat*?sz=k*?sz:=by rw [Int.toNat_natCast,Nat.zero_add]
  generalize (?lL)[k]=a at*;refine gI ?_;rw [o1]
  first|refine ⟨_,(hgp▸aie (enc:=?enc) (f:=λz=>b9.ax .i64 z) (λ_=>rfl) hltp),?_⟩|skip
  refine gI ?_;refine fz hg ?_;refine gI ?_;refine ⟨λh=>?_,λh=>?_⟩
  .have h:?pP a=true:=by first|simpa using h|exact h|exact arp h|exact arq h
   conv=>whnf
   refine ⟨_,_,⟨rfl,rfl⟩,rfl,⟨congrArg (b9.ax .i64) (hp1 h).symm,rfl⟩,?_⟩
   repeat (first|exact trivial|refine ⟨rfl,rfl,?_⟩)
  .have h:?pP a=false:=by first|simpa using h|exact h|exact arp h|exact arq h
   conv=>whnf
   refine ⟨k+1,⟨hlt,hp2 h⟩,by show _ - (k+1)<_ - k;omega,rfl,rfl,rfl,rfl,rfl,rfl,congrArg (λn=>gC.bg (.ax .i64 n)) w1,rfl,?_⟩
   repeat (first|exact trivial|refine ⟨rfl,rfl,?_⟩)
 .obtain rfl:k=(?lL).length:=by omega
  rw [List.take_length] at hno
  conv=>whnf
  refine ⟨_,_,⟨rfl,rfl⟩,rfl,⟨congrArg (b9.ax .i64) (QP hno).symm,rfl⟩,?_⟩
  repeat (first|exact trivial|refine ⟨rfl,rfl,?_⟩)):p:=e hf hg hl
theorem JV {p q:Prop} {f g:FuncId} {fn gn:Func} (hf:prog.funcs[f]? =some fn) (hg:prog.funcs[g]? =some gn) {n:Nat} (hl:n<=1048576) (hi:q) (e:(prog.funcs[f]? =some fn)->(prog.funcs[g]? =some gn)->n<=1048576->q->p:=by
 intro hf hg hl hi;show fF _ _ [.eP ?bB 0 ?sz (List.length l) ?ff,?fv] (eJ ((.ay ?bB, .eY ?tT (List.flatten (List.map ?enc l)))::?es)) ?mM (gP _ (λx es=>x= .gO (.eP _ 0 _ (List.length (List.filter (λa=>!(?pP:_->Bool) a) l)) _)/\es=_));have hfl:=tE (enc:=?enc) (sz:=?sz) (λ_=>rfl) l;refine fz hf ?_
 conv=>whnf
 refine arj hi ?_
 conv=>whnf
 rcases EP ?pP l with ⟨h1,hno⟩|⟨i,hi,h1,hno,hpi⟩
 .rw [h1];refine gI ?_;have hf:(l.filter λa=>!?pP a)=l:=List.filter_eq_self.2 λa ha=>by have h:=hno a ha;(first|simpa using h|exact h)
  rw [hf];refine ⟨_,_,⟨rfl,rfl⟩,rfl,⟨rfl,rfl⟩,?_⟩
  repeat (first|exact trivial|refine ⟨rfl,rfl,?_⟩)
 rw [h1];refine ⟨λh=>absurd (show (i:Int)=-1 from eq_of_beq h) (by omega),λ_=>?_⟩;have hwi:=art i (by omega);have hf0:=aro (p:=?pP) hi hno hpi
 conv=>whnf
 refine iE.gY (X:=Nat×List _) (λx=>(.ct 0, .bg (.eP ?bB 0 ?sz l.length ?ff))::(.ct 1, .bg (?fv))::(.ct 5, .bg (.ax .i64 ((l.take x.1).filter λa=>!?pP a).length))::(.ct 6, .bg (.ax .i64 x.1))::(.ay ?bB, .eY ?tT (((((l.take x.1).filter λa=>!?pP a)++(x.2++l.drop x.1)).map (?enc)).flatten))::?es) ?mM
  (λx=>x.1<=l.length/\0<x.2.length/\((l.take x.1).filter λa=>!?pP a).length+x.2.length=x.1) (λx=>l.length - x.1) (by decide) (i+1,[l[i]]) ⟨by show i+1<=_;omega,Nat.one_pos,by rw [hf0,List.length_take];show min i l.length+1=i+1;omega⟩ ⟨rfl,rfl,rfl,rfl,?_,rfl,?_,rfl,?_,rfl,by repeat (first|exact trivial|refine ⟨rfl,rfl,?_⟩)⟩ ?_
 .show gC.bg (b9.ax .i64 i)=gC.bg (b9.ax .i64 _);rw [hf0,List.length_take,Nat.min_eq_left (Nat.le_of_lt hi)]
 .show gC.bg (b9.ax .i64 (IntKind.i64.wrap ((i:Int)+1)))=_;rw [hwi]
 .rw [hf0];show gC.eY _ ((l.map (?enc)).flatten)=gC.eY _ (((l.take i++([l[i]]++l.drop (i+1))).map (?enc)).flatten);rw [List.singleton_append,<-List.drop_eq_getElem_cons hi,List.take_append_drop]
 rintro ⟨j,mid⟩ ⟨hj,hm0,hlen⟩;simp only at hj hm0 hlen;dsimp only;refine wO jy m8 _ _ _ _ ?_
 conv=>whnf
 refine ⟨λh=>?_,λh=>?_⟩
 .have h:=of_decide_eq_true h;have hlt:j<l.length:=by omega
  obtain ⟨a0,mid,rfl⟩:∃ a0 m1,mid=a0::m1:=by cases mid with|nil=>cases hm0|cons a m1=>exact ⟨a,m1,rfl⟩
  have hdj:=List.drop_eq_getElem_cons hlt;have htj:=List.take_succ_eq_append_getElem hlt;have w1:=art j (by omega);generalize hb:l[j]=b at*;generalize hK:(l.take j).filter (λa=>!?pP a)=kp at*;rw [hdj];generalize hdd:l.drop (j+1)=dr at*;have hAj:j<(kp++(a0::mid++b::dr)).length:=by rw [List.length_append,List.length_append,List.length_cons];simp only [List.length_cons] at hlen ⊢;omega
  have hAg:(kp++(a0::mid++b::dr))[j]=b:=by
   rw [List.getElem_append_right (by omega),List.getElem_append_right (by simp only [List.length_cons] at hlen ⊢;omega)];simp only [show j - kp.length - (a0::mid).length=0 by omega];rfl
  have hL:=za (enc:=?enc) (sz:=?sz) (λ_=>rfl) hAj;have hR:=EN (enc:=?enc) (sz:=?sz) (λ_=>rfl) hAj;rw [hAg] at hL;have hRk:=EN (enc:=?enc) (sz:=?sz) (λ_=>rfl) (l:=kp++(a0::mid++b::dr)) (k:=kp.length) (by simp only [List.length_cons] at hlen;omega);have hset:=Hf (enc:=?enc) (sz:=?sz) (λ_=>rfl) kp (mid++b::dr) a0 b;have o1:0+(j:Int).toNat*?sz=j*?sz:=by rw [Int.toNat_natCast,Nat.zero_add]
  have o2:0+(kp.length:Int).toNat*?sz=kp.length*?sz:=by rw [Int.toNat_natCast,Nat.zero_add]
  have wk:=art kp.length (by omega);refine gI ?_;rw [o1]
  first|refine ⟨_,(hAg▸aie (enc:=?enc) (f:=λz=>b9.ax .i64 z) (λ_=>rfl) hAj),?_⟩|skip
  refine gI ?_;refine fz hg ?_;refine gI ?_;refine ⟨λh=>?_,λh=>?_⟩
  .have h:?pP b=false:=by (first|simpa using h|exact h)
   have hfn:(l.take (j+1)).filter (λa=>!?pP a)=kp++[b]:=by rw [htj,List.filter_append,hK,List.filter_cons_of_pos (by rw [h];rfl),List.filter_nil]
   conv=>whnf
   refine ⟨by omega,?_⟩
   conv=>whnf
   rw [o2];refine ⟨by omega,?_⟩
   conv=>whnf
   refine ⟨(j+1,mid++[b]),⟨by show j+1<=_;omega,by simp,?_⟩,by show l.length - (j+1)<l.length - j;omega,rfl,rfl,rfl,rfl,?_,rfl,?_,rfl,?_,rfl,by repeat (first|exact trivial|refine ⟨rfl,rfl,?_⟩)⟩
   .show ((l.take (j+1)).filter (λa=>!?pP a)).length+(mid++[b]).length=j+1;rw [hfn,List.length_append,List.length_append];simp only [List.length_cons,List.length_nil] at hlen ⊢;omega
   .show gC.bg (b9.ax .i64 (IntKind.i64.wrap ((kp.length:Int)+1)))=gC.bg (b9.ax .i64 ((l.take (j+1)).filter (λa=>!?pP a)).length);rw [hfn,wk,List.length_append];rfl
   .show gC.bg (b9.ax .i64 (IntKind.i64.wrap ((j:Int)+1)))=_;rw [w1]
   .show gC.eY _ (_++?enc b++_)=gC.eY _ (((((l.take (j+1)).filter (λa=>!?pP a))++(mid++[b]++l.drop (j+1))).map (?enc)).flatten);rw [hfn,hdd];refine congrArg _ (hset.trans ?_);rw [List.append_assoc kp [b],List.append_assoc mid [b] dr];rfl
  .have h:?pP b=true:=by (first|simpa using h|exact h)
   have hfn:(l.take (j+1)).filter (λa=>!?pP a)=kp:=by rw [htj,List.filter_append,hK,List.filter_cons_of_neg (by rw [h];decide),List.filter_nil,List.append_nil]
   conv=>whnf
   refine ⟨(j+1,a0::mid++[b]),⟨by show j+1<=_;omega,by simp,?_⟩,by show l.length - (j+1)<l.length - j;omega,rfl,rfl,rfl,rfl,?_,rfl,?_,rfl,?_,rfl,by repeat (first|exact trivial|refine ⟨rfl,rfl,?_⟩)⟩
   .show ((l.take (j+1)).filter (λa=>!?pP a)).length+(a0::mid++[b]).length=j+1;rw [hfn,List.length_append];simp only [List.length_cons,List.length_nil] at hlen ⊢;omega
   .show gC.bg (b9.ax .i64 kp.length)=gC.bg (b9.ax .i64 ((l.take (j+1)).filter (λa=>!?pP a)).length);rw [hfn]
   .show gC.bg (b9.ax .i64 (IntKind.i64.wrap ((j:Int)+1)))=_;rw [w1]
   .show gC.eY _ (((kp++(a0::mid++b::dr)).map (?enc)).flatten)=gC.eY _ (((((l.take (j+1)).filter (λa=>!?pP a))++(a0::mid++[b]++l.drop (j+1))).map (?enc)).flatten);rw [hfn,hdd,List.append_assoc (a0::mid) [b] dr];rfl
 .have h:=of_decide_eq_false h;obtain rfl:j=l.length:=by omega
  rw [List.take_length] at hlen ⊢;rw [List.drop_length,List.append_nil];generalize hK:(l.filter λa=>!?pP a)=kp at*;have hfa:=tE (enc:=?enc) (sz:=?sz) (λ_=>rfl) (kp++mid);have htk:=EO (enc:=?enc) (sz:=?sz) (λ_=>rfl) (l:=kp++mid) (k:=kp.length) (by rw [List.length_append];omega);rw [List.take_left' rfl] at htk;rw [List.length_append] at hfa;have o2:0+(kp.length:Int).toNat*?sz=kp.length*?sz:=by rw [Int.toNat_natCast,Nat.zero_add]
  refine gI ?_;rw [o2];refine qu.arm jy (e:=?tT) (by kernel_rfl) rfl rfl rfl rfl rfl rfl rfl rfl (by kernel_rfl) (by rw [hfa,Int.toNat_natCast,<-Nat.add_mul];exact Nat.mul_le_mul_right _ (by omega)) ?_;rw [htk];refine gI ?_;rw [Int.toNat_natCast];refine ⟨_,_,⟨rfl,rfl⟩,rfl,⟨rfl,rfl⟩,?_⟩
  repeat (first|exact trivial|refine ⟨rfl,rfl,?_⟩)):p:=e hf hg hl hi
theorem JU {p q:Prop} {f:FuncId} {fn:Func} (hf:prog.funcs[f]? =some fn) (hi:q) (e:(prog.funcs[f]? =some fn)->q->p:=by
 intro hf hi;refine fz hf ?_
 conv=>whnf
 refine arj hi ?_
 conv=>whnf
 refine ⟨_,_,⟨rfl,rfl⟩,rfl,⟨by rw [<-XL];rfl,rfl⟩,?_⟩
 repeat (first|exact trivial|refine ⟨rfl,rfl,?_⟩)):p:=e hf hi
theorem EQ {p:Prop} {f:FuncId} {fn:Func} (hf:prog.funcs[f]? =some fn) (e:(prog.funcs[f]? =some fn)->p:=by
 intro hf;refine ic hf ?_
 conv=>whnf
 refine ⟨λh=>?_,λh=>?_⟩
 .conv=>whnf
  rw [h,hn h];exact mR.kd _ _ _
 .conv=>whnf
  refine ⟨ji (by simpa using Nat.le_trans hl (by decide)) (by decide),?_⟩
  conv=>whnf
  rw [h];exact mR.fC _):p:=e hf
theorem Hi {p:Prop} {f:FuncId} {fn:Func} (hf:prog.funcs[f]? =some fn) (e:(prog.funcs[f]? =some fn)->p:=by
 intro hf;cases q with
 |true=>
  refine arn (sz:=1) (yO.ard jy m8 hf rfl (by kernel_rfl) rfl rfl ?_);exact jf
 |false=>
  refine yO.ard jy m8 hf rfl (by kernel_rfl) rfl rfl ?_
  conv=>whnf
  refine PZ (by decide) ?_
  conv=>whnf
  refine ⟨rfl,?_⟩;exact jf):p:=e hf
theorem Hj {p:Prop} {f:FuncId} {fn:Func} (hf:prog.funcs[f]? =some fn) (e:(prog.funcs[f]? =some fn)->p:=by
 intro hf;refine rE.arc jy m8 hf rfl (by kernel_rfl) rfl rfl ?_;refine gI ?_;refine ⟨⟨rfl,h0,ji (Nat.le_trans hl (by decide)) (by decide)⟩,?_⟩
 conv=>whnf
 exact ⟨_,rfl,rfl⟩):p:=e hf
theorem MV (q:Bool):yO prog 291 [.a8 q 2 [] .dm] q 2 []:=Hi func291
theorem Dd (els:List (List b9)) (h0:0<els.length) (hl:els.length<=1048576):rE prog 291 [.a8 false 2 els .dm] 370 2 els.length els.flatten:=Hj func291
theorem aim (nil:Bool) (els:List (List b9)) (hn:nil=true->els=[]) (hl:els.length<=1048576):er prog 194 [.a8 nil 2 els .dm] (.a8 nil 2 els .dm):=EQ func194
theorem ail (q:Bool):yO prog 194 [.a8 q 2 [] .dm] q 2 []:=Hi func194
theorem QZ (els:List (List b9)) (h0:0<els.length) (hl:els.length<=1048576):rE prog 194 [.a8 false 2 els .dm] 331 2 els.length els.flatten:=Hj func194
theorem ain (nil:Bool) (els:List (List b9)) (hn:nil=true->els=[]) (hl:els.length<=1048576):er prog 309 [.a8 nil 1 els .dm] (.a8 nil 1 els .dm):=EQ func309
theorem Q0 (q:Bool):yO prog 309 [.a8 q 1 [] .dm] q 1 []:=Hi func309
theorem aio (els:List (List b9)) (h0:0<els.length) (hl:els.length<=1048576):rE prog 309 [.a8 false 1 els .dm] 3 1 els.length els.flatten:=Hj func309
theorem aij (q:Bool):yO prog 74 [.a8 q 18 [] .dm] q 18 []:=Hi func74
theorem QY (els:List (List b9)) (h0:0<els.length) (hl:els.length<=1048576):rE prog 74 [.a8 false 18 els .dm] 78 18 els.length els.flatten:=Hj func74
theorem aik (nil:Bool) (els:List (List b9)) (hn:nil=true->els=[]) (hl:els.length<=1048576):er prog 89 [.a8 nil 4 els .dm] (.a8 nil 4 els .dm):=EQ func89
theorem XT (q:Bool):yO prog 89 [.a8 q 4 [] .dm] q 4 []:=Hi func89
theorem MX (els:List (List b9)) (h0:0<els.length) (hl:els.length<=1048576):rE prog 89 [.a8 false 4 els .dm] 184 4 els.length els.flatten:=Hj func89
theorem XR (q:Bool):yO prog 142 [.a8 q 2 [] .dm] q 2 []:=Hi func142
theorem XS (els:List (List b9)) (h0:0<els.length) (hl:els.length<=1048576):rE prog 142 [.a8 false 2 els .dm] 264 2 els.length els.flatten:=Hj func142
theorem XQ (nil:Bool) (els:List (List b9)) (hn:nil=true->els=[]) (hl:els.length<=1048576):er prog 141 [.a8 nil 8 els .dm] (.a8 nil 8 els .dm):=EQ func141
theorem QX (nil:Bool) (els:List (List b9)) (hn:nil=true->els=[]) (hl:els.length<=1048576):er prog 108 [.a8 nil 2 els .dm] (.a8 nil 2 els .dm):=EQ func108
theorem aii (nil:Bool) (els:List (List b9)) (hn:nil=true->els=[]) (hl:els.length<=1048576):er prog 263 [.a8 nil 17 els .dm] (.a8 nil 17 els .dm):=EQ func263
theorem MW (nil:Bool) (els:List (List b9)) (hn:nil=true->els=[]) (hl:els.length<=1048576):er prog 107 [.a8 nil 1 els .dm] (.a8 nil 1 els .dm):=EQ func107
theorem aix (t:Int) (n:Bool) (l:List fK) (a:l.length<=1048576):fF prog 228 [.a8 n 2 (l.map fI) .dm, .eW 229 [] [.c8 1 0]] (eJ [(.ay 1, .dc 3 [.ax .i64 t])]) 2 (gP 2 (λx es=>x= .gO (.ax .i64 (k9 (λh=>decide (h.ig=t)) l))/\es=[(.ay 1, .dc 3 [.ax .i64 t])])):=vd func228 func229 a
theorem aiw (t:Int) (n:Bool) (l:List fK) (a:l.length<=1048576):fF prog 228 [.a8 n 2 (l.map fI) .dm, .eW 292 [] [.c8 1 0]] (eJ [(.ay 1, .dc 3 [.ax .i64 t])]) 2 (gP 2 (λx es=>x= .gO (.ax .i64 (k9 (λh=>decide (h.gf=t)) l))/\es=[(.ay 1, .dc 3 [.ax .i64 t])])):=vd func228 func292 a
theorem ait (t:Int) (full:Bool) (l pad:List fK) (a:l.length<=1048576):fF prog 228 [.eP 12 0 2 l.length full, .eW 301 [] [.c8 1 0]] (eJ [(.ay 12, .eY 370 (((l++pad).map fI).flatten)),(.ay 1, .dc 3 [.ax .i64 t])]) 16 (gP 16 (λx es=>x= .gO (.ax .i64 (k9 (λh=>decide (h.ig=t)) l))/\es=[(.ay 12, .eY 370 (((l++pad).map fI).flatten)),(.ay 1, .dc 3 [.ax .i64 t])])):=Dc func228 func301 a
theorem XV (t:Int) (full:Bool) (l:List fK) (b:l.length<=1048576):fF prog 300 [.eP 12 0 2 l.length full, .eW 301 [] [.c8 1 0]] (eJ [(.ay 12, .eY 370 (((l).map fI).flatten)),(.ay 1, .dc 3 [.ax .i64 t])]) 16 (gP 16 (λx es=>x= .gO (.eP 12 0 2 (l.filter λa=>!(λh=>decide (h.ig=t)) a).length full)/\es=[(.ay 12, .eY 370 (((l.filter λa=>!(λh=>decide (h.ig=t)) a).map fI).flatten)),(.ay 1, .dc 3 [.ax .i64 t])])):=by
 have i:=ait t full l [] b;rw [aH] at i;exact JV func300 func301 b i
theorem XU (t:Int) (n:Bool) (l:List fK) (a:l.length<=1048576):fF prog 228 [.a8 n 2 (l.map fI) .fW, .eW 301 [] [.c8 1 0]] (eJ [(.ay 1, .dc 3 [.ax .i64 t])]) 16 (gP 16 (λx es=>x= .gO (.ax .i64 (k9 (λh=>decide (h.ig=t)) l))/\es=[(.ay 1, .dc 3 [.ax .i64 t])])):=vd func228 func301 a
theorem air (t th:Int) (n:Bool) (l:List fK) (a:l.length<=1048576):fF prog 228 [.a8 n 2 (l.map fI) .fW, .eW 267 [] [.c8 20 0]] (eJ [(.ay 20, .dc 370 [.ax .i64 t, .ax .i64 th])]) 21 (gP 21 (λx es=>x= .gO (.ax .i64 (k9 (λh=>decide (h=⟨t,th⟩)) l))/\es=[(.ay 20, .dc 370 [.ax .i64 t, .ax .i64 th])])):=vd func228 func267 a
theorem aiv (t:Int) (full:Bool) (l pad:List fK) (a:l.length<=1048576):fF prog 228 [.eP 12 0 2 l.length full, .eW 299 [] [.c8 16 0]] (eJ [(.ay 12, .eY 370 (((l++pad).map fI).flatten)),(.ay 16, .dc 3 [.ax .i64 t])]) 17 (gP 17 (λx es=>x= .gO (.ax .i64 (k9 (λh=>decide (h.gf=t)) l))/\es=[(.ay 12, .eY 370 (((l++pad).map fI).flatten)),(.ay 16, .dc 3 [.ax .i64 t])])):=Dc func228 func299 a
theorem aiu (t:Int) (n:Bool) (l:List fK) (a:l.length<=1048576):fF prog 228 [.a8 n 2 (l.map fI) .fW, .eW 299 [] [.c8 16 0]] (eJ [(.ay 16, .dc 3 [.ax .i64 t])]) 17 (gP 17 (λx es=>x= .gO (.ax .i64 (k9 (λh=>decide (h.gf=t)) l))/\es=[(.ay 16, .dc 3 [.ax .i64 t])])):=vd func228 func299 a
theorem ais (t th:Int) (full:Bool) (l pad:List fK) (a:l.length<=1048576):fF prog 228 [.eP 11 0 2 l.length full, .eW 267 [] [.c8 20 0]] (eJ [(.ay 11, .eY 370 (((l++pad).map fI).flatten)),(.ay 20, .dc 370 [.ax .i64 t, .ax .i64 th])]) 21 (gP 21 (λx es=>x= .gO (.ax .i64 (k9 (λh=>decide (h=⟨t,th⟩)) l))/\es=[(.ay 11, .eY 370 (((l++pad).map fI).flatten)),(.ay 20, .dc 370 [.ax .i64 t, .ax .i64 th])])):=Dc func228 func267 a
theorem aiq (c r:Int) (n:Bool) (l:List oc) (h:l.length<=1048576):fF prog 245 [.a8 n 17 (l.map jB) .dm, .eW 213 [] [.c8 1 0]] (eJ [(.ay 1, .dc 62 [.ax .i64 c, .ax .i64 r])]) 2 (gP 2 (λx es=>x= .gO (.ax .i64 (k9 (λe=>decide (e.gN.fa.iH=c) && decide (e.gN.fa.jw=r)) l))/\es=[(.ay 1, .dc 62 [.ax .i64 c, .ax .i64 r])])):=vd func245 func213 h
theorem aip (c r:Int) (n:Bool) (l:List oc) (h:l.length<=1048576):fF prog 212 [.a8 n 17 (l.map jB) .dm, .eW 213 [] [.c8 1 0]] (eJ [(.ay 1, .dc 62 [.ax .i64 c, .ax .i64 r])]) 2 (gP 2 (λx es=>x= .gO (.eD (l.any (λe=>decide (e.gN.fa.iH=c) && decide (e.gN.fa.jw=r))))/\es=[(.ay 1, .dc 62 [.ax .i64 c, .ax .i64 r])])):=JU func212 (aiq c r n l h)
theorem aiA (u t:Int) (full:Bool) (l pad:List Int) (h:l.length<=1048576):fF prog 310 [.eP 8 0 1 l.length full, .eW 296 [] [.c8 1 0]] (eJ [(.ay 8, .eY 3 (((l++pad).map l7).flatten)),(.ay 1, .dc 233 [.ax .i64 u, .ax .i64 t])]) 9 (gP 9 (λx es=>x= .gO (.ax .i64 (k9 (λz=>decide (z=t)) l))/\es=[(.ay 8, .eY 3 (((l++pad).map l7).flatten)),(.ay 1, .dc 233 [.ax .i64 u, .ax .i64 t])])):=Dc func310 func296 h
theorem aiz (u t:Int) (full:Bool) (l:List Int) (b:l.length<=1048576):fF prog 295 [.eP 8 0 1 l.length full, .eW 296 [] [.c8 1 0]] (eJ [(.ay 8, .eY 3 (((l).map l7).flatten)),(.ay 1, .dc 233 [.ax .i64 u, .ax .i64 t])]) 9 (gP 9 (λx es=>x= .gO (.eP 8 0 1 (l.filter λa=>!(λz=>decide (z=t)) a).length full)/\es=[(.ay 8, .eY 3 (((l.filter λa=>!(λz=>decide (z=t)) a).map l7).flatten)),(.ay 1, .dc 233 [.ax .i64 u, .ax .i64 t])])):=by
 have h:=aiA u t full l [] b;rw [aH] at h;exact JV func295 func296 b h
theorem aiy (u t:Int) (n:Bool) (l:List Int) (h:l.length<=1048576):fF prog 310 [.a8 n 1 (l.map l7) .fW, .eW 296 [] [.c8 1 0]] (eJ [(.ay 1, .dc 233 [.ax .i64 u, .ax .i64 t])]) 9 (gP 9 (λx es=>x= .gO (.ax .i64 (k9 (λz=>decide (z=t)) l))/\es=[(.ay 1, .dc 233 [.ax .i64 u, .ax .i64 t])])):=vd func310 func296 h
theorem aiC (l:List eF) (id:Int) (h:o8 l id=true->il l id<l.length) (hp:il l id<=l.length):il l id<=lB l id/\lB l id<=l.length:=by
 grind [lB]
theorem XW (l:List eF) (id:Int) (h:o8 l id=true):il l id<l.length:=by
 grind [o8]
theorem Q1 (l:List eF) (id:Int):il l id<=l.length:=List.Sublist.length_le (List.takeWhile_sublist _)
theorem aiB (i:Bool) (l:List eF) (o:e7) (u:Aj) (A:∀ n∈l,jv n.eM) (J:l.length<=1000000) (s:jv o.eO):
  er prog 246 [.a8 i 8 (ib l) .dm,rc o,WX u] (.a8 false 8 (ib (wZ l o u)) .dm):=by
 obtain ⟨t,v⟩:=aiC l o.eO (XW l o.eO) (Q1 l o.eO);have z:=EI i l A om;have E:=W0 i l om;have k:=GZ o.eO s;have j:=EG i false l [u.xZ] (il l o.eO) (lB l o.eO) t v om (aq _);have r:=(EG i true l [] (il l o.eO) (lB l o.eO) t v om (ar _)).Ut (args':=[.a8 i 8 (ib l) .dm, .ax .i64 (il l o.eO:Nat), .ax .i64 (lB l o.eO:Nat), .a8 true 1 [] .dm]) (.fj (.fC _) (.fj (.fC _) (.fj (.fC _) (.fj (.kd _ _ _) .kv))));rw [aH] at r;unfold wZ;refine fS func246 ?_;refine gI ?_;cases y:gU l with
 |false=>
  refine gI ?_;trivial
 |true=>
 have B:=MF i l o.eO om y;have c:(if o8 l o.eO=true then (il l o.eO:Int)+1 else il l o.eO)=(lB l o.eO:Nat):=by
  grind [lB]
 have I:=XW l o.eO;have D:=Q1 l o.eO;generalize il l o.eO=p at*;generalize lB l o.eO=q at*;generalize o8 l o.eO=H at*;generalize mK o.eO=x at*;obtain ⟨a,b,w⟩:=u;have F:IntKind.i64.wrap ((p:Int)+1)=(p:Int)+1:=fq om om;refine gI ?_;have R:(if true=true/\a=true then (if x=true/\b=true/\w.eM=o.eO then l.take p++[w]++l.drop q else l.take p++l.drop q) else l)=if a=true then (if x=true/\b=true/\w.eM=o.eO then l.take p++[w]++l.drop q else l.take p++l.drop q) else l:=by simp
 rw [R];refine ⟨λd=>?_,λd=>?_⟩
 .have d:a=false:=by simpa using d
  refine gI ?_;simp_all
 have d:a=true:=by simpa using d
 rw [ak d];refine gI ?_;refine ⟨λm=>?_,λm=>?_⟩
 .rw [ak m] at c
  conv=>whnf
  rw [F,c];refine fF.kc k rfl ?_
  conv=>whnf
  refine ⟨λf=>?_,λf=>?_⟩
  .conv=>whnf
   refine ⟨λg=>?_,λg=>?_⟩
   .conv=>whnf
    refine ⟨λh=>?_,λh=>?_⟩
    .have h:w.eM=o.eO:=by simpa using h
     rw [ak ⟨f,g,h⟩]
     conv=>whnf
     refine fF.kc (j) rfl ?_
     conv=>whnf
    .have h:¬w.eM=o.eO:=by simpa using h
     rw [ai (λe=>h e.2.2)];exact jf
   .rw [ai (λe=>by simp_all)];exact jf
  .rw [ai (λe=>by simp_all)];exact jf
 .rw [ai (by rw [m];decide)] at c;obtain rfl:p=q:=om
  conv=>whnf
  refine fF.kc k rfl ?_
  conv=>whnf
  refine ⟨λf=>?_,λf=>?_⟩
  .conv=>whnf
   refine ⟨λg=>?_,λg=>?_⟩
   .conv=>whnf
    refine ⟨λh=>?_,λh=>?_⟩
    .have h:w.eM=o.eO:=by simpa using h
     rw [ak ⟨f,g,h⟩]
     conv=>whnf
     refine fF.kc (j) rfl ?_
     conv=>whnf
    .have h:¬w.eM=o.eO:=by simpa using h
     rw [ai (λe=>h e.2.2)];exact jf
   .rw [ai (λe=>by simp_all)];exact jf
  .rw [ai (λe=>by simp_all)];exact jf
theorem XX (g:li) (s:mJ) (h:g.fZ.al.length<=1048576):er prog 154 [yd g,BU s] (.eD (oy g s)):=by
 have i:=aip s.iH s.jw g.fZ.gg g.fZ.al h;unfold oy;refine fS func154 ?_;exact jf
theorem XY (g:li) (b:g.fZ.al.length<=1048576) (d:g.ec.al.length<=1048576):er prog 225 [yd g] (yd g):=by
 have c:=aii g.fZ.gg (g.fZ.al.map jB) (λh=>by rw [gp.Af h];rfl) (by simp_all);have a:=XQ g.ec.gg (g.ec.al.map mD) (λh=>by rw [gp.Af h];rfl) (by simp_all);refine fS func225 ?_;exact fu
end Go.Proofs.YtffboamedcmpaaaGreatDoor
