import Derived.WalkSmall
import Derived.Lib.Hide
import Derived.Test.YtffboamedcmpaaaGreatDoorBe
set_option linter.all false
set_option maxHeartbeats 4000000
set_option maxRecDepth 100000
namespace Gw
structure iu where
 dg:Int
 dS:Int
def j5 (s:iu):Bool:=decide (1<=s.dg) && (decide (s.dg<=1048576) && (decide (0<=s.dS) && decide (s.dS<=63)))
def jQ (a b:iu):Bool:=decide (a.dg<b.dg)||(decide (a.dg=b.dg) && decide (a.dS<b.dS))
def jR (id:Int):Bool:=decide (128<=id) && decide (id<134217856)
def Bl (id:Int):iu:=if jR id=true then ⟨id / 128,id % 128 / 2⟩ else ⟨0,0⟩
def Dk (id:Int):Bool:=jR id && decide (id % 2=1)
def fk (id:Int):Bool:=decide (id=0)||(decide (id=2)||(jR id && !Dk id))
def Bk (at_:iu) (id:Int):Bool:=jR id && jQ at_ (Bl id)
structure aI where
 bc:Int
 gh:Int
 fm:List UInt8
 mA:iu
 ov:List UInt8
 FW:iu
def FZ:aI:=⟨0,0,[],⟨0,0⟩,[],⟨0,0⟩⟩
def I5 (l:List aI) (id:Int):Nat->Bool
 |0=>true
 |j+1=>match l[j]? with|none=>false|some p=>decide (p.bc<id)
def tO (l:List aI) (k:Nat):Bool:=match l[k]? with
 |none=>false
 |some n=>jR n.bc && I5 l n.bc k
def fH (l:List aI):Bool:=(List.range l.length).all (tO l)
def cZ (l:List aI) (id:Int):Nat:=(l.takeWhile λn=>decide (n.bc<id)).length
def lb (l:List aI) (id:Int):Bool:=match l[cZ l id]? with|none=>false|some n=>decide (n.bc=id)
def iD (l:List aI) (id:Int):Option aI:=match l[cZ l id]? with|none=>none|some n=>if n.bc=id then some n else none
def kq (l:List aI):Nat->Int->List Int
 |0,_=>[]
 |f+1,id=>match iD l id with
  |none=>[]
  |some n=>if n.gh=-1 then [] else n.gh::kq l f n.gh
def jS (l:List aI) (id:Int):List Int:=if fH l=true then kq l l.length id else []
theorem SK {l:List aI} (h:fH l=true) {k:Nat} (hk:k<l.length):tO l k=true:=List.all_eq_true.1 h k (List.mem_range.2 hk)
theorem abz {l:List aI} (h:fH l=true) {k:Nat} (hk:k<l.length):jR l[k].bc=true:=by
 have:=SK h hk;grind [tO]
theorem aby {l:List aI} (h:fH l=true) {k:Nat} (hk:k+1<l.length):l[k].bc<l[k+1].bc:=by
 have:=SK h hk;unfold tO at this;rw [List.getElem?_eq_getElem hk] at this;simp only [Bool.and_eq_true] at this;have h2:=this.2;rw [I5,List.getElem?_eq_getElem (show k<l.length by omega)] at h2;simp_all
theorem zA {l:List aI} (h:fH l=true) {i j:Nat} (hij:i<j) (hj:j<l.length):l[i].bc<l[j].bc:=by
 induction j with
 |zero=>omega
 |succ j ih=>
  have h1:=aby h hj;grind
theorem FY (l:List aI) (id:Int):cZ l id<=l.length:=by
 grind [cZ,List.takeWhile_sublist]
theorem SN {l:List aI} {id:Int} {k:Nat} (hk:k<cZ l id):∃ h:k<l.length,l[k].bc<id:=by
 have hl:k<l.length:=Nat.lt_of_lt_of_le hk (FY l id);refine ⟨hl,?_⟩;unfold cZ at hk;have hp:(l.takeWhile λn=>decide (n.bc<id))<+:l:=List.takeWhile_prefix _;have e:=hp.getElem hk;grind [List.all_takeWhile]
theorem SM {l:List aI} {id:Int} (h:cZ l id<l.length):id<=l[cZ l id].bc:=by
 induction l with
 |nil=>simp at h
 |cons n l ih=>
  by_cases hn:n.bc<id
  ·grind [cZ,List.takeWhile_cons_of_pos]
  grind [cZ,List.takeWhile_cons_of_neg]
theorem Mv {l:List aI} {id:Int} {i:Nat} (hi:i<=l.length) (h1:∀ k (hk:k<l.length),k<i->l[k].bc<id) (h2:∀ k (hk:k<l.length),i<=k->id<=l[k].bc):i=cZ l id:=by
 rcases Nat.lt_trichotomy i (cZ l id) with h|h|h
 ·obtain ⟨hl,h3⟩:=SN h;grind
 ·exact h
 ·have hl:cZ l id<l.length:=om;grind [SM]
theorem zB (l:List aI) (id:Int):lb l id=(iD l id).isSome:=by
 grind [lb,iD]
theorem yf {l:List aI} {id:Int} {n:aI} (h:iD l id=some n):n∈l/\n.bc=id/\∃ hp:cZ l id<l.length,l[cZ l id]=n:=by
 grind [iD]
theorem Bm {l:List aI} (hc:fH l=true) {n:aI} (h:n∈l):iD l n.bc=some n:=by
 obtain ⟨k,hk,rfl⟩:=List.getElem_of_mem h;have e:k=cZ l l[k].bc:=Mv (Nat.le_of_lt hk) (λj hj h=>zA hc h hk) (λj hj h=>by
  by_cases e:k=j
  ·simp_all
  ·exact Int.le_of_lt (zA hc om hj))
 grind [iD]
theorem FX (l:List aI):∀ (f:Nat) (id:Int),(kq l f id).length<=f
 |0,_=>Nat.le_refl _
 |f+1,id=>by
  rw [kq];split
  ·simp
  ·split
   ·simp
   ·have:=FX l f (by assumption:aI).gh;simp;omega
def jf:Nat->Nat->List UInt8
 |0,_=>[]
 |f+1,n=>if n=0 then [] else jf f (n / 128)++[UInt8.ofNat (n % 128+128)]
def bW (n:Nat):List UInt8:=jf 10 (n / 128)++[UInt8.ofNat (n % 128)]
def gH:Nat->Nat->Nat
 |0,_=>1
 |f+1,n=>if n<128 then 1 else gH f (n / 128)+1
def jn (n:Nat):Nat:=gH 9 n
def sA (n size i:Nat):Nat:=n / 128^(size - 1 - i) % 128+(if i+1<size then 128 else 0)
def lJ (n size k:Nat):List UInt8:=(List.range k).map λi=>UInt8.ofNat (sA n size i)
def iv (l:List Nat):List UInt8:=(l.map bW).flatten
def jo (n i:Nat):List UInt8->Option (Nat×Nat)
 |[]=>none
 |c::l=>if (i=0/\c.toNat=128)\/72057594037927935<n then none else if c.toNat<128 then some (n*128+c.toNat,i+1) else jo (n*128+c.toNat % 128) (i+1) l
def gI (l:List UInt8):Option (Nat×Nat):=jo 0 0 l
def jA (b t:List UInt8):List UInt8:=b++bW t.length++t
theorem I9 (f n:Nat):1<=gH f n:=by
 cases f with
 |zero=>exact Nat.le_refl _
 |succ f=>grind [gH]
theorem F2 (n:Nat):1<=jn n:=I9 _ _
theorem I8:∀ (f n:Nat),n<128^(f+1)->gH (f+1) n<=f+1
 |0,n,h=>by grind [gH]
 |f+1,n,h=>by
  unfold gH;split
  ·omega
  ·have:=I8 f (n / 128) om;omega
theorem Dl (n:Nat) (h:n<9223372036854775808):jn n<=9:=I8 8 n om
theorem I7:∀ (f n:Nat),n<128^f->(jf f (n / 128)).length+1=gH f n
 |0,n,h=>by simp [jf,gH]
 |f+1,n,h=>by
  unfold jf gH
  by_cases hn:n<128
  ·simp_all
  ·rw [if_neg om,if_neg hn,List.length_append];have:=I7 f (n / 128) om;simp;omega
theorem Bn:∀ (f g n:Nat),n<128^f->f<=g->jf g n=jf f n
 |0,g,n,h,_=>by
  have:n=0:=by simpa using h
  subst this;cases g<;>simp [jf]
 |f+1,0,_,_,hg=>by omega
 |f+1,g+1,n,h,hg=>by
  unfold jf;rw [Bn f g (n / 128) om om]
theorem zC (n:Nat) (h:n<128^9):(bW n).length=jn n:=by
 grind [bW,jn,Bn,I7]
theorem F1 (n size k:Nat):lJ n size (k+1)=lJ n size k++[UInt8.ofNat (sA n size k)]:=by
 simp [lJ,List.range_succ]
theorem I6:∀ (f n:Nat),n<128^f->jf f (n / 128)=lJ n (gH f n) (gH f n - 1)
 |0,n,_=>by trivial
 |f+1,n,h=>by
  unfold jf gH
  by_cases hn:n<128
  ·rw [if_pos om,if_pos hn];rfl
  ·rw [if_neg om,if_neg hn];have hf:n / 128<128^f:=om;have ih:=I6 f (n / 128) hf;have hp:=I9 f (n / 128);generalize gH f (n / 128)=s at*;rw [ih,show s+1 - 1=(s - 1)+1 from om,F1];congr 1
   ·unfold lJ;refine List.map_congr_left λi hi=>?_
    have hi':i<s - 1:=by simpa using hi
    unfold sA;rw [if_pos om,if_pos om];congr 3;rw [Nat.div_div_eq_div_mul,<-Nat.pow_succ',show (s - 1 - i).succ=s+1 - 1 - i from by omega]
   grind [sA]
theorem abB (n:Nat) (h:n<128^9):bW n=lJ n (jn n) (jn n):=by
 have hp:=F2 n;unfold bW;rw [Bn 9 10 (n / 128) om om,I6 9 n h];grind [jn,gH,F1,sA]
theorem abA (l:List Nat) (n:Nat):iv (l++[n])=iv l++bW n:=by simp [iv]
theorem SP (n i:Nat) (c:UInt8) (l:List UInt8) (h:(i=0/\c.toNat=128)\/72057594037927935<n):jo n i (c::l)=none:=by
 grind [jo]
theorem Mw (n i:Nat) (c:UInt8) (l:List UInt8) (h:¬((i=0/\c.toNat=128)\/72057594037927935<n)) (hc:c.toNat<128):jo n i (c::l)=some (n*128+c.toNat,i+1):=by
 grind [jo]
theorem Mx (n i:Nat) (c:UInt8) (l:List UInt8) (h:¬((i=0/\c.toNat=128)\/72057594037927935<n)) (hc:¬c.toNat<128):jo n i (c::l)=jo (n*128+c.toNat % 128) (i+1) l:=by
 grind [jo]
theorem Dm:∀ (l:List UInt8) (n i m u:Nat),n<9223372036854775808->jo n i l=some (m,u)->i+1<=u/\u<=i+l.length/\m<9223372036854775808
 |[],n,i,m,u,_,h=>by simp [jo] at h
 |c::l,n,i,m,u,hn,h=>by
  unfold jo at h;have hc:=UInt8.toNat_lt c;split at h
  ·cases h
  ·rename_i h1;split at h
   ·grind
   ·have h3:=Dm l _ _ m u om h;grind
structure aH where
 aT:iu
 fc:Int
 aY:Int
 gg:Int
 j4:List UInt8
 j3:List UInt8
def uY (o:aH):Bool:=jR o.aY && (fk o.gg && (!Bk o.aT o.gg && (o8 o.j4 && decide (o.j3=[]))))
def wH (o:aH):Bool:=jR o.aY && (Dk o.aY && (decide (o.j3.length<=64) && (decide (o.gg=0) && decide (o.j4=[]))))
def cJ (o:aH):Bool:=if o.fc=1 then j5 o.aT && (!Bk o.aT o.aY && uY o) else if o.fc=2 then j5 o.aT && (!Bk o.aT o.aY && wH o) else false
def Dj (o:aH):List UInt8:=iv [o.aT.dg.toNat,o.aT.dS.toNat,o.fc.toNat,o.aY.toNat]
def dM (o:aH):List UInt8:=if o.fc=1 then jA (Dj o++iv [o.gg.toNat]) o.j4 else jA (Dj o) o.j3
def zx (b:List UInt8) (o:aH):List UInt8:=if cJ o=true then b++dM o else []
def zy (o:aH):Int:=if cJ o=true then 0 else 50
theorem Mr {id:Int} (h:jR id=true):128<=id/\id<134217856:=by
 grind [jR]
theorem abx {id:Int} (h:fk id=true):0<=id/\id<134217856:=by
 unfold fk at h;simp only [Bool.or_eq_true,Bool.and_eq_true,decide_eq_true_eq] at h;rcases h with h|h|h
 ·omega
 ·omega
 ·have:=Mr h.1;omega
theorem Di {o:aH} (h:cJ o=true):(0<=o.aT.dg/\o.aT.dg<=1048576)/\(0<=o.aT.dS/\o.aT.dS<=63)/\(o.fc=1\/o.fc=2)/\(128<=o.aY/\o.aY<134217856)/\(0<=o.gg/\o.gg<134217856):=by
 have st:j5 o.aT=true->(0<=o.aT.dg/\o.aT.dg<=1048576)/\(0<=o.aT.dS/\o.aT.dS<=63):=λh=>by
  grind [j5]
 unfold cJ at h;split at h
 ·rename_i hk;simp only [Bool.and_eq_true] at h;obtain ⟨h1,_,h2⟩:=h;unfold uY at h2;simp only [Bool.and_eq_true] at h2;obtain ⟨a,b⟩:=st h1;exact ⟨a,b, .inl hk,Mr h2.1,abx h2.2.1⟩
 ·split at h
  ·rename_i hk;simp only [Bool.and_eq_true] at h;obtain ⟨h1,_,h2⟩:=h;unfold wH at h2;simp only [Bool.and_eq_true,decide_eq_true_eq] at h2;obtain ⟨a,b⟩:=st h1;exact ⟨a,b, .inr hk,Mr h2.1,om⟩
  ·cases h
structure wI where
 Ms:Bool
 Mt:Bool
 tN:aI
def Mu (l:List aI) (o:aH):Bool:=decide (o.gg=o.aY)||(kq l l.length o.gg).contains o.aY
def yg (id:Int):aI:=⟨id,-1,[],⟨0,0⟩,[],⟨0,0⟩⟩
def pf (n:aI) (o:aH):aI:=if o.fc=1 then ⟨n.bc,o.gg,o.j4,o.aT,n.ov,n.FW⟩ else ⟨n.bc,n.gh,n.fm,n.mA,o.j3,o.aT⟩
def yh (l:List aI) (o:aH):Bool:=fH l && (cJ o && !(decide (o.fc=1) && Mu l o))
def gG (l:List aI) (id:Int):Nat:=if lb l id=true then cZ l id+1 else cZ l id
def jm (l:List aI) (o:aH):List aI:=if yh l o=true then l.take (cZ l o.aY)++[pf ((iD l o.aY).getD (yg o.aY)) o]++l.drop (gG l o.aY) else l
def lf (l:List aI) (o:aH):wI:=if yh l o=true then ⟨true,lb l o.aY,(iD l o.aY).getD FZ⟩ else ⟨false,false,FZ⟩
theorem SO (n:aI) (o:aH):(pf n o).bc=n.bc:=by grind [pf]
theorem I4 {l:List aI} {o:aH} {n:aI} (h:n∈jm l o):n∈l\/(yh l o=true/\n=pf ((iD l o.aY).getD (yg o.aY)) o/\n.bc=o.aY):=by
 unfold jm at h;split at h
 ·rcases List.mem_append.1 h with h|h
  ·rcases List.mem_append.1 h with h|h
   ·grind
   ·rw [List.mem_singleton] at h;refine .inr ⟨by assumption,h,?_⟩;rw [h,SO];cases hf:iD l o.aY with
    |none=>rfl
    |some m=>exact (yf hf).2.1
  grind
 ·exact .inl h
theorem SL (l:List aI) (o:aH):(jm l o).length<=l.length+1:=by
 unfold jm;split
 ·have h1:=FY l o.aY;have h2:cZ l o.aY<=gG l o.aY:=by grind [gG]
  grind
 ·omega
section
variable {α:Type} (lt:α->α->Bool)
end
theorem S0:∀ (l p:List UInt8) (n m u:Nat),p=jf 10 n->jo n p.length l=some (m,u)->bW m=(p++l).take u
 |[],_,_,_,_,_,h=>by simp [jo] at h
 |c::l,p,n,m,u,hp,h=>by
  have hcl:=UInt8.toNat_lt c
  by_cases hs:(p.length=0/\c.toNat=128)\/72057594037927935<n
  ·grind [SP]
  ·by_cases hlast:c.toNat<128
   ·rw [Mw _ _ _ _ hs hlast] at h;simp only [Option.some.injEq,Prod.mk.injEq] at h;obtain ⟨rfl,rfl⟩:=h;unfold bW;rw [show (n*128+c.toNat) / 128=n from om,show (n*128+c.toNat) % 128=c.toNat from om,<-hp,UInt8.ofNat_toNat];grind
   ·rw [Mx _ _ _ _ hs hlast] at h;have hn':n*128+c.toNat % 128≠0:=by
     intro h0;have hn0:n=0:=om;have:p=[]:=by rw [hp,hn0];rfl
     grind
    have hp':p++[c]=jf 10 (n*128+c.toNat % 128):=by
     rw [show jf 10 (n*128+c.toNat % 128)=jf 9 ((n*128+c.toNat % 128) / 128)++[UInt8.ofNat ((n*128+c.toNat % 128) % 128+128)] from by
      grind [jf]]
     rw [show (n*128+c.toNat % 128) / 128=n from om,show (n*128+c.toNat % 128) % 128+128=c.toNat from om,UInt8.ofNat_toNat,hp,Bn 9 10 n om om]
    have ih:=S0 l (p++[c]) (n*128+c.toNat % 128) m u hp' (by grind);grind
theorem abH (l:List UInt8) (m u:Nat) (h:gI l=some (m,u)):bW m=l.take u:=by
 have:=S0 l [] 0 m u rfl h;simpa using this
theorem abG (f a b:Nat) (h:a<=b):gH f a<=gH f b:=by
 induction f generalizing a b with
 |zero=>exact Nat.le_refl _
 |succ f ih=>
  unfold gH;have:=ih (a / 128) (b / 128) (Nat.div_le_div_right h);grind
theorem Dq (a b:Nat) (h:a<=b):jn a<=jn b:=abG _ _ _ h
end Gw
namespace Go.Proofs.YtffboamedcmpaaaGreatDoor
open Gw
def pL (l:List UInt8):Option (Nat×Nat):=
 match gI l with
 |none=>none
 |some (n,u)=>if n+u<=l.length then some (n,u) else none
end Go.Proofs.YtffboamedcmpaaaGreatDoor
namespace Gw
def wM (x:Nat):Nat:=(x*2 % 4294967296)^^^(if x<2147483648 then 0 else 79764919)
def Jb:Nat->Nat->Nat
 |0,x=>x
 |k+1,x=>wM (Jb k x)
def F5 (n c:Nat):Nat:=Jb 8 (n^^^(c*16777216))
def u0 (n:Nat) (l:List UInt8):Nat:=l.foldl (λn c=>F5 n c.toNat) n
def rn (l:List UInt8):Nat:=u0 4294967295 l
def rm (n:Nat):List UInt8:=[UInt8.ofNat (n / 16777216),UInt8.ofNat (n / 65536),UInt8.ofNat (n / 256),UInt8.ofNat n]
def mU (l:List UInt8):List UInt8:=l++rm (rn l)
theorem ME (x:Nat):wM x<4294967296:=by
 unfold wM;refine Nat.xor_lt_two_pow (n:=32) om ?_;split<;>omega
theorem abJ {x:Nat} (h:x<2147483648):wM x=x*2 % 4294967296:=by simp [wM,h]
theorem abI {x:Nat} (h:¬x<2147483648):wM x=(x*2 % 4294967296)^^^79764919:=by simp [wM,h]
theorem S1 (n c:Nat):F5 n c<4294967296:=ME _
theorem abL (n:Nat) (l:List UInt8) (h:n<4294967296):u0 n l<4294967296:=by
 induction l generalizing n with
 |nil=>exact h
 |cons c l ih=>exact ih _ (S1 _ _)
theorem S2 (l:List UInt8):rn l<4294967296:=abL _ _ om
theorem abK (n:Nat) (a b:List UInt8):u0 n (a++b)=u0 (u0 n a) b:=by simp [u0]
theorem abM (n:Nat) (a:List UInt8) (c:UInt8):u0 n (a++[c])=F5 (u0 n a) c.toNat:=by simp [u0]
theorem R9:∀ (l:List UInt8) (n i m u:Nat),jo n i l=some (m,u)->i<u/\u<=i+l.length
 |[],n,i,m,u,h=>by simp [jo] at h
 |c::l,n,i,m,u,h=>by
  rw [jo] at h;rw [List.length_cons];split at h
  ·trivial
  ·split at h
   ·grind
   ·have:=R9 l _ _ _ _ h;omega
theorem aaW (l:List UInt8) {m u:Nat} (h:gI l=some (m,u)):0<u/\u<=l.length:=by
 have:=R9 l 0 0 m u h;omega
def gb (lsn:Nat):Nat:=lsn % 250+1
def jk (lsn:Nat) (p:List UInt8):List UInt8:=jA [] (mU (jA (bW lsn) p))
def nC (m:Nat) (c:List UInt8):List UInt8:=UInt8.ofNat m::((c++List.replicate (14 - c.length) 0)++[UInt8.ofNat m])
def lX (b:List UInt8) (i:Nat):List UInt8:=(b.drop (14*i)).take 14
def oo (m:Nat) (b:List UInt8) (k:Nat):List UInt8:=(List.range k).flatMap λi=>nC m (lX b i)
theorem L9 (m:Nat) (b:List UInt8) (k:Nat):oo m b (k+1)=oo m b k++nC m (lX b k):=by
 grind [oo,List.range_succ]
theorem Bb (b:List UInt8) (i:Nat):(lX b i).length=min 14 (b.length - 14*i):=by grind [lX]
theorem Mb (m:Nat) {c:List UInt8} (h:c.length<=14):(nC m c).length=16:=by grind [nC]
theorem Bc (m:Nat) (b:List UInt8):∀ k,(oo m b k).length=16*k
 |0=>rfl
 |k+1=>by rw [L9,List.length_append,Bc m b k,Mb m (by rw [Bb];omega)];omega
def fG (b:List UInt8):Nat:=(b.length+13) / 14
def iW (lsn:Nat) (p:List UInt8):List UInt8:=oo (gb lsn) (jk lsn p) (fG (jk lsn p))
def ka (lsn:Int) (p:List UInt8):Bool:=decide (1<=lsn) && (decide (lsn<=1000000) && decide (p.length<=40000))
def wy (lsn:Int) (p:List UInt8):List UInt8:=if ka lsn p=true then iW lsn.toNat p else []
def wA (lsn:Int) (p:List UInt8):Int:=if ka lsn p=true then 0 else 130
def ko (s:List UInt8) (k:Nat):List UInt8:=(s.take (16*k+16)).drop (16*k)
def pM (c:List UInt8):List UInt8:=(c.take 15).drop 1
def su (s b piece:List UInt8) (need:Nat):Bool×Nat:=
 if need=0 then (match gI piece with|none=>(true,0)|some (n,u)=>if s.length<n then (true,0) else (decide (u+n<=b.length),u+n)) else (decide (need<=b.length),need)
def wB (s:List UInt8) (m:Nat):Nat->Nat->List UInt8->Nat->List UInt8×Nat
 |0,_,b,need=>(b,need)
 |f+1,k,b,need=>if 16*k+16<=s.length then
   (if ((ko s k).getD 0 0).toNat≠m\/((ko s k).getD 15 0).toNat≠m then (b,need) else
    if (su s (b++pM (ko s k)) (pM (ko s k)) need).1=true then (b++pM (ko s k),(su s (b++pM (ko s k)) (pM (ko s k)) need).2)
    else wB s m f (k+1) (b++pM (ko s k)) (su s (b++pM (ko s k)) (pM (ko s k)) need).2)
  else (b,need)
def uV (r:List UInt8×Nat):List UInt8:=if r.2=0\/r.1.length<r.2 then [] else r.1
def uU (s:List UInt8) (m:Nat):List UInt8:=uV (wB s m (s.length+1) 0 [] 0)
theorem R2 {s:List UInt8} {k:Nat} (h:16*k+16<=s.length):(ko s k).length=16:=by grind [ko]
theorem RU {c:List UInt8} (h:c.length=16):(pM c).length=14:=by grind [pM]
def qw (s:List UInt8):Option (List UInt8×List UInt8):=match gI s with
 |none=>none
 |some (n,u)=>if n+u<=s.length then some ((s.drop u).take n,s.drop (u+n)) else none
def x7 (s:List UInt8):Option (List UInt8):=if 4<=s.length/\rm (rn (s.take (s.length - 4)))=s.drop (s.length - 4) then some (s.take (s.length - 4)) else none
def sj (p s:List UInt8):Bool:=decide (p.length<=s.length) && decide (s.take p.length=p)
def Dc (s:List UInt8) (lsn:Int) (p:List UInt8):Option (List UInt8×Nat):=
 if ka lsn p=true then (if sj (iW lsn.toNat p) s=true then some (p,(iW lsn.toNat p).length / 16) else none) else none
def zr (s:List UInt8) (lsn:Int) (b:List UInt8):Option (List UInt8×Nat):=match gI b with
 |none=>none
 |some (_,u)=>match qw (b.drop u) with
  |none=>none
  |some (p,_)=>Dc s lsn p
def uT (s:List UInt8) (lsn:Int) (x:List UInt8):Option (List UInt8×Nat):=match qw x with
 |none=>none
 |some (y,_)=>match x7 y with
  |none=>none
  |some b=>zr s lsn b
def lY (s:List UInt8) (lsn:Int):Option (List UInt8×Nat):=
 if lsn<1\/1000000<lsn then none else uT s lsn (uU s (gb lsn.toNat))
theorem R7 (s:List UInt8) (m:Nat):∀ (f k:Nat) (b:List UInt8) (need:Nat),b.length<=s.length->b.length<=16*k->(wB s m f k b need).1.length<=s.length
 |0,k,b,need,h,h2=>h
 |f+1,k,b,need,h,h2=>by
  rw [wB];split
  ·rename_i hf;have e:=RU (R2 hf);have h3:(b++pM (ko s k)).length<=s.length:=by grind
   split
   ·exact h
   ·split
    ·exact h3
    ·exact R7 s m f (k+1) _ _ h3 (by grind)
  ·exact h
theorem aaU (s:List UInt8) (m:Nat):(uU s m).length<=s.length:=by
 grind [uU,uV,R7]
theorem R5 {s x y:List UInt8} (h:qw s=some (x,y)):x.length<=s.length:=by
 grind [qw]
theorem aaO {s x:List UInt8} (h:x7 s=some x):x.length<=s.length:=by
 grind [x7]
def Ba:Nat->List UInt8->Int->List (List UInt8)->Nat->List (List UInt8)×Nat
 |0,_,_,acc,n=>(acc,n)
 |f+1,s,lsn,acc,n=>match lY (s.drop (16*n)) lsn with
  |none=>(acc,n)
  |some (p,k)=>Ba f s (lsn+1) (acc++[p]) (n+k)
def lG (s:List UInt8) (lsn:Int):List (List UInt8)×Nat:=Ba (s.length+1) s lsn [] 0
theorem Bd {s:List UInt8} {lsn:Int} {p:List UInt8} {k:Nat} (h:lY s lsn=some (p,k)):ka lsn p=true/\sj (iW lsn.toNat p) s=true/\k=(iW lsn.toNat p).length / 16:=by
 unfold lY uT zr Dc at h;grind
theorem RR (n:Nat) (p:List UInt8):0<(jk n p).length:=by
 grind [jk,jA,bW]
theorem FL {s:List UInt8} {lsn:Int} {p:List UInt8} {k:Nat} (h:lY s lsn=some (p,k)):0<k/\16*k<=s.length:=by
 obtain ⟨_,h2,rfl⟩:=Bd h;have hb:=RR lsn.toNat p;unfold sj at h2;rw [Bool.and_eq_true,decide_eq_true_eq] at h2;have e:(iW lsn.toNat p).length=16*fG (jk lsn.toNat p):=Bc _ _ _;have:0<fG (jk lsn.toNat p):=by unfold fG;omega
 omega
theorem FJ (b:List UInt8):b.length<=14*fG b/\14*fG b<=b.length+13:=by unfold fG;omega
theorem L8 (m:Nat) (b:List UInt8) (k:Nat):∀ N,k<N->∃ t,oo m b N=oo m b k++(nC m (lX b k)++t)
 |0,h=>absurd h (Nat.not_lt_zero _)
 |N+1,h=>by
  rw [L9]
  by_cases e:k=N
  ·simp_all
  ·obtain ⟨t,ht⟩:=L8 m b k N om;simp_all
theorem RX (n:Nat):0<gb n/\gb n<256:=by unfold gb;omega
theorem L6 (n:Nat):(UInt8.ofNat (gb n)).toNat=gb n:=by have:=RX n;simp;omega
def lW (n:Nat) (p:List UInt8):List UInt8:=bW n++bW p.length++p
theorem IN (n:Nat) (p:List UInt8):jk n p=bW (mU (lW n p)).length++mU (lW n p):=by
 trivial
theorem FK (l:List UInt8):(mU l).length=l.length+4:=by unfold mU rm;simp
theorem oW {n:Nat} (h:n<9223372036854775808):(bW n).length<=9:=by
 grind [zC,Dl]
theorem zq {lsn:Int} {p:List UInt8}:ka lsn p=true↔1<=lsn/\lsn<=1000000/\p.length<=40000:=by
 grind [ka]
theorem L5 {a b:List UInt8} (h:sj a b=true):∃ r,b=a++r:=by
 unfold sj at h;rw [Bool.and_eq_true,decide_eq_true_eq,decide_eq_true_eq] at h;exact ⟨b.drop a.length,by conv=>lhs;rw [<-List.take_append_drop a.length b,h.2]⟩
theorem Db (n:Nat) (p:List UInt8):(iW n p).length=16*fG (jk n p):=Bc _ _ _
theorem aaM (n:Nat) (p:List UInt8):0<fG (jk n p):=by grind [RR,fG]
theorem RT {n:Nat} (p rest:List UInt8):((iW n p++rest).getD 0 0).toNat=gb n:=by
 obtain ⟨t,ht⟩:=L8 (gb n) (jk n p) 0 (fG (jk n p)) (aaM n p);unfold iW;rw [ht];exact L6 n
theorem aaS (lsn:Int):lY [] lsn=none:=by
 rcases h:lY [] lsn with _|⟨p,k⟩
 ·rfl
 ·have:=FL h;grind
inductive xZ:List UInt8->Int->List (List UInt8)->Nat->Prop
 |Da {s:List UInt8} {lsn:Int}:lY s lsn=none->xZ s lsn [] 0
 |FI {s:List UInt8} {lsn:Int} {p:List UInt8} {k:Nat} {l:List (List UInt8)} {m:Nat}:lY s lsn=some (p,k)->xZ (s.drop (16*k)) (lsn+1) l m->xZ s lsn (p::l) (k+m)
theorem RQ:∀ (f:Nat) (s:List UInt8) (lsn:Int) (acc:List (List UInt8)) (n:Nat),s.length<f+n->∃ l m,xZ (s.drop (16*n)) lsn l m/\Ba f s lsn acc n=(acc++l,n+m)
 |0,s,lsn,acc,n,h=>⟨[],0, .Da (by grind [List.drop_of_length_le,aaS]),by simp [Ba]⟩
 |f+1,s,lsn,acc,n,h=>by
  rw [Ba];rcases ht:lY (s.drop (16*n)) lsn with _|⟨p,k⟩
  ·exact ⟨[],0, .Da ht,by simp⟩
  ·have hb:=FL ht;obtain ⟨l,m,h1,h2⟩:=RQ f s (lsn+1) (acc++[p]) (n+k) om;refine ⟨p::l,k+m, .FI ht (by grind [List.drop_drop]),?_⟩;grind
theorem L4 (s:List UInt8) (lsn:Int):xZ s lsn (lG s lsn).1 (lG s lsn).2:=by
 obtain ⟨l,m,h1,h2⟩:=RQ (s.length+1) s lsn [] 0 om;grind [lG]
def sn:List (List UInt8)->Int->List UInt8
 |[],_=>[]
 |p::l,n=>iW n.toNat p++sn l (n+1)
theorem R0:∀ (l k:List (List UInt8)) (n:Int),sn (l++k) n=sn l n++sn k (n+l.length)
 |[],k,n=>by simp [sn]
 |p::l,k,n=>by
  rw [List.cons_append,sn,sn,R0 l k (n+1),List.append_assoc,List.length_cons,show n+1+(l.length:Int)=n+((l.length+1:Nat):Int) by omega]
section
def ew (l:List UInt8):ByteArray:=⟨l.toArray⟩
theorem aa2 (l:List UInt8):(ew l).data.toList=l:=rfl
theorem Mf (l:List UInt8):(ew l).size=l.length:=rfl
structure eD where
 aW:dL
 cV:Nat
 IS:Nat
 cQ:Nat
 kK:Nat
 gf:Nat
 FO:Nat
 cD:List (List UInt8)
 nD:Bool
 gp:Nat
 oX:Nat
 mS:Nat
def De:eD:=⟨⟨0,⟨#[]⟩,[]⟩,0,0,0,0,0,0,[],false,0,0,0⟩
def fb (d:dL):Nat:=d.bE.toNat / 4
def oZ (d:dL) (seq:Nat):Nat:=if seq % 2=1 then fb d else 0
def gF (d:dL):Nat:=2*fb d
def tK (n:Nat):List UInt8:=List.replicate (n*16) 0
def gr (base:Nat) (st:List UInt8):List UInt8:=jA (bW base) st
def IV (t:List UInt8):Option (Nat×List UInt8):=match gI t with
 |none=>none
 |some (b,u)=>match qw (t.drop u) with
  |none=>none
  |some (st,rest)=>if rest=[]/\1<=b/\b<=1000001 then some (b,st) else none
def wE (s:List UInt8) (seq:Nat):Option (Nat×List UInt8):=match lY s (seq:Int) with
 |none=>none
 |some (t,_)=>IV t
def qx (s:List UInt8) (odd:Nat):Option (Nat×Nat×List UInt8):=match s with
 |[]=>none
 |c::_=>if 2<=c.toNat/\c.toNat<=201/\(c.toNat - 1) % 2=odd then (match wE s (c.toNat - 1) with|none=>none|some (b,st)=>some (c.toNat - 1,b,st)) else none
def IT (x y:Option (Nat×Nat×List UInt8)):Option (Nat×Nat×List UInt8):=match x,y with
 |none,y=>y
 |some x,none=>some x
 |some x,some y=>if x.1<y.1 then some y else some x
def yb (d:dL):Option (Nat×Nat×List UInt8):=IT (qx (pK d 0 (fb d)) 0) (qx (pK d (fb d) (fb d)) 1)
def jl (seq base:Nat) (st:List UInt8):List UInt8:=iW seq (gr base st)
def oY (size:Int):eD×Nat:=
 if fb (lV size)<(jl 1 1 []).length / 16 then (De,120)
 else (⟨lF (jZ (lV size) (oZ (lV size) 1) (ew (jl 1 1 []))),1,1,1,gF (lV size),0,0,[],false,0,0,0⟩,0)
def gP (w:eD):eD:=if w.nD=true then {w with aW:=lF w.aW,nD:=false} else w
def ot (w:eD) (p:List UInt8):eD×Nat×Nat:=
 if 40000<p.length\/1000000<w.cQ then (w,0,130) else ({w with cD:=w.cD++[p],cQ:=w.cQ+1},w.cQ,0)
def ou (w:eD):List UInt8:=sn w.cD ((w.gf+1:Nat):Int)
def j1 (w:eD):eD×Nat:=
 if w.gp≠0 then (w,140)
 else if w.aW.bE - (w.kK:Int)<((ou w).length / 16:Nat) then (w,120)
 else if w.cD=[] then (w,0)
 else ({gP w with aW:=jZ (gP w).aW w.kK (ew (ou w)),kK:=w.kK+(ou w).length / 16,gf:=w.cQ - 1,cD:=[]},0)
def kb (w:eD):eD:=
 if w.gp=0 then {w with aW:=lF w.aW,nD:=false,FO:=w.gf}
 else {w with aW:=lF w.aW,nD:=false,gp:=2,FO:=max w.gf (w.oX - 1)}
def jz (w:eD) (st:List UInt8):eD×Nat:=
 if w.gp≠0 then (w,140)
 else if 200<=w.cV then (w,193)
 else if fb w.aW<(jl (w.cV+1) w.cQ st).length / 16 then (w,120)
 else ({gP w with aW:=jZ (gP w).aW (oZ w.aW (w.cV+1)) (ew (jl (w.cV+1) w.cQ st)),gp:=1,oX:=w.cQ,mS:=w.cD.length},0)
def mv (w:eD):eD×Nat:=
 if w.gp≠2 then (w,140)
 else ({w with cV:=w.cV+1,IS:=w.oX,kK:=gF w.aW,gf:=max w.gf (w.oX - 1),cD:=w.cD.drop w.mS,aW:=jZ w.aW (gF w.aW) (ew (tK (w.aW.bE.toNat - gF w.aW))),nD:=true,gp:=0,oX:=0,mS:=0},0)
structure Sd where
 tJ:eD
 ya:List UInt8
 kJ:List (List UInt8)
 x9:Nat
def k9 (d:dL):List UInt8:=pK d (gF d) (d.bE - gF d)
def IX (d:dL) (seq base:Nat) (st:List UInt8):Sd:=
 ⟨⟨jZ (jZ d ((gF d+(lG (k9 d) base).2:Nat):Int) (ew (tK (d.bE.toNat - (gF d+(lG (k9 d) base).2))))) (oZ d (seq+1)) (ew (tK (fb d))),
  seq,base,base+(lG (k9 d) base).1.length,gF d+(lG (k9 d) base).2,base+(lG (k9 d) base).1.length - 1,base+(lG (k9 d) base).1.length - 1,[],true,0,0,0⟩,st,(lG (k9 d) base).1,0⟩
def iX (d:dL):Sd:=if ef d=false then ⟨De,[],[],140⟩ else match yb d with
 |none=>⟨De,[],[],140⟩
 |some (seq,base,st)=>IX d seq base st
theorem IY {d:dL} (hc:ef d=true) (a n:Nat) (h:((a+n:Nat):Int)<=d.bE):(pK d (a:Int) (n:Int)).length=16*n:=by
 rw [(aaG hc a n h).1,RO d hc _ _ om];omega
theorem Sg {d:dL} (hc:ef d=true) (l:List UInt8) (hl:l.length=d.jy.size):ef ⟨d.bE,⟨l.toArray⟩,[]⟩=true:=by
 obtain ⟨a,b,c,_⟩:=mr hc;have e:(⟨l.toArray⟩:ByteArray).size=l.length:=rfl;grind [ef]
theorem Sh {d:dL} (hc:ef d=true) (p:ByteArray):ef (jO d p)=true/\(jO d p).bE=d.bE/\(jO d p).cH=[]:=by
 have hs:=mr hc;have hfl:=IJ hc;unfold jO;rw [if_pos hc];refine ⟨Sg hc _ ?_,rfl,rfl⟩;rw [LU _ _ _ _ (λi hi=>?_)]
 ·rfl
 grind
theorem IU {d:dL} (hc:ef d=true):ef (lF d)=true/\(lF d).cH=[]/\(lF d).bE=d.bE:=by
 have hs:=mr hc;unfold lF;rw [if_pos hc];exact ⟨Sg hc _ (by grind [RO]),rfl,rfl⟩
theorem yc {d:dL} (hc:ef d=true) (a k:Nat) (s:List UInt8) (hk:s.length=16*k) (h:((a+k:Nat):Int)<=d.bE):
  ri d (a:Int) (ew s)=0/\(jZ d (a:Int) (ew s)).bE=d.bE/\ef (jZ d (a:Int) (ew s))=true/\(jZ d (a:Int) (ew s)).cH.length=d.cH.length+k:=by
 have hm:fC (ew s)=k:=by unfold fC;rw [Mf];omega
 have he:ri d (a:Int) (ew s)=0:=by grind [aaH]
 rw [aaI he];exact ⟨he,rfl,aax hc a (ew s) (by rw [hm];exact h),by grind [L3]⟩
def wD (q b:Nat) (st:List UInt8):Nat:=fG (jk q (gr b st))
def rj:List (List UInt8)->Nat->Nat
 |[],_=>0
 |p::l,n=>fG (jk n p)+rj l (n+1)
theorem Sj:∀ (l:List (List UInt8)) (n:Nat),(sn l (n:Int)).length=16*rj l n
 |[],_=>rfl
 |p::l,n=>by
  have h:=Sj l (n+1);grind [sn,Db,rj]
theorem IW {b:Nat} {st:List UInt8} (h2:b<=1000001) (hs:st.length<=1000):(gr b st).length<=1100:=by
 have h1:=oW (n:=b) om;have h2:=oW (n:=st.length) om;grind [gr,jA]
theorem Si {q b:Nat} {st:List UInt8} (h0:1<=q) (h1:q<=201) (h2:b<=1000001) (hs:st.length<=1000):ka (q:Int) (gr b st)=true:=by
 grind [IW,zq]
theorem FQ (q b:Nat) (st:List UInt8):(jl q b st).length=16*wD q b st:=Db _ _
theorem Sp {s:List UInt8} {q:Nat} {x:Nat×List UInt8} (h:wE s q=some x):∃ p k,lY s (q:Int)=some (p,k)/\IV p=some x:=by
 grind [wE]
theorem Mh {s:List UInt8} {odd q b:Nat} {st:List UInt8}:qx s odd=some (q,b,st)↔1<=q/\q<=200/\q % 2=odd/\wE s q=some (b,st):=by
 constructor
 ·intro h;unfold qx at h;grind
 ·rintro ⟨h1,h2,h3,h4⟩;obtain ⟨p,k,h5,_⟩:=Sp h4;obtain ⟨r,hr⟩:=L5 (Bd h5).2.1;have hm:=RT p r (n:=q);rw [Int.toNat_natCast] at hr;rw [<-hr] at hm;have h6:=(FL h5)
  match s,h6 with
  |[],h6=>simp at h6;omega
  |c::s,_=>
   have hc:c.toNat=q+1:=by have:c.toNat=gb q:=hm;unfold gb at this;omega
   unfold qx;simp_all
structure je (w:eD):Prop where
 pO:ef w.aW=true
 zu:w.aW.bE<=1000
 Md:1<=w.cV
 IP:w.cV<=200
 Sa:1<=w.IS
 sw:w.cQ=w.gf+1+w.cD.length
 x8:w.cQ<=1000001
 FN:(w.kK:Int)<=w.aW.bE
 Dd:∀ p∈w.cD,p.length<=200
 wC:w.gp≠0->w.cV<200/\w.oX=w.gf+1+w.mS/\w.mS<=w.cD.length
variable {w:eD}
theorem je.zt (h:je w):0<=w.aW.bE:=(mr h.pO).1
theorem FR (d:dL) (q:Nat):oZ d q+fb d<=gF d:=by grind [oZ,gF]
theorem Be (d:dL):gF d<=d.bE.toNat:=by unfold gF fb;omega
theorem je.aaX (h:je w) {p:List UInt8} (hp:p.length<=200):je (ot w p).1:=by
 unfold ot;split
 ·exact h
 ·exact {h with
   sw:=by grind [h.sw]
   x8:=by simp only;omega
   Dd:=λq hq=>by
    rcases List.mem_append.1 hq with hq|hq
    ·exact h.Dd q hq
    simp_all
   wC:=λhm=>by have:=h.wC hm;grind}
theorem je.FM (h:je w) {d:dL} (h1:ef d=true) (h2:d.bE=w.aW.bE) (q:Bool):je {w with aW:=d,nD:=q}:=
 {h with pO:=h1,zu:=(by show d.bE<=_;rw [h2];exact h.zu),FN:=(by show _<=d.bE;rw [h2];exact h.FN)}
theorem je.Me (h:je w):je (gP w)/\(gP w).aW.bE=w.aW.bE:=by
 obtain ⟨a,_,c⟩:=IU h.pO;unfold gP;split
 ·exact ⟨h.FM a c _,c⟩
 ·exact ⟨h,rfl⟩
theorem je.IQ (h:je w):je (kb w):=by
 obtain ⟨a,_,c⟩:=IU h.pO;have h1:=h.FM a c false;unfold kb;split
 ·exact {h1 with}
 ·rename_i hm;exact {h1 with wC:=λ_=>h.wC hm}
theorem zw (n:Nat):(tK n).length=16*n:=by grind [tK]
theorem Sn (w:eD):(ou w).length=16*rj w.cD (w.gf+1):=Sj _ _
theorem je.Sc (h:je w):je (j1 w).1:=by
 obtain ⟨hs,hz⟩:=h.Me;have hl:=Sn w;have e:(gP w).gp=w.gp/\(gP w).cQ=w.cQ:=by grind [gP]
 unfold j1;split
 ·exact h
 split
 ·exact h
 split
 ·exact h
 obtain ⟨_,b2,b3,_⟩:=yc hs.pO w.kK _ (ou w) hl om;exact {hs.FM b3 b2 (gP w).nD with
  sw:=(by grind [h.sw])
  FN:=(by show _<=(jZ _ _ _).bE;rw [b2];simp only;omega)
  Dd:=(by simp)
  wC:=(by grind)}
theorem je.Sb (h:je w) (s:List UInt8):je (jz w s).1:=by
 obtain ⟨hs,hz⟩:=h.Me;have hl:=FQ (w.cV+1) w.cQ s;have e:(gP w).cD=w.cD/\(gP w).cQ=w.cQ/\(gP w).cV=w.cV:=by grind [gP]
 have h0:=h.zt;have h1:=FR w.aW (w.cV+1);have h2:=Be w.aW;unfold jz;split
 ·exact h
 split
 ·exact h
 split
 ·exact h
 obtain ⟨_,b2,b3,_⟩:=yc hs.pO (oZ w.aW (w.cV+1)) _ (jl (w.cV+1) w.cQ s) hl om;exact {hs.FM b3 b2 (gP w).nD with
  wC:=(by grind [hs.sw])}
theorem je.aa0 (h:je w):je (mv w).1:=by
 have h0:=h.zt;have h2:=Be w.aW;unfold mv;split
 ·exact h
 obtain ⟨m1,m2,m3⟩:=h.wC om;obtain ⟨_,b2,b3,_⟩:=yc h.pO (gF w.aW) _ (tK (w.aW.bE.toNat - gF w.aW)) (zw _) om;exact {h.FM b3 b2 true with
  Md:=(by simp only;omega)
  IP:=(by simp only;omega)
  Sa:=(by simp only;omega)
  sw:=(by have:=h.sw;simp only [List.length_drop];omega)
  FN:=(by show _<=(jZ _ _ _).bE;rw [b2];simp only;omega)
  Dd:=(λp hp=>h.Dd p (List.mem_of_mem_drop hp))
  wC:=(by grind)}
theorem aa3 {size:Int} (hs:size<=1000) (he:(oY size).2=0):je (oY size).1/\(oY size).1.cD=[]/\(oY size).1.aW.bE=max size 0/\(oY size).1.aW.cH=[]:=by
 unfold oY at he ⊢;split at he
 ·cases he
 rename_i hr;rw [if_neg hr];have hn:(lV size).bE=max size 0:=by grind [lV]
 have h0:ef (lV size)=true:=by
  obtain ⟨n,hn2⟩:∃ n:Nat,max size 0=(n:Int):=⟨(max size 0).toNat,om⟩;unfold lV ef;rw [hn2];have e:∀ k:Nat,(⟨(List.replicate k (0:UInt8)).toArray⟩:ByteArray).size=k:=λk=>by show ((List.replicate k (0:UInt8)).toArray).size=k;simp
  grind
 have hl:=FQ 1 1 [];have h1:=FR (lV size) 1;have h2:=Be (lV size);obtain ⟨_,b2,b3,_⟩:=yc h0 (oZ (lV size) 1) _ (jl 1 1 []) hl om;obtain ⟨c1,c2,c3⟩:=IU b3;refine ⟨⟨c1,?_,Nat.le_refl 1,(by show 1<=200;decide),Nat.le_refl 1,rfl,(by show 1<=1000001;decide),?_,by simp,by simp⟩,rfl,?_,c2⟩
 ·show (lF _).bE<=_;omega
 ·show _<=(lF _).bE;simp only;omega
 ·show (lF _).bE=_;omega
theorem Sk {d:dL} (hc:ef d=true):(k9 d).length=16*(d.bE.toNat - gF d):=by
 have h0:=(mr hc).1;have:=Be d;unfold k9;rw [show d.bE - (gF d:Int)=((d.bE.toNat - gF d:Nat):Int) by omega];grind [IY]
theorem Se {s:List UInt8} {n:Int} {l:List (List UInt8)} {m:Nat} (h:xZ s n l m):16*m<=s.length/\l.length<=m/\(∀ p∈l,p.length<=40000)/\(n<=1000001->n+l.length<=1000001):=by
 induction h with
 |Da e=>simp_all
 | @FI s n p k l m e _ ih=>
  have:=FL e;have:=zq.1 (Bd e).1;grind
theorem aa7 {s:List UInt8} {n:Int} {p:List UInt8} {k:Nat} (h:lY s n=some (p,k)):p.length<=s.length:=by
 obtain ⟨r,rfl⟩:=L5 (Bd h).2.1;have:=Db n.toNat p;have:=FJ (jk n.toNat p);have:p.length<=(jk n.toNat p).length:=by grind [jk,jA,mU]
 grind
theorem aa6 {s:List UInt8} {q b:Nat} {st:List UInt8} (h:wE s q=some (b,st)):1<=b/\b<=1000001/\st.length<=s.length:=by
 obtain ⟨p,k,h1,h2⟩:=Sp h;have h3:=aa7 h1;unfold IV at h2;split at h2
 ·cases h2
 split at h2
 ·cases h2
 rename_i e;split at h2
 ·rename_i hb;cases h2;have:=R5 e;grind
 ·cases h2
theorem Sf {d:dL} (hc:ef d=true) {q b:Nat} {st:List UInt8} (h:yb d=some (q,b,st)):1<=q/\q<=200/\1<=b/\b<=1000001/\st.length<=16*fb d:=by
 have h0:=(mr hc).1;have h2:=Be d;have key:∀ (a:Nat) o,a+fb d<=gF d->qx (pK d (a:Int) (fb d)) o=some (q,b,st)->1<=q/\q<=200/\1<=b/\b<=1000001/\st.length<=16*fb d:=λa o ha hs=>by
  have:=IY hc a (fb d) om;obtain ⟨p1,p2,_,p3⟩:=Mh.1 hs;have p4:=aa6 p3;omega
 have k0:=key 0 0 (by unfold gF;omega);have k1:=key (fb d) 1 (by unfold gF;omega);unfold yb IT at h;grind
theorem aa4 (d:dL):(iX d).x9=0\/(iX d).x9=140:=by
 unfold iX;split
 ·exact .inr rfl
 split
 ·exact .inr rfl
 ·exact .inl rfl
theorem aa5 {d:dL} (hs:d.bE<=1000) (hl:d.cH=[]) (h:(iX d).x9=0):je (iX d).tJ/\(iX d).tJ.cD=[]/\(iX d).tJ.aW.bE=d.bE/\(iX d).tJ.aW.cH.length<=2000/\(iX d).ya.length<=16*fb d/\(iX d).kJ.length<=d.bE.toNat/\∀ p∈(iX d).kJ,p.length<=40000:=by
 unfold iX at h ⊢;split at h
 ·cases h
 rename_i hc;have hc:ef d=true:=by simpa using hc
 rw [if_neg (by rw [hc];decide)];cases hb:yb d with
 |none=>rw [hb] at h;cases h
 |some x=>
 obtain ⟨q,b,s⟩:=x;obtain ⟨q1,q2,b1,b2,sl⟩:=Sf hc hb;obtain ⟨a1,a2,a3,a4⟩:=Se (L4 (k9 d) (b:Int));have a4:=a4 om;have h0:=(mr hc).1;have h1:=FR d (q+1);have h2:=Be d;rw [Sk hc] at a1;simp only [IX];generalize lG (k9 d) b=y at*;obtain ⟨R,m⟩:=y;dsimp only at*;obtain ⟨_,c2,c3,c4⟩:=yc hc (gF d+m) _ (tK (d.bE.toNat - (gF d+m))) (zw _) om;obtain ⟨_,d2,d3,d4⟩:=yc c3 (oZ d (q+1)) _ (tK (fb d)) (zw _) om;rw [hl,List.length_nil] at c4;have e:fb d=d.bE.toNat / 4:=rfl;refine ⟨⟨d3,?_,q1,q2,b1,?_,?_,?_,by simp,by simp⟩,trivial,om,om,sl,om,a3⟩
 ·simp only;omega
 ·simp only [List.length_nil];omega
 ·simp only;omega
 ·simp only;omega
theorem Sm (w:eD):(gP w).aW.cH.length<=w.aW.cH.length:=by
 grind [gP,lF]
theorem Mg (s:List UInt8):fC (ew s)=(s.length+15) / 16:=rfl
theorem je.aaZ (h:je w):(j1 w).1.aW.cH.length<=w.aW.cH.length+2000:=by
 have hsm:=h.zu;have h0:=h.zt;have hsl:=Sm w;have h1:=LZ (gP w).aW w.kK (ew (ou w));grind [Mg,j1]
theorem je.aaY (h:je w) (p:List UInt8):(jz w p).1.aW.cH.length<=w.aW.cH.length+2000:=by
 have hsm:=h.zu;have h0:=h.zt;have hsl:=Sm w;have hsz:fb w.aW=w.aW.bE.toNat / 4:=rfl;have h1:=LZ (gP w).aW (oZ w.aW (w.cV+1)) (ew (jl (w.cV+1) w.cQ p));grind [Mg,jz]
theorem je.aa1 (h:je w):(mv w).1.aW.cH.length<=w.aW.cH.length+2000:=by
 have hsm:=h.zu;have h0:=h.zt;have h1:=LZ w.aW (gF w.aW) (ew (tK (w.aW.bE.toNat - gF w.aW)));grind [Mg,zw,mv]
end
abbrev gS:=List (Nat×List UInt8×aI)
def gT (k:List UInt8):gS->Option aI
 |[]=>none
 |e::m=>if e.2.1=k then some e.2.2 else gT k m
def tP (k:List UInt8) (n:aI):gS->Option gS
 |[]=>none
 |e::m=>if e.2.1=k then some ((e.1,e.2.1,n)::m) else match tP k n m with
  |some l=>some (e::l)
  |none=>none
def Bo (k:List UInt8):gS->gS
 |[]=>[]
 |e::m=>if e.2.1=k then m else e::Bo k m
def ow (n:aI) (dir:Int):Bool:=decide (n.gh=dir) && j5 n.mA
def F3 (n:aI) (m:gS):Bool:=match gT n.fm m with
 |none=>true
 |some old=>!jQ n.mA old.mA
def zG (x:Nat×gS) (n:aI):Nat×gS:=match tP n.fm n x.2 with
 |some m=>(x.1,m)
 |none=>(x.1+1,x.2++[(x.1,n.fm,n)])
def Bs (dir:Int) (x:Nat×gS) (n:aI):Nat×gS:=if ow n dir=true then (if F3 n x.2=true then zG x n else x) else x
def ke (l:List aI) (dir:Int):Nat×gS:=l.foldl (Bs dir) (0,[])
def mT (l:List aI) (dir:Int) (s:List UInt8):Option aI:=if fH l=true then gT s (ke l dir).2 else none
def Bp (l:List aI):Int->List (List UInt8)->Int×Int
 |at_,[]=>(at_,0)
 |at_,s::r=>if fk at_=true then (match mT l at_ s with
  |some n=>Bp l n.bc r
  |none=>(0,80)) else (0,81)
def jq (l:List aI) (names:List (List UInt8)):Int×Int:=Bp l 0 names
theorem MB {k:List UInt8} {n:aI}:∀ {m:gS},gT k m=some n->∃ b,(b,k,n)∈m
 |e::m,h=>by
  rw [gT] at h;split at h
  ·grind
  ·obtain ⟨b,hb⟩:=MB h;grind
theorem SU {k:List UInt8}:∀ {m:gS},gT k m=none->k∉m.map (·.2.1)
 |[],_=>by simp
 |e::m,h=>by
  rw [gT] at h;split at h
  ·cases h
  ·rename_i hk;rw [List.map_cons,List.mem_cons];rintro (h1|h1)
   ·exact hk h1.symm
   ·exact SU h h1
theorem SV {b:Nat} {k:List UInt8} {n:aI}:∀ {m:gS},(m.map (·.2.1)).Nodup->(b,k,n)∈m->gT k m=some n
 |e::m,hd,h=>by
  rw [List.map_cons,List.nodup_cons] at hd;rw [gT];rcases List.mem_cons.1 h with rfl|h
  ·simp
  ·split
   ·simp_all
   ·exact SV hd.2 h
theorem MD (k:List UInt8) (n:aI):∀ m:gS,(tP k n m=none/\gT k m=none)\/
  ∃ m',tP k n m=some m'/\m'.map (·.1)=m.map (·.1)/\m'.map (·.2.1)=m.map (·.2.1)/\(∀ k',gT k' m'=if k'=k then some n else gT k' m)/\(∀ e∈m',e∈m\/e.2=(k,n))
 |[]=> .inl ⟨rfl,rfl⟩
 |e::m=>by
  rw [tP,gT]
  by_cases hk:e.2.1=k
  ·grind [gT]
  ·rw [if_neg hk,if_neg hk];rcases MD k n m with ⟨h1,h2⟩|⟨m',h1,h2,h3,h4,h5⟩
   ·simp_all
   grind [gT]
structure yi (x:Nat×gS):Prop where
 Dn:∀ e∈x.2,e.1<x.1
 wK:(x.2.map (·.1)).Nodup
 uZ:(x.2.map (·.2.1)).Nodup
 zD:∀ e∈x.2,e.2.2.fm=e.2.1
theorem abE {x:Nat×gS} (h:yi x) (n:aI):yi (zG x n):=by
 unfold zG;rcases MD n.fm n x.2 with ⟨h1,h2⟩|⟨m',h1,h2,h3,_,h5⟩
 ·rw [h1];have hn:=SU h2;refine ⟨λe he=>?_,?_,?_,λe he=>?_⟩
  ·rcases List.mem_append.1 he with he|he
   ·have:=h.Dn e he;grind
   simp_all
  ·show ((x.2++[(x.1,n.fm,n)]).map (·.1)).Nodup;rw [List.map_append,List.nodup_append];refine ⟨h.wK,by simp,λa ha b hb=>?_⟩;simp only [List.map_cons,List.map_nil,List.mem_singleton] at hb;obtain ⟨e,he,rfl⟩:=List.mem_map.1 ha;have:=h.Dn e he;omega
  ·show ((x.2++[(x.1,n.fm,n)]).map (·.2.1)).Nodup;grind [h.uZ]
  ·rcases List.mem_append.1 he with he|he
   ·exact h.zD e he
   simp_all
 ·rw [h1];have hm:∀ e∈m',e.1∈x.2.map (·.1):=λe he=>by grind
  refine ⟨λe he=>?_,by grind [h.wK],by grind [h.uZ],λe he=>?_⟩
  ·obtain ⟨y,hy,e1⟩:=List.mem_map.1 (hm e he);show e.1<x.1;rw [<-e1];exact h.Dn y hy
  ·rcases h5 e he with h6|h6
   ·exact h.zD e h6
   ·rw [h6]
theorem abD {x:Nat×gS} {n:aI} {e:Nat×List UInt8×aI} (h:e∈(zG x n).2):e∈x.2\/e.2.2=n:=by
 unfold zG at h;rcases MD n.fm n x.2 with ⟨h1,_⟩|⟨m',h1,_,_,_,h5⟩
 ·grind
 grind
theorem Dp (l:List aI) (dir:Int):yi (ke l dir)/\∀ e∈(ke l dir).2,e.2.2∈l/\ow e.2.2 dir=true:=by
 have key:∀ (l:List aI) (x:Nat×gS) (L:List aI),(∀ n∈l,n∈L)->yi x->(∀ e∈x.2,e.2.2∈L/\ow e.2.2 dir=true)->yi (l.foldl (Bs dir) x)/\∀ e∈(l.foldl (Bs dir) x).2,e.2.2∈L/\ow e.2.2 dir=true:=by
  intro l
  induction l with
  |nil=>simp_all
  |cons n l ih=>
   intro x L hL h1 h2;rw [List.foldl_cons];refine ih _ L (λm hm=>hL m (List.mem_cons_of_mem _ hm)) ?_ ?_
   ·grind [Bs,abE]
   ·unfold Bs;split
    ·rename_i hin;split
     ·intro e he;grind [abD]
     ·exact h2
    ·exact h2
 exact key l (0,[]) l (λ_ h=>h) ⟨(λe h=>by cases h),List.nodup_nil,List.nodup_nil,(λe h=>by cases h)⟩ (λe h=>by cases h)
theorem MA {l:List aI} {dir:Int} {s:List UInt8} {n:aI} (h:mT l dir s=some n):n∈l/\ow n dir=true/\n.fm=s:=by
 unfold mT at h;split at h
 ·obtain ⟨b,hb⟩:=MB h;obtain ⟨h1,h2⟩:=Dp l dir;exact ⟨(h2 _ hb).1,(h2 _ hb).2,h1.zD _ hb⟩
 ·cases h
structure dH where
 dx:List UInt8
 eM:Int
 wJ:List UInt8
def yj (l:List aI) (dir:Int):List (List UInt8):=if fH l=true then kN ((ke l dir).2.map (·.2.1)) else []
def iE (l:List aI) (outs:List Int) (dir:Int):gS:=(ke l dir).2.filter λe=>!outs.contains e.2.2.bc
def rl (path s:List UInt8):List UInt8:=path++[47]++s
def Bq (sub:Int->List UInt8->List dH) (path:List UInt8) (s:List UInt8) (n:aI):List dH:=
 ⟨rl path s,n.bc,n.ov⟩::(if fk n.bc=true then sub n.bc (rl path s) else [])
def qB (sub:Int->List UInt8->List dH) (m:gS) (path:List UInt8) (s:List UInt8):List dH:=match gT s m with
 |none=>[]
 |some n=>Bq sub path s n
def zF (sub:Int->List UInt8->List dH) (m:gS) (path:List UInt8):List dH:=(kN (m.map (·.2.1))).flatMap (qB sub m path)
def ku (l:List aI) (outs:List Int):Nat->Int->List UInt8->List dH
 |0,_,_=>[]
 |f+1,dir,path=>zF (ku l outs f) (iE l outs dir) path
def Br (l:List aI) (dir:Int):List Int:=dir::jS l dir
def eL (l:List aI) (dir:Int):List dH:=if fH l=true then ku l (Br l dir) l.length dir [] else []
theorem abC {m:gS} (hn:(m.map (·.2.1)).Nodup) {e:Nat×List UInt8×aI} (he:e∈m) (p:Nat×List UInt8×aI->Bool) (hp:p e=true):
  Bo e.2.1 (m.filter p)=m.filter (λx=>p x && !decide (x.2.1=e.2.1)):=by
 induction m with
 |nil=>cases he
 |cons a m ih=>
  grind [List.filter_congr,Bo]
theorem SX {l:List aI} {outs:List Int} {dir:Int} {e:Nat×List UInt8×aI} (h:e∈iE l outs dir):
  e∈(ke l dir).2/\e.2.2∈l/\ow e.2.2 dir=true/\e.2.2.fm=e.2.1/\e.2.2.bc∉outs:=by
 obtain ⟨h1,h2⟩:=List.mem_filter.1 h;obtain ⟨q1,q2⟩:=Dp l dir;exact ⟨h1,(q2 e h1).1,(q2 e h1).2,q1.zD e h1,by simpa using h2⟩
theorem MC (l:List aI) (outs:List Int) (dir:Int):yi ((ke l dir).1,iE l outs dir):=by
 have h:=(Dp l dir).1;have hs:(iE l outs dir).Sublist (ke l dir).2:=List.filter_sublist;exact ⟨λe he=>h.Dn e (hs.mem he),(hs.map _).nodup h.wK,(hs.map _).nodup h.uZ,λe he=>h.zD e (hs.mem he)⟩
theorem zE {l:List aI} {outs:List Int} {dir:Int} {s:List UInt8} {n:aI} (h:gT s (iE l outs dir)=some n):
  n∈l/\ow n dir=true/\n.fm=s/\n.bc∉outs:=by
 obtain ⟨b,hb⟩:=MB h;obtain ⟨_,h1,h2,h3,h4⟩:=SX hb;trivial
inductive nE (l:List aI) (outs:List Int) (top:Int):List Int->Int->Prop
 |rk:nE l outs top [] top
 |qA {ids:List Int} {dir:Int} {n:aI} (h:nE l outs top ids dir) (hn:n∈l) (hp:n.gh=dir) (ho:n.bc∉outs):nE l outs top (ids++[n.bc]) n.bc
theorem nE.SQ {l:List aI} {outs:List Int} {top:Int} {ids:List Int} {dir:Int} (h:nE l outs top ids dir):∀ i∈ids,(∃ n∈l,n.bc=i)/\i∉outs:=by
 induction h with
 |rk=>simp_all
 |qA h hn hp ho ih=>
  grind
theorem nE.My {l:List aI} (hc:fH l=true) {outs:List Int} {top:Int} (ht:top∈outs) {ids ids':List Int} {dir:Int} (h:nE l outs top ids dir) (h':nE l outs top ids' dir):ids=ids':=by
 induction h generalizing ids' with
 |rk=>
  cases h' with
  |rk=>rfl
  |qA _ _ _ ho=>exact absurd ht ho
 |qA h hn hp ho ih=>
  rename_i ids0 dir0 n;generalize hd:n.bc=d at h';cases h' with
  |rk=>simp_all
  |qA h2 hn2 hp2 ho2=>
   rename_i ids2 dir2 n2;have e:n=n2:=by
    have h1:=Bm hc hn;grind [Bm]
   grind
theorem nE.SR {l:List aI} (hc:fH l=true) {outs:List Int} {top:Int} (ht:top∈outs) {ids:List Int} {dir:Int} (h:nE l outs top ids dir):ids.Nodup:=by
 have pre:∀ {ids dir},nE l outs top ids dir->∀ i∈ids,∃ a,a.length<ids.length/\∃ b,ids=a++i::b/\nE l outs top (a++[i]) i:=by
  intro ids dir h
  induction h with
  |rk=>simp_all
  |qA h hn hp ho ih=>
   rename_i ids0 dir0 n;intro i hi;rcases List.mem_append.1 hi with hi|hi
   ·grind
   ·rw [List.mem_singleton] at hi;subst hi;exact ⟨ids0,by simp_all,[],rfl, .qA h hn hp ho⟩
 induction h with
 |rk=>trivial
 |qA h hn hp ho ih=>
  rename_i ids0 dir0 n;rw [List.nodup_append];refine ⟨ih,by simp,λa ha b hb=>?_⟩;rw [List.mem_singleton] at hb;subst hb;intro e;subst e;obtain ⟨a',h1,b,h2,h3⟩:=pre h n.bc ha;have:=h3.My hc ht (.qA h hn hp ho);simp_all
theorem nE.Ja {l:List aI} (hc:fH l=true) {outs:List Int} {top:Int} (ht:top∈outs) {ids:List Int} {dir:Int} (h:nE l outs top ids dir):ids.length<=l.length:=by
 have:=uW (l:=ids) (m:=l.map (·.bc)) (h.SR hc ht) λi hi=>by
  obtain ⟨⟨n,hn,rfl⟩,_⟩:=h.SQ i hi;grind
 simp_all
theorem SY {sub:Int->List UInt8->List dH} {m:gS} {path:List UInt8} {it:dH} (h:it∈zF sub m path):
  ∃ s n,s∈m.map (·.2.1)/\gT s m=some n/\it∈Bq sub path s n:=by
 grind [zF,qB,tM]
theorem F4 {l:List aI} {outs:List Int} {top:Int}:∀ (f:Nat) {ids:List Int} {dir:Int} {path:List UInt8},nE l outs top ids dir->∀ it∈ku l outs f dir path,∃ x suf,nE l outs top (ids++x::suf) it.eM/\∃ n∈l,n.bc=it.eM/\it.wJ=n.ov
 |0,_,_,_,_,it,h=>by cases h
 |f+1,ids,dir,path,hw,it,h=>by
  rw [ku] at h;obtain ⟨s,n,_,hf,hi⟩:=SY h;obtain ⟨h1,h2,h3,h4⟩:=zE hf;have hp:n.gh=dir:=by
   grind [ow]
  have hd:=nE.qA hw h1 hp h4;rcases List.mem_cons.1 hi with rfl|hi
  ·grind
  ·split at hi
   ·obtain ⟨x,suf,q1,q2⟩:=F4 f hd it hi;grind
   ·cases hi
theorem Mz {l:List aI} (hc:fH l=true) {outs:List Int} {top:Int} (ht:top∈outs):∀ (f:Nat) {ids:List Int} {dir:Int} {path:List UInt8},nE l outs top ids dir->(ku l outs f dir path).Pairwise λa b=>a.eM≠b.eM
 |0,_,_,_,_=> .nil
 |f+1,ids,dir,path,hw=>by
  rw [ku];unfold zF;have hm:=MC l outs dir;have hdown:∀ {s n},gT s (iE l outs dir)=some n->nE l outs top (ids++[n.bc]) n.bc/\n.fm=s/\n∈l:=fun {s n} hf=>by
   obtain ⟨h1,h2,h3,h4⟩:=zE hf;have hp:n.gh=dir:=by
    grind [ow]
   exact ⟨.qA hw h1 hp h4,h3,h1⟩
  have hone:∀ {s n},gT s (iE l outs dir)=some n->∀ it∈Bq (ku l outs f) path s n,∃ suf,nE l outs top (ids++n.bc::suf) it.eM:=fun {s n} hf it hi=>by
   have hd:=(hdown hf).1;rcases List.mem_cons.1 hi with rfl|hi
   ·exact ⟨[],hd⟩
   grind [F4]
  rw [List.pairwise_flatMap];refine ⟨λs _=>?_,?_⟩
  ·unfold qB;cases hf:gT s (iE l outs dir) with
   |none=>exact .nil
   |some n=>
    have hd:=(hdown hf).1;refine List.pairwise_cons.2 ⟨λit hi=>?_,?_⟩
    ·split at hi
     ·obtain ⟨x,suf,q1,_⟩:=F4 f hd it hi;intro e;have e:n.bc=it.eM:=e;rw [<-e] at q1;have:=congrArg List.length (q1.My hc ht hd);simp_all
     ·cases hi
    ·split
     ·exact Mz hc ht f hd
     ·exact .nil
  ·have hnd:(kN ((iE l outs dir).map (·.2.1))).Nodup:=(tM _).nodup_iff.2 hm.uZ;refine List.Pairwise.imp ?_ hnd;intro s s' hne it hi it' hi' e;unfold qB at hi hi';cases hf:gT s (iE l outs dir) with
   |none=>simp_all
   |some n=>
    cases hf':gT s' (iE l outs dir) with
    |none=>simp_all
    |some n'=>
     rw [hf] at hi;rw [hf'] at hi';obtain ⟨suf,w1⟩:=hone hf it hi;obtain ⟨suf',w2⟩:=hone hf' it' hi';rw [<-e] at w2;have:=w1.My hc ht w2;have:=List.append_cancel_left this;have hid:n.bc=n'.bc:=(List.cons.inj this).1;have e1:=Bm hc (hdown hf).2.2;grind [Bm]
theorem SS {l:List aI} (hc:fH l=true) {outs:List Int} {top:Int} (ht:top∈outs) (f:Nat) {ids:List Int} {dir:Int} {path:List UInt8} (hw:nE l outs top ids dir):(ku l outs f dir path).length<=l.length:=by
 have hn:=Mz hc ht f (path:=path) hw;have:=uW (l:=(ku l outs f dir path).map (·.eM)) (m:=l.map (·.bc)) (List.pairwise_map.2 hn) λi hi=>by
  grind [F4]
 simp_all
end Gw
namespace Go.Proofs.YtffboamedcmpaaaGreatDoor
structure jH (B:Nat) (w w':World):Prop extends Go.RowKit.Below B w w' where
 zH:w.drawn<=w'.drawn
theorem jH.rp (B:Nat) (w:World):jH B w w:=⟨Go.RowKit.Below.refl B w,Nat.le_refl _⟩
theorem jH.Je {B:Nat} {a b c:World} (h:jH B a b) (k:jH B b c):jH B a c:=⟨h.toBelow.trans k.toBelow,Nat.le_trans h.zH k.zH⟩
theorem jH.Jd {B B':Nat} {w w':World} (h:jH B w w') (hB:B'<=B):jH B' w w':=⟨h.toBelow.mono hB,h.zH⟩
theorem jH.Jc {B:Nat} {a w:World} (h:jH B a w):jH B a w.drew:=⟨h.toBelow.drew,Nat.le_trans h.zH (Nat.le_succ _)⟩
theorem jH.wN {B:Nat} {a w:World} (h:jH B a w) (hB:B<=w.heap.size) (o:Obj):jH B a (w.alloc o):=⟨h.toBelow.alloc hB o,h.zH⟩
theorem S5 {B:Nat} {a w:World} (h:jH B a w) (n:Nat):jH B a (w.drewN n):=⟨⟨h.os,h.tape,h.output,h.size,h.block⟩,Nat.le_trans h.zH (Nat.le_add_right _ _)⟩
structure F6 (w w':World) (row:Option Nat):Prop extends World.grownBy w w' row where
 S4:w.drawn<=w'.drawn
theorem jH.S3 {B:Nat} {a w w':World} {row:Option Nat} (h:jH B a w) (hg:F6 w w' row) (hB:B<=w.heap.size) (hr:∀ k,row=some k->B<=k):jH B a w':=⟨h.toBelow.grown hg.togrownBy hB hr,Nat.le_trans h.zH hg.S4⟩
theorem jH.Ds {B:Nat} {a w:World} (h:jH B a w):Go.RowKit.Below B a w/\a.drawn<=w.drawn:=⟨h.toBelow,h.zH⟩
open Go.RowKit
def pR (w:World) (base size:Nat) (v:Value) (n:Nat) (xs:List Value):Prop:=
 xs.length=n*size/\
 ((v= .slice none 0 0/\n=0)\/
  ∃ b off cap,v= .slice (some ⟨b,off,none⟩) n cap/\base<=b/\b<w.heap.size/\n<=cap/\cap<=maxLen/\
  (∀ j,j<cap*size->(w.cell? ⟨b,off+j,none⟩).isSome=true/\w.frozen? ⟨b,off+j,none⟩=false)/\
  (∀ j u,xs[j]? =some u->w.cell? ⟨b,off+j,none⟩=some u))
theorem S7 (b off j:Nat):(⟨b,off,none⟩:Addr).add j=⟨b,off+j,none⟩:=by grind [Addr.add]
theorem pR.abO {w w':World} {base size n:Nat} {v:Value} {xs:List Value} (h:pR w base size v n xs) (hs:w.heap.size<=w'.heap.size)
  (hb:∀ k,v.ownBlock=some k->w'.heap[k]? =w.heap[k]?):pR w' base size v n xs:=by
 refine ⟨h.1,?_⟩;rcases h.2 with h2|⟨b,off,cap,rfl,h3,h4,h5,h6,h7,h8⟩
 ·exact .inl h2
 ·have hk:=hb b rfl;grind [World.cell?_of_block,World.frozen?_of_block]
theorem pR.MF {w:World} {base size n:Nat} {v:Value} {xs:List Value} (h:pR w base size v n xs):∀ k,v.ownBlock=some k->base<=k/\k<w.heap.size:=by
 intro k hk;rcases h.2 with ⟨rfl,_⟩|⟨b,off,cap,rfl,h3,h4,_⟩
 ·cases hk
 ·cases hk;exact ⟨h3,h4⟩
theorem pR.abN {w w':World} {base size n B:Nat} {v:Value} {xs:List Value} (h:pR w base size v n xs) (hb:jH B w w') (hB:w.heap.size<=B):pR w' base size v n xs:=
 h.abO hb.size (λk hk=>hb.block k (Nat.lt_of_lt_of_le (h.MF k hk).2 hB))
theorem pR.S6 {w:World} {base size n:Nat} {v:Value} {xs:List Value} (h:pR w base size v n xs) (o:Obj):pR (w.alloc o) base size v n xs:=
 h.abN ((jH.rp _ _).wN (Nat.le_refl _) o) (Nat.le_refl _)
theorem Ta (b:Nat):∀ (vs:List Value) (o:Nat) (w:World) (k:Nat),k≠b->(w.setCells b o vs).heap[k]? =w.heap[k]?
 |[],_,_,_,_=>rfl
 |v::r,o,w,k,hk=>by
  rw [World.setCells,Ta b r (o+1) _ k hk];grind [Below.heap_setCell]
theorem MH (b:Nat):∀ (vs:List Value) (o:Nat) (w:World),(w.setCells b o vs).heap.size=w.heap.size
 |[],_,_=>rfl
 |v::r,o,w=>by rw [World.setCells,MH b r (o+1)];simp_all
theorem Tb (b:Nat):∀ (vs:List Value) (o:Nat) (w:World),F6 w (w.setCells b o vs) (some b)
 |[],_,w=>⟨⟨rfl,rfl,rfl,Nat.le_refl _,λ_ _ _=>rfl⟩,Nat.le_refl _⟩
 |v::r,o,w=>by
  have h:=Tb b r (o+1) (w.setCell ⟨b,o,none⟩ v);rw [World.setCells];exact ⟨⟨h.os,h.tape,h.output,by rw [MH];simp_all,λk _ hne=>by
   grind [Ta,Below.heap_setCell]⟩,h.S4⟩
theorem abQ (b:Nat) (vs:List Value) (o:Nat) (w:World) (x:Addr) (h:(w.cell? x).isSome=true):((w.setCells b o vs).cell? x).isSome=true:=by
 induction vs generalizing o w with
 |nil=>exact h
 |cons v r ih=>
  rw [World.setCells];refine ih (o+1) _ ?_;obtain ⟨u,hu⟩:=Option.isSome_iff_exists.1 h;obtain ⟨v',hv'⟩:=cell?_setCell_some (p:=⟨b,o,none⟩) (x:=v) hu;rw [hv'];rfl
section
variable {P:Program}
theorem abP (w:World) (base:Nat) (t tx ty e:TypeId) (i:TypeInfo) (z:Value) (size bytes:Nat) (ht:P.underlying t=some (.slice e)) (hi:P.info? e=some i) (hz:i.zero=some z)
  (hsize:i.size=size) (hby:i.bytes=bytes) (hzs:z.cells.size=size)
  (v:Value) (n:Nat) (xs:List Value) (hown:pR w base size v n xs) (x:Value) (m:Nat) (news:List Value) (hs:Src P size tx x m news w)
  (h63:n+m<=maxLen) (hbytes:(n+m)*bytes<=140737488355328) (hbase:base<=w.heap.size) (hmz:v= .slice none 0 0->0<m):
  ∃ v' w',(Builtin.append_ #[t,tx] ty #[v,x]).run P w= .ok v' w'/\pR w' base size v' (n+m) (xs++news)/\F6 w w' v.ownBlock/\(∃ a c,v'= .slice (some a) (n+m) c):=by
 subst hsize;subst hby;have hlen:(xs++news).length=(n+m)*i.size:=by rw [List.length_append,hown.1,hs.newsLen,Nat.add_mul]
 have h63':((n+m:Nat):Int)<=9223372036854775807:=by grind [maxLen]
 have fresh:∀ (C:Nat),n+m<=C->C<=maxLen->pR (w.drew.alloc (.cells ((xs++news).toArray++Builtin.zeroCells z.cells (C - (n+m))) e)) base i.size (.slice (some ⟨w.heap.size,0,none⟩) (n+m) C) (n+m) (xs++news):=by
  intro C hC hCm;have hcs:((xs++news).toArray++Builtin.zeroCells z.cells (C - (n+m))).size=C*i.size:=by
   rw [Array.size_append,size_zeroCells,hzs,List.size_toArray,hlen,<-Nat.add_mul];congr 1;omega
  refine ⟨hlen, .inr ⟨w.heap.size,0,C,rfl,hbase,by simp_all,hC,hCm,λj hj=>?_,λj u hu=>?_⟩⟩
  ·have h1:=World.cell?_alloc_mark w.drew ((xs++news).toArray++Builtin.zeroCells z.cells (C - (n+m))) e (0,0) (0+j);have h2:=World.frozen?_alloc_mark w.drew ((xs++news).toArray++Builtin.zeroCells z.cells (C - (n+m))) e 0 0 (0+j);simp_all
  ·have h1:=World.cell?_alloc_mark w.drew ((xs++news).toArray++Builtin.zeroCells z.cells (C - (n+m))) e (0,0) (0+j);have e1:(w.drew).heap.size=w.heap.size:=rfl;grind
 have hgr:∀ o row,F6 w (w.drew.alloc o) row:=λo row=>
  have h:=World.grownBy_alloc w.drew o row
  ⟨⟨h.os,h.tape,h.output,h.size,h.block⟩,Nat.le_succ _⟩
 rcases hown.2 with ⟨rfl,rfl⟩|⟨b,off,cap,rfl,h3,h4,h5,h6,h7,h8⟩
 ·have hx0:xs=[]:=by have:=hown.1;simpa using this
  subst hx0;have hm:=hmz rfl;have hr:=run_append_grow_src (P:=P) w t tx ty e i z ht hi hz none 0 0 [] (by trivial) x m news hs om h63' (growslice_fits om hbytes);grind [grownCap_ge,grownCap_le_maxLen]
 ·by_cases hroom:n+m<=cap
  ·have hml:news.length=m*i.size:=hs.newsLen;have hcap:n*i.size+news.length<=cap*i.size:=by rw [hml,<-Nat.add_mul];exact Nat.mul_le_mul_right _ hroom
   have hr:=run_append_room_src (P:=P) w t tx ty e i ht hi b off n cap x m news hs hroom
    (λj hj=>by rw [Nat.add_assoc];exact (h7 (n*i.size+j) om).1) (λj hj=>by rw [Nat.add_assoc];exact (h7 (n*i.size+j) om).2)
   refine ⟨_,_,hr,⟨hlen, .inr ⟨b,off,cap,rfl,h3,by rw [MH];exact h4,hroom,h6,λj hj=>?_,λj u hu=>?_⟩⟩,Tb b _ _ _,_,_,rfl⟩
   ·grind [World.frozen?_setCells,abQ]
   ·by_cases hj:j<xs.length
    ·rw [World.cell?_setCells_out b _ _ _ _ (λ_ _=>Or.inl (by grind))];grind
    ·rw [List.getElem?_append_right om] at hu;have hjn:j - xs.length<news.length:=(List.getElem?_eq_some_iff.1 hu).1;have h9:=World.cell?_setCells_in b news (off+n*i.size) w (λk hk=>by rw [Nat.add_assoc];exact (h7 (n*i.size+k) om).1) (j - xs.length) hjn;grind
  ·have holds:∀ j u,xs[j]? =some u->w.drew.cell? ((⟨b,off,none⟩:Addr).add j)=some u:=λj u hu=>by
    rw [S7];simp_all
   have hr:=run_append_grow_src (P:=P) w t tx ty e i z ht hi hz (some ⟨b,off,none⟩) n cap xs (run_firstCells_some w.drew i.size n ⟨b,off,none⟩ n cap xs hown.1 holds) x m news hs om h63' (growslice_fits om hbytes);grind [grownCap_ge,grownCap_le_maxLen]
theorem Te {w:World} {ops:Array Oper} {rest:List Oper} {o:Oper} {a:Act} {Q:Exit->Act->World->Prop} (hgd:o.guard=none) (s x:Operand) (t tx:TypeId)
  (ho:o.op= .call {callee:= .builtin .append,args:=#[s,x],argTypes:=#[t,tx]})
  (base:Nat) (e:TypeId) (i:TypeInfo) (z:Value) (size bytes:Nat) (ht:P.underlying t=some (.slice e)) (hi:P.info? e=some i) (hz:i.zero=some z)
  (hsize:i.size=size) (hby:i.bytes=bytes) (hzs:z.cells.size=size)
  (v:Value) (n:Nat) (xs:List Value) (hev:a.eval s=v) (hown:pR w base size v n xs) (xv:Value) (m:Nat) (news:List Value) (hxv:a.eval x=xv) (hs:Src P size tx xv m news w)
  (h63:n+m<=maxLen) (hbytes:(n+m)*bytes<=140737488355328) (hbase:base<=w.heap.size) (hmz:v= .slice none 0 0->0<m)
  (h:∀ v' w',pR w' base size v' (n+m) (xs++news)->F6 w w' v.ownBlock->(∃ a c,v'= .slice (some a) (n+m) c)->wpList P ops Q rest (a.put o.dst v') w'):wpList P ops Q (o::rest) a w:=by
 refine wpList_plain hgd λK hK=>?_
 obtain ⟨v',w',hr,h2,h3,h4⟩:=abP (P:=P) w base t tx o.type e i z size bytes ht hi hz hsize hby hzs v n xs hown xv m news hs h63 hbytes hbase hmz;unfold Oper.wp execOp;simp only [ho,resolve,invoke,builtin,Sem.run_bind,Sem.run_pure,Result.andThen_ok,List.map_toArray,List.map_cons,List.map_nil,hev,hxv,hr];exact hK _ _ (h v' w' h2 h3 h4)
end
def tQ (l:List UInt8):List Value:=l.map λc=>Value.int .u8 (c.toNat:Int)
theorem MG (l:List UInt8):(tQ l).length=l.length:=by simp [tQ]
theorem S9 (a b:List UInt8):tQ (a++b)=tQ a++tQ b:=by simp [tQ]
theorem S8 {P:Program} (w:World) (src dst e:TypeId) (s:ByteArray) (hs:P.underlying src=some .string) (hd:P.underlying dst=some (.slice e)) (he:P.underlying e=some (.int .u8)) (hmax:s.size<=maxLen) (base:Nat) (hb:base<=w.heap.size):
  ∃ W v,(convert src dst (.string s)).run P w= .ok v W/\jH w.heap.size w W/\pR W base 1 v s.size (tQ s.data.toList)/\(∃ c,v= .slice (some ⟨w.heap.size,0,none⟩) s.size c):=by
 have hge:=grownCap_ge w s.size 0 e;have hcm:=grownCap_le_maxLen w s.size 0 e hmax;have hdz:s.data.size=s.size:=rfl;have hsz:(bytesRow s (grownCap w s.size 0 e)).size=grownCap w s.size 0 e:=by
  grind [bytesRow]
 refine ⟨_,_,run_bytes_of_string w src dst e s hs hd he,((jH.rp _ _).Jc).wN (Nat.le_refl _) _,⟨by grind [MG], .inr ⟨w.heap.size,0,_,rfl,hb,?_,hge,hcm,λj hj=>?_,λj u hu=>?_⟩⟩,_,rfl⟩
 ·simp_all
 ·have e1:(w.drew).heap.size=w.heap.size:=rfl;have h1:=World.cell?_alloc_mark w.drew (bytesRow s (grownCap w s.size 0 e)) e ((bytesRow s (grownCap w s.size 0 e)).size,(bytesRow s (grownCap w s.size 0 e)).size+1) (0+j);have h2:=World.frozen?_alloc_mark w.drew (bytesRow s (grownCap w s.size 0 e)) e (bytesRow s (grownCap w s.size 0 e)).size ((bytesRow s (grownCap w s.size 0 e)).size+1) (0+j);grind
 ·have e1:(w.drew).heap.size=w.heap.size:=rfl;have h1:=World.cell?_alloc_mark w.drew (bytesRow s (grownCap w s.size 0 e)) e ((bytesRow s (grownCap w s.size 0 e)).size,(bytesRow s (grownCap w s.size 0 e)).size+1) (0+j);rw [e1] at h1;rw [h1,Nat.zero_add];have hj:j<s.size:=by
   grind [MG]
  rw [bytesRow_at s _ j hj];have hjd:j<s.data.toList.length:=hj;grind [tQ]
theorem Td {P:Program} (w:World) (src dst e:TypeId) (base:Nat) (v:Value) (n:Nat) (l:List UInt8) (hs:P.underlying src=some (.slice e)) (he:P.underlying e=some (.int .u8)) (hd:P.underlying dst=some .string) (h:pR w base 1 v n (tQ l)):
  (convert src dst v).run P w= .ok (.string ⟨l.toArray⟩) w:=by
 have hn:n=l.length:=by have:=h.1;grind [MG]
 subst hn;rcases h.2 with ⟨rfl,h0⟩|⟨b,off,cap,rfl,h3,h4,h5,h6,h7,h8⟩
 ·have:l=[]:=List.eq_nil_of_length_eq_zero h0;subst this;exact run_convert_bytes_nil w src e hs he 0 0 dst hd
 grind [run_convert_bytes_back,S7,tQ]
theorem Tc {P:Program} {w:World} {tx e':TypeId} (hk:P.underlying tx=some (.slice e')) (b c:Nat) (u:Value) (h1:u.oneCell'=true) (hc:w.cell? ⟨b,0,none⟩=some u):Src P 1 tx (.slice (some ⟨b,0,none⟩) 1 c) 1 [u] w:=by
 grind [Src.ofSlice,Addr.add]
end Go.Proofs.YtffboamedcmpaaaGreatDoor
