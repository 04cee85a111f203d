import Derived.Test.YtffboamedcmpaaaGreatDoorAp
set_option linter.all false
set_option maxHeartbeats 4000000
set_option maxRecDepth 100000
namespace Go.Proofs.YtffboamedcmpaaaGreatDoor
open Gw
open Go.Am
open Go.Proofs.Tryz Tryz
theorem aln (r:Int):(rJ r).2=0\/(rJ r).2=20:=by
 grind [rJ]
theorem Zk (r:Int):er prog 28 [.ax .i64 r] (.dn [pU (nJ r).1, .ax .i64 (nJ r).2]):=by
 have a:=aje r;have h:=aln r;unfold nJ;generalize rJ r=y at*;obtain ⟨m,e⟩:=y;dsimp only at*;rcases h with rfl|rfl
 .rw [ai dd];refine ic func28 ?_;refine cx ?_;exact mR.qA (.fj (.rA (.fj (.fC _) (.fj (.fC _) (.fj (.fC _) (.fj (.fC _) (.fj (.fC _) (.fj (.fC _) (.fj (.fC _) (.fj (.kd _ _ _) (.fj (.kd _ _ _) (.fj (.fC _) (.fj (.kd _ _ _) (.fj (.kd _ _ _) (.fj (.fC _) (.fj (.kd _ _ _) .kv))))))))))))))) (.fj (.fC _) .kv))
 .rw [ak dd];refine ic func28 ?_;refine cx ?_;exact mR.qA (.fj (.rA s9) (.fj (.fC _) .kv))
theorem Zj (x:fb) (l:x.bf.al.length<=1048576):er prog 27 [pU x] (.eD (vL x)):=by
 have i:=ali x.bf.gg x.bf.al l;have h:vL x=!(x.bf.al.any λt=>!t.gS):=by
  grind [vL]
 rw [h];generalize (x.bf.al.any λt=>!t.gS)=b at*;refine fS func27 ?_;exact jf
theorem Zi (x:fb) (t:ft):∀ (l:List ft) (n:Nat),mq x n (l++[t])=mq x n l++(if oe x (n+l.length) t=true then [((n+l.length:Nat):Int)] else [])
 |[],n=>by
  trivial
 |a::l,n=>by
  have i:=Zi x t l (n+1);rw [show n+1+l.length=n+(a::l).length by grind] at i;grind [mq]
theorem Rz (x:fb):∀ (l:List ft) (n:Nat),(mq x n l).length<=l.length
 |[],_=>aq _
 |a::l,n=>by
  have i:=Rz x l (n+1);show (if _ then _ else _:List Int).length<=_;grind
theorem alk (x:fb) (s:x.bf.al.length<=1000) (i:x.fg.fH.al.length<=1000000) (a:x.fm.iI.al.length<=1000000):er prog 119 [pU x] (.a8 (yY x).isEmpty 1 ((yY x).map l7) .dm):=by
 have e:(x.bf.al.map gx).length=x.bf.al.length:=ap _;refine ic func119 ?_
 conv=>whnf
 refine iE.CI 3 3 1 rfl rfl (.inr rfl) ?_;refine iE.gY (X:=Nat) (λk=>[(.ct 1, .bg (.c8 0 0)),(.ct 3, .bg (.a8 (mq x 0 (x.bf.al.take k)).isEmpty 1 ((mq x 0 (x.bf.al.take k)).map l7) (.je 7))),(.ct 12, .bg (gE 18 gx x.bf)),(.ct 13, .bg (.ax .i64 x.bf.al.length)),(.ct 14, .bg (.ax .i64 k)),(.ay 0, .dc 41 (Ha x)),
  (.eT 7, .eU 3 1 (mq x 0 (x.bf.al.take k)).length)]) 8 (λk=>k<=x.bf.al.length) (λk=>x.bf.al.length - k) dd 0 (ar _) ⟨rfl,rfl,rfl,rfl,rfl,rfl,?_,af⟩ ?_
 .show gC.bg (b9.ax .i64 ((x.bf.al.map gx).length:Nat))=_;rw [e]
 rintro k d;refine gk ?_;refine ab (λh=>?_) λh=>?_
 .have l:k<x.bf.al.length:=om;have g:=pV gx l;have j:=aD l;have n:=Rz x (x.bf.al.take k) 0;rw [aT,cj d] at n;have F:=Zi x x.bf.al[k] (x.bf.al.take k) 0;rw [<-j,aT,cj d,bZ] at F;have p:=akA x.fg k (av i dd);have w:=Zf x.fm k (av a dd);have o:=ak6 x.fm (av a dd);have z:IntKind.i64.wrap ((k:Int)+1)=((k+1:Nat):Int):=by grind [fq]
  generalize x.bf.al[k]=t at*;generalize mq x 0 (x.bf.al.take k)=L at*;refine cx ?_;refine ⟨λm=>?_,λm=>?_⟩
  .conv=>whnf
   have c:oe x k t=false:=by grind [oe]
   rw [c,ai dd,aH] at F;refine ⟨k+1,om,by grind,⟨rfl,rfl,?_,rfl,rfl,rfl,rfl,rfl,?_,rfl,rfl,rfl,?_,rfl,ae⟩⟩
   .show gC.bg _=gC.bg (b9.a8 (mq x 0 (x.bf.al.take (k+1))).isEmpty 1 ((mq x 0 (x.bf.al.take (k+1))).map l7) (.je 7));rw [F]
   .exact ix
   .show gC.eU _ 1 _=gC.eU _ 1 (mq x 0 (x.bf.al.take (k+1))).length;rw [F]
  .refine cx ?_;refine ⟨λr=>?_,λr=>?_⟩
   .conv=>whnf
    have c:oe x k t=false:=by grind [oe]
    rw [c,ai dd,aH] at F;refine ⟨k+1,om,by grind,⟨rfl,rfl,?_,rfl,rfl,rfl,rfl,rfl,?_,rfl,rfl,rfl,?_,rfl,ae⟩⟩
    .show gC.bg _=gC.bg (b9.a8 (mq x 0 (x.bf.al.take (k+1))).isEmpty 1 ((mq x 0 (x.bf.al.take (k+1))).map l7) (.je 7));rw [F]
    .exact ix
    .show gC.eU _ 1 _=gC.eU _ 1 (mq x 0 (x.bf.al.take (k+1))).length;rw [F]
   .refine cx ?_;refine ⟨λg=>?_,λg=>?_⟩
    .refine cx ?_;cases u:ED x.fm with
     |none=>
      refine kw ?_;have c:oe x k t=false:=by grind [oe]
      rw [c,ai dd,aH] at F;refine ⟨k+1,om,by grind,⟨rfl,rfl,?_,rfl,rfl,rfl,rfl,rfl,?_,rfl,rfl,rfl,?_,rfl,ae⟩⟩
      .show gC.bg _=gC.bg (b9.a8 (mq x 0 (x.bf.al.take (k+1))).isEmpty 1 ((mq x 0 (x.bf.al.take (k+1))).map l7) (.je 7));rw [F]
      .exact ix
      .show gC.eU _ 1 _=gC.eU _ 1 (mq x 0 (x.bf.al.take (k+1))).length;rw [F]
     |some y=>
      obtain ⟨first,v⟩:=y;refine gI ?_;refine ⟨λq=>?_,λq=>?_⟩
      .conv=>whnf
       have c:oe x k t=false:=by grind [oe]
       rw [c,ai dd,aH] at F;refine ⟨k+1,om,by grind,⟨rfl,rfl,?_,rfl,rfl,rfl,rfl,rfl,?_,rfl,rfl,rfl,?_,rfl,ae⟩⟩
       .show gC.bg _=gC.bg (b9.a8 (mq x 0 (x.bf.al.take (k+1))).isEmpty 1 ((mq x 0 (x.bf.al.take (k+1))).map l7) (.je 7));rw [F]
       .exact ix
       .show gC.eU _ 1 _=gC.eU _ 1 (mq x 0 (x.bf.al.take (k+1))).length;rw [F]
      .conv=>whnf
       have c:oe x k t=true:=by grind [oe]
       rw [c,ak rfl] at F;refine ⟨⟨(ap _).symm,ji (by grind) dd⟩,?_⟩
       conv=>whnf
       refine ⟨k+1,om,by grind,⟨rfl,rfl,?_,rfl,rfl,rfl,rfl,rfl,?_,rfl,rfl,rfl,?_,rfl,ae⟩⟩
       .show gC.bg (b9.a8 _ 1 _ _)=gC.bg (b9.a8 (mq x 0 (x.bf.al.take (k+1))).isEmpty 1 ((mq x 0 (x.bf.al.take (k+1))).map l7) (.je 7));rw [F,aU];cases L with
        |nil=>rfl
        |cons b f=>rfl
       .exact ix
       .show gC.eU _ 1 _=gC.eU _ 1 (mq x 0 (x.bf.al.take (k+1))).length;simp_all
    .conv=>whnf
     have c:oe x k t=true:=by grind [oe]
     rw [c,ak rfl] at F;refine ⟨⟨(ap _).symm,ji (by grind) dd⟩,?_⟩
     conv=>whnf
     refine ⟨k+1,om,by grind,⟨rfl,rfl,?_,rfl,rfl,rfl,rfl,rfl,?_,rfl,rfl,rfl,?_,rfl,ae⟩⟩
     .show gC.bg (b9.a8 _ 1 _ _)=gC.bg (b9.a8 (mq x 0 (x.bf.al.take (k+1))).isEmpty 1 ((mq x 0 (x.bf.al.take (k+1))).map l7) (.je 7));rw [F,aU];cases L with
      |nil=>rfl
      |cons b f=>rfl
     .exact ix
     .show gC.eU _ 1 _=gC.eU _ 1 (mq x 0 (x.bf.al.take (k+1))).length;simp_all
 .obtain rfl:k=x.bf.al.length:=om;rw [aN];exact fu
theorem alm (p:Int) {n:Nat} (h:0<n) (e:n<=1000):0<=(IntKind.i64.wrap (p.tmod n+n)).tmod n/\((IntKind.i64.wrap (p.tmod n+n)).tmod n).toNat=uy p n/\uy p n<n:=by
 have b:=cS p (show (0:Int)<n by omega);have a:=cS (-p) (show (0:Int)<n by omega);rw [Int.neg_tmod] at a;rw [fq om om];have c:=Int.tmod_nonneg (n:Int) (show 0<=p.tmod n+n by omega);have d:=cS (p.tmod n+n) (show (0:Int)<n by omega);grind [uy]
theorem Nk (x:fb) (p:Int) (c:x.bf.al.length<=1000) (f:x.fg.fH.al.length<=1000000) (d:x.fm.iI.al.length<=1000000):er prog 69 [pU x, .ax .i64 p] (.dn [.ax .i64 (((pB x p).map (·.1)).getD 0), .eD (((pB x p).map (·.2)).getD false), .eD (pB x p).isSome]):=by
 have k:=alk x c f d;have b:(yY x).length<=1000:=av (Rz x x.bf.al 0) c;unfold pB;generalize yY x=A at*;cases A with
 |nil=>
  refine fS func69 ?_;exact fu
 |cons a l=>
  obtain ⟨m,i,j⟩:=alm p (dh l.length) b;have e:(((a::l).map l7).length:Int)=((l.length+1:Nat):Int):=by simp_all
  have n:((a::l).map l7)[uy p (l.length+1)]? =some (l7 (((a::l)[uy p (l.length+1)]?).getD 0)):=by
   grind
  have g:=Zf x.fm (((a::l)[uy p (l.length+1)]?).getD 0) (av d dd);show er _ _ _ (.dn [.ax .i64 (((a::l)[uy p (l.length+1)]?).getD 0), .eD (mo x.fm (((a::l)[uy p (l.length+1)]?).getD 0)), .eD true]);generalize ((a::l)[uy p (l.length+1)]?).getD 0=z at*;refine fS func69 ?_;refine cx ?_;refine ⟨λh=>?_,λ_=>?_⟩
  .have h:=eq_of_beq h;rw [e] at h;omega
  conv=>whnf
  refine ⟨l7 z,⟨?_,?_⟩,?_⟩
  .rw [e];exact m
  .simp_all
  exact jf
def RA (c:fG) (z:Int):List b9:=[.ax .i64 c.gD, .cp c.fR, .cp c.kE, .cp c.lS, .ax .i64 c.g7, .a8 true 1 [] .dm, .ax .i64 0, .eD false, .eD false, .ax .i64 0, .ax .i64 z, .ax .i64 0, .ax .i64 0, .ax .i64 0, .cp [], .a8 true 1 [] .dm, .ax .i64 0, .a8 true 1 [] .dm]
theorem Zm (c:fG) {y z:Int} (h:y=z):qV (RA c y) (gx (w4 c z)):=by
 subst h;exact .fj (.fC _) (.fj (.fC _) (.fj (.fC _) (.fj (.fC _) (.fj (.fC _) (.fj (.fC _) (.fj (.fC _) (.fj (.fC _) (.fj (.fC _) (.fj (.fC _) (.fj (.fC _) (.fj (.fC _) (.fj (.fC _) (.fj (.fC _) (.fj (.fC _) (.fj (.fC _) (.fj (.fC _) (.fj (.kd _ _ _) .kv)))))))))))))))))
theorem Zl {q:Bool} {sz:Nat} {l:List (List b9)} {e c:List b9} (h:qV e c):mR (.a8 q sz (l++[e]) .dm) (.a8 q sz (l++[c]) .dm):=by
 refine Yq (by simp) λi a b f g=>?_
 rcases bu i l.length with d|d
 .grind [qV.IS]
 grind
theorem alp (l:List ft):kT (l.map gx).flatten=true:=AH (λ_=>rfl) l
theorem alo (x:fb) (c:fG) (h1:x.bf.al.length<=1000) (ht:0<=x.eZ/\x.eZ<1000000):er prog 35 [pU x,yc c] (.dn [pU (pC x c).1, .ax .i64 (pC x c).2.1, .ax .i64 (pC x c).2.2]):=by
 have hel:(x.bf.al.map gx).length=x.bf.al.length:=ap _;have w1:IntKind.i64.wrap (x.eZ+1)=x.eZ+1:=fq om om;unfold pC
 by_cases h40:40<=x.bf.al.length
 .rw [ak h40];refine ic func35 ?_
  conv=>whnf
  refine ⟨λ_=>?_,λh=>absurd (ag h) (by rw [hel];omega)⟩;exact fu
 .rw [ai h40];obtain ⟨model,table,group,⟨tq,T⟩,time,ops⟩:=x;dsimp only at*;cases T with
  |nil=>
   refine er.Hy jy (fn:=f35) eI rfl eI rfl rfl ?_;refine iE.Ad (wO jy m8 _ _ _ _ ?_)
   conv=>whnf
   refine kD (by rw [hel];omega) ?_
   conv=>whnf
   refine ⟨0,_,_,_,rfl,qx.Bx (aij _) rfl,rfl,?_⟩
   conv=>whnf
   refine ⟨⟨rfl,by show 0<1;decide,ji (by simp_all) dd⟩,?_⟩;refine cx ?_;refine BZ.B0 (.lM (BZ.Db ?_) (.lM (.qw rfl) (.lM (.qw rfl) .rf)))
   repeat (first|exact BZ.rf|refine BZ.lM (.qw rfl) ?_|fail "end")
   refine BZ.lM (.LF (.CJ (t:=78) (els:=[RA c (IntKind.i64.wrap (time+1))]) rfl rfl (λel hel=>by rw [aw] at hel;subst hel;rfl) (aq _) rfl rfl) (Zl (l:=[]) (Zm c w1))) ?_;refine BZ.lM (show Am.oI _ (.ax .i64 (IntKind.i64.wrap (time+1))) _ from by rw [w1];exact .qw rfl) ?_
   repeat (first|exact BZ.rf|refine BZ.lM (.qw rfl) ?_|fail "end")
  |cons s r=>
   have hcs:rE prog 74 [.a8 (gp.gg ⟨tq,s::r⟩) 18 ((s::r).map gx) .dm] 78 18 ((s::r).map gx).length ((s::r).map gx).flatten:=by
    grind [gp.gg,QY]
   refine er.Hy jy (fn:=f35) eI rfl eI rfl rfl ?_;refine iE.Ad (wO jy m8 _ _ _ _ ?_)
   conv=>whnf
   refine kD (by rw [hel];omega) ?_
   conv=>whnf
   refine ⟨0,_,_,_,rfl,qx.xT hcs rfl,rfl,?_⟩
   conv=>whnf
   refine ⟨(s::r).map gx,⟨rfl,λel hel=>by obtain ⟨z,_,rfl⟩:=aE.1 hel;rfl,rfl,alp _,ji (by grind) dd⟩,?_⟩;refine cx ?_;refine mR.qA (.fj (mR.rA ?_) (.fj (mR.qy (congrArg (λk:Nat=>b9.ax .i64 k) (ap _))) (.fj (.fC _) .kv)))
   repeat (first|exact qV.kv|refine qV.fj (mR.fC _) ?_|refine qV.fj (mR.kd _ _ _) ?_|fail "end")
   have hlast:∀ (L:List b9),L=RA c (IntKind.i64.wrap (time+1))->mR (b9.a8 false 18 ((s::r).map gx++[L]) .dm) (b9.a8 false 18 (((s::r)++[w4 c (time+1)]).map gx) .dm):=λL hL=>by
    grind [Zl,Zm]
   refine qV.fj (hlast _ rfl) ?_;exact qV.fj (mR.qy (congrArg (b9.ax .i64) w1)) s9
theorem Zn (t:ft) (u:iX) (i:t.fA.al.length<=1048576) (o:t.gu.nS.al.length<=1048576) (r:t.gu.qH.al.length<=1048576) (hp:t.fx.fR.length<=1048576) (H:0<=t.jA/\t.jA<=1048576) (m:u.kX=1\/u.kX=2\/u.kX=3\/u.kX=5):
  er prog 269 [y9 t,JQ u] (y9 (gl t u)):=by
 obtain ⟨c,⟨q,l⟩,p,d,e,N,B,L,E,n⟩:=t;obtain ⟨k,g⟩:=u;dsimp only at*;show er _ _ [_, .eN [.ax .i64 k, .ax .i64 g]] _;have s:=MW n.nS.gg (n.nS.al.map nk) (λh=>by rw [gp.Af h];rfl) (by rw [ap];exact o);have v:=QX n.qH.gg (n.qH.al.map kL) (λh=>by rw [gp.Af h];rfl) (by rw [ap];exact r);have J:=aiT c hp;unfold gl;dsimp only;generalize rH c=w at*;cases l with
 |nil=>
  have K:=aiy 2 g q [] (ar _);rcases m with rfl|rfl|rfl|rfl
  .rw [ak rfl,ai (λh=>absurd h.1 dd)];cases q
   all_goals
    refine ic func269 ?_
    conv=>whnf
    refine fz func293 ?_
    conv=>whnf
    refine fF.L9 (Q0 _) rfl ?_;refine gI ?_;refine ⟨ji (show (1:Nat)<=4294967296 by decide) dd,?_⟩;exact jf
  .cases q<;>cases d<;>cases w
   all_goals
    refine ic func269 ?_
    conv=>whnf
    refine fz func293 ?_
    conv=>whnf
    refine fF.L9 (Q0 _) rfl ?_;refine gI ?_;refine fz func295 ?_;exact jf
  all_goals
   cases q
   all_goals
    refine ic func269 ?_
    conv=>whnf
    refine fz func293 ?_
    conv=>whnf
    refine fF.L9 (Q0 _) rfl ?_;exact jf
 |cons a l=>
  have f:=aio ((a::l).map l7) (dh _) (by rw [ap];exact i);rw [ap] at f;have I:=aiz 2 g true (a::l) i;rcases m with rfl|rfl|rfl|rfl
  .rw [ak rfl];have j:IntKind.i64.wrap (p+1)=p+1:=fq om om;have A:(if (a::l).length=1/\w=true then p+1 else p)=match l,w with|[],true=>p+1|_,_=>p:=by
    cases l<;>cases w<;>simp
   unfold y9 gx gE gp.gg gp.lR;dsimp only;rw [aU,A];rcases l with _|⟨b,l⟩<;>cases w<;>cases q
   all_goals
    refine ic func269 ?_
    conv=>whnf
    refine fz func293 ?_
    conv=>whnf
    refine fF.Bv f rfl ?_;refine gI ?_
    first|rw [j]|skip
    refine ⟨List.map l7 _,⟨ap _,λD y=>?_,rfl,AH (λ_=>rfl) _,ji (by rw [ap];exact av (dF i) dd) dd⟩,?_⟩
    .obtain ⟨x,_,rfl⟩:=aE.1 y;rfl
    exact jf
  .rw [ai dd,ak rfl];unfold gp.j7;dsimp only
   by_cases F:((a::l).filter λz=>!decide (z=g))=[]
   .rw [F];cases q<;>cases d<;>cases w
    all_goals
     refine ic func269 ?_
     conv=>whnf
     refine fz func293 ?_
     conv=>whnf
     refine fF.Bv f rfl ?_;refine qD ?_;rw [F];refine qD ?_;exact QW
   .rw [ai (λh=>F h.1)];cases q
    all_goals
     refine ic func269 ?_
     conv=>whnf
     refine fz func293 ?_
     conv=>whnf
     refine fF.Bv f rfl ?_;refine qD ?_;refine ⟨λh=>absurd (List.length_eq_zero_iff.1 (Int.ofNat_eq_zero.1 (eq_of_beq h))) F,λ_=>?_⟩;refine qD ?_;exact QW
  all_goals
   cases q
   all_goals
    refine ic func269 ?_
    conv=>whnf
    refine fz func293 ?_
    conv=>whnf
    refine fF.Bv f rfl ?_;refine gI ?_;exact QW
def ri (x:fb) (who:Int) (u:iX) (n:Nat):List b9:=[gE 17 jB x.ep.cy.fZ,gE 8 mD x.ep.cy.ec, .ax .i64 x.ep.jk, .ax .i64 x.ep.ky,gE 2 mw x.ep.iq,gE 4 jH x.ep.iG, .ax .i64 x.ep.jg,
 gE 2 fI x.fg.iV,gE 2 fI x.fg.fH, .ax .i64 x.fm.mC,gE 2 ja x.fm.iI, .eP 31 0 18 n true, .ax .i64 x.eZ,gE 7 gV x.eL, .ax .i64 who, .ax .i64 u.kX, .ax .i64 u.qI]
def ll (x:fb) (who:Int) (u:iX):List (Am.fQ×gC):=[(.ay 16, .dc 235 (ri x who u x.bf.al.length)),(.ay 31, .eY 78 ((x.bf.al.map gx).flatten))]
theorem Zo {f:ft->ft} {l:List ft} {n:Nat} (h:n<l.length):l.modify n f=l.set n (f l[n]):=by
 induction l generalizing n with
 |nil=>simp at h
 |cons t l i=>
  cases n with
  |zero=>rfl
  |succ n=>grind
theorem EX {l:List ft} {n:Int} {f:ft->ft} (a:0<=n) (h:n<l.length):∃ k:Nat,n=k/\∃ b:k<l.length,jh l n f=l.set k (f l[k]):=by
 refine ⟨n.toNat,om,om,?_⟩;grind [jh,Zo]
theorem Nn {l:List ft} {n:Int} {f:ft->ft} (h:n<0\/(l.length:Int)<=n):jh l n f=l:=by
 grind [jh,List.modify_eq_self]
theorem AI (l:List ft):((l.map gx).flatten).length=l.length*18:=tE (enc:=gx) (sz:=18) (λ_=>rfl) l
theorem Zp {L:List b9} {x:b9} {k:Nat} (h:k+1<=L.length):(L.take k++[x]++L.drop (k+1)).length=L.length:=by
 grind
theorem RG (x:fb) (who:Int) (u:iX) (n:Int):fF prog 195 [.c8 16 0, .ax .i64 n] (eJ (ll x who u)) 32
  (gP 32 (λr es=>r= .gO (.dn [])/\es=ll (lK x n) who u)):=by
 by_cases d:0<=n
 .by_cases g:n<x.bf.al.length
  .obtain ⟨k,rfl,m,e⟩:=EX (f:=λt=>{t with gS:=true,nu:=x.eZ}) d g;have h:lK x k={x with bf:=⟨x.bf.ie,x.bf.al.set k {x.bf.al[k] with gS:=true,nu:=x.eZ}⟩}:=by
    grind [lK,iC]
   rw [h];refine fz func195 ?_;refine cx ?_;have o:0+(k:Int).toNat*18+8=k*18+8:=om;have q:0+(k:Int).toNat*18+12=k*18+12:=om;have j:=AI x.bf.al;refine j5 ?_;rw [o];refine cx ?_;rw [q];refine ⟨av om (cE (Zp om).symm),?_⟩;refine cx ?_;refine ⟨_,_,⟨rfl,rfl⟩,rfl,⟨rfl,rfl⟩,⟨?_,rfl,?_,rfl,ae⟩⟩
   .exact congrArg (λn=>gC.dc 235 (ri x who u n)) (cF).symm
   .have v:=J9 (enc:=gx) (sz:=18) (λ_=>rfl) (l:=x.bf.al) (i:=k) m (b:={x.bf.al[k] with gS:=true}) (k:=k*18+8) (p:=(gx x.bf.al[k]).take 8) (s:=(gx x.bf.al[k]).drop 9) (y:= .eD x.bf.al[k].gS) (x:= .eD true) rfl rfl rfl;have a:k<(x.bf.al.set k {x.bf.al[k] with gS:=true}).length:=by simp_all
    have c:=J9 (enc:=gx) (sz:=18) (λ_=>rfl) (l:=x.bf.al.set k {x.bf.al[k] with gS:=true}) (i:=k) a (b:={x.bf.al[k] with gS:=true,nu:=x.eZ}) (k:=k*18+12) (p:=(gx {x.bf.al[k] with gS:=true}).take 12) (s:=(gx {x.bf.al[k] with gS:=true}).drop 13) (y:= .ax .i64 x.bf.al[k].nu) (x:= .ax .i64 x.eZ) (by rw [List.getElem_set_self];rfl) rfl rfl;rw [<-v,List.set_set] at c;exact congrArg (gC.eY _) c
  .have h:lK x n=x:=by
    unfold lK iC;rw [Nn (.inr om)]
   rw [h];refine fz func195 ?_;exact fu
 .have h:lK x n=x:=by
   unfold lK iC;rw [Nn (.inl om)]
  rw [h];refine fz func195 ?_;exact fu
theorem RH {l:List ft} {k:Nat} (a:k<l.length) (b:ft):((l.map gx).flatten).take (k*18)++gx b++((l.map gx).flatten).drop (k*18+18)=((l.set k b).map gx).flatten:=by
 have h:=Hf (enc:=gx) (sz:=18) (λ_=>rfl) (l.take k) (l.drop (k+1)) l[k] b;grind [List.drop_eq_getElem_cons,List.take_append_drop]
structure Nl (t:ft):Prop where
 Ka:t.fA.al.length<=1048576
 RE:t.gu.nS.al.length<=1048576
 RD:t.gu.qH.al.length<=1048576
 RF:t.fx.fR.length<=1048576
 RB:0<=t.jA/\t.jA<=1048576
theorem Nm (x:fb) (k:Nat) (u:iX) (a:k<x.bf.al.length) (h:Nl x.bf.al[k]) (e:u.kX=1\/u.kX=2\/u.kX=3\/u.kX=5):fF prog 233 [.c8 16 0] (eJ (ll x k u)) 32
  (gP 32 (λr es=>r= .gO (.dn [])/\es=ll (kA x k u) k u)):=by
 obtain ⟨i,c,d,s⟩:=EX (l:=x.bf.al) (n:=k) (f:=λt=>gl t u) om om;obtain rfl:k=i:=om;have g:kA x k u={x with bf:=⟨x.bf.ie,x.bf.al.set k (gl x.bf.al[k] u)⟩}:=by
  grind [kA,iC]
 rw [g];have A:=Zn x.bf.al[k] u h.Ka h.RE h.RD h.RF h.RB e;have o:0+(k:Int).toNat*18=k*18:=om;have b:=AI x.bf.al;have L:=za (enc:=gx) (sz:=18) (λ_=>rfl) a;refine fz func233 ?_;refine gI ?_;rw [o];refine gI ?_;rw [o];refine gI ?_;refine cx ?_;refine ⟨_,_,⟨rfl,rfl⟩,rfl,⟨rfl,rfl⟩,⟨?_,rfl,?_,rfl,ae⟩⟩
 .exact congrArg (λn=>gC.dc 235 (ri x k u n)) (cF).symm
 .exact congrArg (gC.eY _) (RH a _)
end Go.Proofs.YtffboamedcmpaaaGreatDoor
namespace Gw
theorem RI (a):ke a a=false:=by unfold ke;simp
theorem Zq {a b c} (h:ke a b=true) (k:ke b c=true):ke a c=true:=by
 grind [ke]
theorem alr {a b} (h:¬(a.iH=b.iH/\a.jw=b.jw)) (k:ke a b=false):ke b a=true:=by
 grind [ke]
def jl (g:li):List e7:=g.fZ.al.map (·.gN)
def oz (l:List e7):Prop:=l.Pairwise λa b=>ke a.fa b.fa=true
theorem Zt {α:Type} (q):∀ l:List α,(∀ a∈l.take (l.takeWhile q).length,q a=true)/\∀ h:(l.takeWhile q).length<l.length,q l[(l.takeWhile q).length]=false
 |[]=>⟨λa h=>by simp at h,λh=>by simp at h⟩
 |x::l=>by
  obtain ⟨b,c⟩:=Zt q l;grind [List.takeWhile_cons]
theorem Hz {g s}:oy g s=true↔∃ o∈jl g,o.fa.iH=s.iH/\o.fa.jw=s.jw:=by
 grind [oy,jl]
theorem alq {g} (A:pe g.fZ.al g.ec.al) (v:oz (jl g)) {o} (B:g4 o=true) (E:oy g o.fa=false) (N:g.fZ.al.length<200):
  (jO g o).2=0/\∃ a b,jl g=a++b/\jl (jO g o).1=a++o::b/\oz (jl (jO g o).1)/\(∀ p∈b,ke o.fa p.fa=true):=by
 have u:∀ p∈jl g,¬(o.fa.iH=p.fa.iH/\o.fa.jw=p.fa.jw):=λp c q=>by
  have:oy g o.fa=true:=Hz.2 ⟨p,c,q.1.symm,q.2.symm⟩;simp_all
 unfold jO;rw [ai (by rw [B];decide),ai (by rw [E];decide),ai om];have d:=X0 o.fa g.fZ.al.reverse;rw [dY] at d;obtain ⟨K,z⟩:=Zt (λe:oc=>ke o.fa e.gN.fa) g.fZ.al.reverse;have k:=pe.Q3 (l:=[]) (vG o.fa g.fZ.al.reverse) (n:=g.ec) A d;change (∀ a∈g.fZ.al.reverse.take (vG o.fa g.fZ.al.reverse),_) at K;change ∀ h:vG o.fa g.fZ.al.reverse<_,ke o.fa (g.fZ.al.reverse[vG o.fa g.fZ.al.reverse]).gN.fa=false at z;simp only;generalize vG o.fa g.fZ.al.reverse=b at*;obtain ⟨_,w⟩:=pe.Q4 (o::(g.fZ.al.drop (g.fZ.al.length - b)).map (·.gN)) (x:=⟨⟨g.fZ.ie,g.fZ.al.take (g.fZ.al.length - b)⟩,(g.fZ.al.reverse.take b).foldl BM g.ec⟩) k;refine ⟨trivial,(g.fZ.al.take (g.fZ.al.length - b)).map (λe:oc=>e.gN),(g.fZ.al.drop (g.fZ.al.length - b)).map (λe:oc=>e.gN),?_,w,?_,?_⟩
 .grind [jl,List.take_append_drop]
 .show oz (((_:List oc)).map (·.gN));rw [w];have t:jl g=(g.fZ.al.take (g.fZ.al.length - b)).map (·.gN)++(g.fZ.al.drop (g.fZ.al.length - b)).map (·.gN):=by grind [jl,List.take_append_drop]
  have r:=v;unfold oz at r;rw [t,cG] at r;obtain ⟨I,J,R⟩:=r;have f:∀ p∈(g.fZ.al.drop (g.fZ.al.length - b)).map (·.gN),ke o.fa p.fa=true:=λp c=>by
   grind [List.take_reverse]
  have H:∀ p∈(g.fZ.al.take (g.fZ.al.length - b)).map (·.gN),ke p.fa o.fa=true:=λp c=>by
   by_cases Q:b<g.fZ.al.length
   .have s:=z (by simp_all);rw [List.getElem_reverse] at s;have j:g.fZ.al.length - 1 - b<g.fZ.al.length:=om;have m:(g.fZ.al[g.fZ.al.length - 1 - b]).gN∈jl g:=aE.2 ⟨_,aI j,rfl⟩;have F:=alr (u _ m) s;obtain ⟨e,D,rfl⟩:=aE.1 c;obtain ⟨i,L,rfl⟩:=List.mem_take_iff_getElem.1 D;rcases bu i (g.fZ.al.length - 1 - b) with q|q
    .have:=(dU.1 (show List.Pairwise (λa b=>ke a.fa b.fa=true) (jl g) from v)) i (g.fZ.al.length - 1 - b) (by grind) (by simp_all) q;grind [Zq]
    grind
   simp_all
  refine cG.2 ⟨I,cb.2 ⟨λp c=>f p c,J⟩,λx O y P=>?_⟩;grind
 grind [List.take_reverse]
theorem Zs:∀ {l m:List e7},oz l->oz m->(∀ p,p∈l↔p∈m)->l=m
 |[],[],_,_,_=>rfl
 |[],a::m,_,_,h=>by grind [List.mem_cons_self]
 |a::l,[],_,_,h=>by grind [List.mem_cons_self]
 |a::l,b::m,hl,d,h=>by
  obtain ⟨i,f⟩:=cb.1 hl;obtain ⟨j,g⟩:=cb.1 d;have c:a=b:=by
   grind [Zq,RI]
  subst c;refine congrArg _ (Zs f g λp=>⟨λe=>?_,λe=>?_⟩)
  .grind [RI]
  grind [RI]
theorem Zr {g g'} (h:pe g.fZ.al g.ec.al) (a:pe g'.fZ.al g'.ec.al) (b:oz (jl g)) (r:oz (jl g')) (e:∀ p,p∈jl g↔p∈jl g'):g.ec.al=g'.ec.al:=by
 grind [h.XZ,a.XZ,Zs,jl]
def ij (m:fX) (c:fG):iY:=⟨m,iL 0,c, .g6⟩
structure Dh (m:fX) (x:iY) (o:e7):Prop where
 Kb:o.fa=⟨m.jk+1,m.ky⟩
 Zz:m9 o.fa=true
 Zv:m.cy.fZ.al.length<200
 RL:jO m.cy o=(x.e8.cy,0)
 Zx:x.e8.jk=m.jk+1
 Zw:x.e8.ky=m.ky
 RM:x.kZ=⟨false,[o]⟩
 Zy:x.e8.iq=m.iq
 ZA:x.e8.iG=m.iG
 alv:x.e8.jg=m.jg
theorem alG {s r t} (h:EC s r=some t):t=⟨s+1,r⟩/\m9 t=true:=by
 grind [EC]
theorem ZB {m s} (h:nh m=(s,0)):s=⟨m.jk+1,m.ky⟩/\m9 s=true/\m.cy.fZ.al.length<200:=by
 grind [nh,alG]
theorem RN (m c o):(nU (ij m c) o).2≠0\/((nU (ij m c) o).2=0/\∃ s,Dh m (nU (ij m c) o).1 (pT o s)):=by
 unfold nU;have n:nh (ij m c).e8=nh m:=rfl;rw [n];cases k:nh m with
 |mk s e=>
  simp only
  by_cases j:e=0
  .subst j;obtain ⟨b,f,i⟩:=ZB k;rw [ai dd];have l:(ij m c).e8.cy=m.cy:=rfl;cases d:jO m.cy (pT o s) with
   |mk g a=>
    have A:rI (ij m c) (pT o s)=if a≠0 then (ij m c,a) else ({ij m c with e8:={m with cy:=g},kZ:=⟨false,[pT o s]⟩},0):=by
     unfold rI;rw [l,d];rfl
    by_cases h:a=0
    .subst h;rw [ai dd] at A;simp only [A];rw [ai dd];refine .inr ⟨rfl,s,?_⟩;exact ⟨b,f,i,d,by rw [b],rfl,rfl,rfl,rfl,rfl⟩
    simp_all
  simp_all
theorem Nq {k f} (h:vI k=some f):((k=1\/k=2)/\f=uq)\/(k=3/\f=uv)\/(k=4/\f=sC)\/(k=5/\f=ur)\/(k=6/\f=uu)\/(k=7/\f=sB)\/(k=8/\f=tA)\/(k=9/\f=sA)\/(k=10/\f=vc)\/(k=11/\f=vb)\/(k=12/\f=λd=>(d,0))\/(k=13/\f=tB):=by
 unfold vI at h
 by_cases a:k=1\/k=2
 .simp_all
 rw [ai a] at h
 by_cases b:k=3
 .simp_all
 rw [ai b] at h
 by_cases c:k=4
 .simp_all
 rw [ai c] at h
 by_cases e:k=5
 .simp_all
 rw [ai e] at h
 by_cases g:k=6
 .simp_all
 rw [ai g] at h
 by_cases i:k=7
 .simp_all
 rw [ai i] at h
 by_cases j:k=8
 .simp_all
 rw [ai j] at h
 by_cases l:k=9
 .simp_all
 grind
structure tJ (g g':li) (l:List e7):Prop where
 B6:l8 g'
 Di:oz (jl g')
 HH:g'.fZ.al.length=g.fZ.al.length+l.length
 zi:∀ p,p∈jl g'↔p∈jl g\/p∈l
theorem tJ.RO {g} (h:l8 g) (r:oz (jl g)):tJ g g []:=⟨h,r,rfl,λp=>⟨.inl,λq=>q.elim id λq=>by cases q⟩⟩
theorem tJ.alJ {a b c l m} (h:tJ a b l) (k:tJ b c m):tJ a c (l++m):=
 ⟨k.B6,k.Di,by grind [k.HH,h.HH],λp=>by grind [k.zi,h.zi]⟩
theorem RP {g} (h:l8 g) (r:oz (jl g)) {o} (e:g4 o=true) (f:oy g o.fa=false) (l:g.fZ.al.length<200):(jO g o).2=0/\tJ g (jO g o).1 [o]:=by
 obtain ⟨c,a,b,i,j,d,_⟩:=alq h.qK r e f l;refine ⟨c,h.Hl o,d,?_,λp=>?_⟩
 .grind [jl,List.length_append]
 grind
def AJ (a b:e7):Prop:=¬(a.fa.iH=b.fa.iH/\a.fa.jw=b.fa.jw)
theorem alK {g g' l} (h:tJ g g' l) {o} (b:oy g o.fa=false) (a:∀ p∈l,AJ p o):oy g' o.fa=false:=by
 rw [bW];intro q;obtain ⟨p,hp,e⟩:=Hz.1 q;rcases (h.zi p).1 hp with hp|hp
 .have:oy g o.fa=true:=Hz.2 ⟨p,hp,e⟩;simp_all
 .exact a p hp e
theorem RS:∀ l d,l8 d.e8.cy->oz (jl d.e8.cy)->(∀ o∈l,g4 o=true/\oy d.e8.cy o.fa=false)->l.Pairwise AJ->d.e8.cy.fZ.al.length+l.length<=200->
  ∃ g,(pa d l).2=0/\(pa d l).1={d with e8:={d.e8 with cy:=g},kZ:=⟨(pa d l).1.kZ.ie,d.kZ.al++l⟩}/\tJ d.e8.cy g l
 |[],d,h,r,_,_,_=>⟨d.e8.cy,rfl,by show d=_;rw [aH];rfl, .RO h r⟩
 |o::l,d,h,r,c,a,hl=>by
  rw [aL] at hl;obtain ⟨u,s⟩:=cb.1 a;obtain ⟨f,i⟩:=c o aP;obtain ⟨t,e⟩:=RP h r f i om;have A:rI d o=({d with e8:={d.e8 with cy:=(jO d.e8.cy o).1},kZ:=d.kZ.lR o},0):=by
   unfold rI;simp_all
  obtain ⟨g,j,k,n⟩:=RS l {d with e8:={d.e8 with cy:=(jO d.e8.cy o).1},kZ:=d.kZ.lR o} e.B6 e.Di
   (λq b=>⟨(c q (aQ _ b)).1,alK e (c q (aQ _ b)).2 λp a=>by simp_all⟩) s (by
    have:=e.HH;grind)
  have B:pa d (o::l)=pa {d with e8:={d.e8 with cy:=(jO d.e8.cy o).1},kZ:=d.kZ.lR o} l:=by
   grind [pa]
  rw [B];refine ⟨g,j,?_,e.alJ n⟩;refine k.trans ?_;show iY.mk _ _ _ ⟨_,(d.kZ.al++[o])++l⟩=_;grind
structure Nr (g:li) (x:Int×gp e7):Prop where
 RQ:x.2.al.Pairwise AJ
 RR:∀ f∈x.2.al,oy g f.fa=false
theorem ZE (s t):s<=ra s t/\(m9 t=true->t.iH<=ra s t):=by
 grind [ra]
theorem alL {g x} (h:Nr g x) (o):Nr g (l5 g x o):=by
 unfold l5;split
 .rename_i j;obtain ⟨k,l⟩:=j;refine ⟨?_,λf c=>?_⟩
  .show (x.2.al++[o]).Pairwise AJ;refine cG.2 ⟨h.RQ,List.pairwise_singleton _ _,λa d b i=>?_⟩;rw [aw.1 i];intro e;have:(x.2.al.any λf=>C6 f.fa o.fa)=true:=bD.2 ⟨a,d,by grind [C6]⟩;simp_all
  .rcases aF.1 (show f∈x.2.al++[o] from c) with c|c
   .exact h.RR f c
   simp_all
 .exact ⟨h.RQ,h.RR⟩
theorem ZD {g}:∀ (l:List e7) {x:Int×gp e7},Nr g x->Nr g (l.foldl (l5 g) x)/\x.1<=(l.foldl (l5 g) x).1/\(∀ o∈l,m9 o.fa=true->o.fa.iH<=(l.foldl (l5 g) x).1)/\(∀ f∈(l.foldl (l5 g) x).2.al,f∈x.2.al\/f∈l)
 |[],x,h=>⟨h,bL _,λ_ h=>(by cases h),λf e=> .inl e⟩
 |o::l,x,h=>by
  obtain ⟨a,b,c,d⟩:=ZD l (alL h o);obtain ⟨j,m⟩:=ZE x.1 o.fa;have s:(l5 g x o).1=ra x.1 o.fa:=rfl;rw [bw];refine ⟨a,om,λp i k=>?_,λf e=>?_⟩
  .grind
  .rcases d f e with e|e
   .have q:f∈x.2.al\/f=o:=by
     unfold l5 at e;simp only at e;split at e
     .rcases aF.1 (show f∈x.2.al++[o] from e) with e|e
      .exact .inl e
      simp_all
     .exact .inl e
    grind
   simp_all
section
def E0 (q:BL):Prop:=q.sy.al.length<=9/\(q.Jz=false->q.sy.al.length<=8)
structure kM (T:Nat) (m:fX):Prop where
 lq:l8 m.cy
 zj:oz (jl m.cy)
 Dj:∀ o∈jl m.cy,o.fa.iH<=m.jk
 vg:1<=m.jg/\m.jg<=T+1
 AK:m.iq.al.length<=8
 zk:∀ s∈m.iq.al,∃ g,l8 g/\s.BN=g.ec
 B8:m.iG.al.length<=8
 zm:∀ w∈m.iG.al,E0 w.qe
def B7 (a:oM):Prop:=a.nS.al.length<=200/\a.qH.al.length<=9
theorem kM.ZF {T m} (h:kM T m):kM (T+1) m:={h with vg:=⟨h.vg.1,by have:=h.vg.2;omega⟩}
theorem Ns (e):B7 (iL e):=⟨ar _,ar _⟩
structure ZG (T:Nat) (m:fX) (x:iY):Prop where
 B9:kM (T+1) x.e8
 ZH:B7 x.kg
 ZI:tJ m.cy x.e8.cy x.kZ.al
 ZJ:x.e8.ky=m.ky
def sI (T:Nat) (m:fX) (x:iY×Int):Prop:=x.2≠0\/ZG T m x.1
theorem tK (T m x) {e} (h:e≠0):sI T m (x,e):= .inl h
theorem alY {q} (h:E0 q) (l):E0 (GS q l):=by
 unfold GS;split
 .exact ⟨h.1,λe=>by cases e⟩
 .rename_i o;have a:=h.2 (by simpa using o);split
  .refine ⟨?_,λe=>by cases e⟩;show (q.sy.al++l.take (8 - q.sy.al.length)++[_]).length<=9;grind
  .have:(q.sy.al++l).length<=8:=by grind
   exact ⟨c9 this,λ_=>this⟩
theorem alZ {q}:E0 (wY q).1:=⟨ar _,λ_=>ar _⟩
variable {T:Nat} {m:fX}
theorem alO {g g' o} (h:jO g o=(g',0)):g4 o=true:=by
 grind [jO]
theorem ZN (h:kM T m) {x o} (p:Dh m x o):tJ m.cy x.e8.cy [o]:=by
 have c:=alO p.RL;have b:oy m.cy o.fa=false:=by
  rw [bW];intro q;obtain ⟨f,a,e,_⟩:=Hz.1 q;have:=h.Dj f a;rw [p.Kb] at e;grind
 grind [RP,h.lq,h.zj,p.Zv,p.RL]
theorem Nu (h:kM T m) {c o}:sI T m (nU (ij m c) o):=by
 have A:∀ p,(rI (ij m c) p).1.kg=iL 0:=λp=>by
  unfold rI;split;split
  .rfl
  .rfl
 have d:(nU (ij m c) o).1.kg=iL 0:=by
  unfold nU;split;split
  .rfl
  grind
 rcases RN m c o with a|⟨_,p,a⟩
 .exact .inl a
 .have g:=ZN h a;refine .inr ⟨⟨g.B6,g.Di,λq b=>?_,?_,?_,?_,?_,?_⟩,by grind [Ns],by rw [a.RM];exact g,a.Zw⟩
  .rw [a.Zx];rcases (g.zi q).1 b with b|b
   .have:=h.Dj q b;omega
   grind [a.Kb]
  .rw [a.alv];exact ⟨h.vg.1,by have:=h.vg.2;omega⟩
  .rw [a.Zy];exact h.AK
  .rw [a.Zy];exact h.zk
  .rw [a.ZA];exact h.B8
  .rw [a.ZA];exact h.zm
theorem alS (l dir):(um l dir).length<=l.length:=by
 unfold um;split
 .obtain ⟨h,b⟩:=An l dir;rw [(ui _).length_eq];have:=xX (l:=(nb l dir).2.map (·.2.1)) (m:=l.map (·.iU)) h.u5 λs c=>by
   obtain ⟨e,a,rfl⟩:=aE.1 c;exact aE.2 ⟨e.2.2,(b e a).1,(h.C1 e a)⟩
  simp_all
 simp_all
theorem alW (h:kM T m) {k s} (a:tw m k=some s):s.al.length<=200:=by
 unfold tw at a;split at a
 .grind [h.lq.ER]
 .cases f:m.iq.al.find? λs=>decide (s.lZ=k) with
  |none=>simp_all
  |some x=>
   rw [f] at a;cases a;obtain ⟨g,b,c⟩:=h.zk x (bY f);show x.BN.al.length<=200;rw [c];exact b.ER
theorem Kc (h:kM T m) {x:iY} (l:x.e8.cy=m.cy) (f:x.e8.jk=m.jk) (r:x.e8.ky=m.ky) (o:x.kZ.al=[]) (e:B7 x.kg) (n:1<=x.e8.jg/\x.e8.jg<=T+2) (a:x.e8.iq.al.length<=8) (b:∀ s∈x.e8.iq.al,∃ g,l8 g/\s.BN=g.ec)
  (c:x.e8.iG.al.length<=8) (d:∀ w∈x.e8.iG.al,E0 w.qe):sI T m (x,0):=
 .inr ⟨⟨by rw [l];exact h.lq,by rw [l];exact h.zj,by rw [l,f];exact h.Dj,n,a,b,c,d⟩,e,by rw [o,l];exact .RO h.lq h.zj,r⟩
theorem RX (h:kM T m) {c:fG} {a:oM} (b:B7 a):sI T m (({ij m c with kg:=a}:iY),0):=
 Kc h rfl rfl rfl rfl b ⟨h.vg.1,by have:=h.vg.2;show m.jg<=_;omega⟩ h.AK h.zk h.B8 h.zm
theorem alP (h:kM T m) (c):sI T m (uq (ij m c)):=by
 grind [uq,Nu,tK]
theorem al5 (h:kM T m) (c):sI T m (uv (ij m c)):=by
 grind [uv,Nu,tK]
theorem alV (h:kM T m) (c):sI T m (ur (ij m c)):=by
 grind [ur,Nu,tK]
theorem al1 (h:kM T m) (c):sI T m (uu (ij m c)):=by
 grind [uu,Nu,tK]
theorem al0 (h:kM T m) (c:fG):sI T m (sC (ij m c)):=by
 unfold sC
 repeat' (first|exact RX h (c:=c) ⟨ar _,ar _⟩|(exact tK _ _ _ (by assumption))|(exact tK _ _ _ dd)|(split<;>try dsimp only))
theorem alT (h:kM T m) (c):sI T m (sB (ij m c)):=by
 unfold sB;cases n:tw (ij m c).e8 (ij m c).kQ.g7 with
 |none=>grind [tK]
 |some s=>
  have:=alW h n;dsimp only;split
  .grind [tK]
  split
  .grind [tK]
  .exact RX h (c:=c) ⟨av (alS _ _) this,ar _⟩
theorem al2 (h:kM T m) (c:fG):sI T m (tA (ij m c)):=by
 unfold tA;split
 .grind [tK]
 .rename_i b;have n:=h.vg;refine Kc h rfl rfl rfl rfl ⟨ar _,ar _⟩ (by show 1<=m.jg+1/\m.jg+1<=_;omega) ?_ (λs a=>?_) h.B8 h.zm
  .show (m.iq.al++[_]).length<=8;have b:¬8<=m.iq.al.length:=b;grind
  .rcases aF.1 (show s∈m.iq.al++[⟨m.jg,m.cy.ec⟩] from a) with a|a
   .exact h.zk s a
   .rw [aw.1 a];exact ⟨m.cy,h.lq,rfl⟩
theorem alR (h:kM T m) (c:fG):sI T m (sA (ij m c)):=by
 unfold sA;split
 .grind [tK]
 .have n:=h.vg;refine Kc h rfl rfl rfl rfl ⟨ar _,ar _⟩ (by show 1<=m.jg/\m.jg<=_;omega) ?_ (λs a=>?_) ?_ (λs a=>?_)
  .exact av (bn _ _) h.AK
  .exact h.zk s ((bG.1 a).1)
  .exact av (bn _ _) h.B8
  .exact h.zm s ((bG.1 a).1)
theorem al4 (h:kM T m) (c:fG):sI T m (vc (ij m c)):=by
 unfold vc;have n:=h.vg;split;split
 .grind [tK]
 split
 .grind [tK]
 split
 .grind [tK]
 .rename_i b;refine Kc h rfl rfl rfl rfl ⟨ar _,ar _⟩ (by show 1<=m.jg+1/\m.jg+1<=_;omega) h.AK h.zk ?_ (λs a=>?_)
  .show (m.iG.al++[_]).length<=8;have b:¬8<=m.iG.al.length:=b;grind
  .rcases aF.1 a with a|a
   .exact h.zm s a
   .rw [aw.1 a];exact ⟨ar _,λ_=>ar _⟩
theorem ZK (n):∀ l:List k7,(yT n l).length=l.length
 |[]=>rfl
 |w::l=>by
  unfold yT;split
  .rfl
  .rw [aL,ZK n l,aL]
theorem ZL (n):∀ l:List k7,(∀ w∈l,E0 w.qe)->∀ w∈yT n l,E0 w.qe
 |[],_,_,b=>by cases b
 |w::l,h,x,a=>by
  unfold yT at a;split at a
  .grind [alZ]
  .rcases aK.1 a with rfl|a
   .simp_all
   .exact ZL n l (λy c=>h y (aQ _ c)) x a
theorem alX (h:kM T m) (c:fG):sI T m (vb (ij m c)):=by
 unfold vb;cases f:(ij m c).e8.iG.al.find? λw=>decide (w.l0=(ij m c).kQ.g7) with
 |none=>grind [tK]
 |some w=>
  have n:=h.vg;have b:=h.zm w (bY f);refine Kc h rfl rfl rfl rfl ⟨ar _,b.1⟩ (by show 1<=m.jg/\m.jg<=_;omega) h.AK h.zk ?_ (λs a=>?_)
  .show (yT _ m.iG.al).length<=8;rw [ZK];exact h.B8
  .exact ZL _ _ h.zm s a
theorem ZO {o} (h:g4 o=true):m9 o.fa=true:=(Rm h).2.2.2
theorem alU (h:kM T m) (c):sI T m (tB (ij m c)):=by
 unfold tB;cases B:ux (ij m c).kQ.lS with
 |none=>grind [tK]
 |some l=>
  obtain ⟨k,_⟩:=YE B;have k:=bi.1 k;have t:(ij m c).e8=m:=rfl;obtain ⟨v,E,F,z⟩:=ZD (g:=m.cy) l (x:=(m.jk, .g6)) ⟨.nil,λf A=>by cases A⟩;simp only [t];generalize l.foldl (l5 m.cy) (m.jk, .g6)=x at*;split
  .grind [tK]
  .rename_i w;have r:∀ o∈x.2.al,o∈l:=λo j=>(z o j).elim (λq=>by cases q) id
   obtain ⟨g,u,i,p⟩:=RS x.2.al (ij m c) h.lq h.zj (λo j=>⟨k o (r o j),v.RR o j⟩) v.RQ (by simp_all);generalize pa (ij m c) x.2.al=y at*;obtain ⟨d,e⟩:=y;dsimp only at u i;subst u;have H:=h.vg;have b:d.e8={m with cy:=g}:=by rw [i];rfl
   have D:d.kg=iL 0:=by rw [i];rfl
   have I:d.kZ.al=x.2.al:=by rw [i];rfl
   simp only;rw [ai dd];refine .inr ⟨⟨?_,?_,λq a=>?_,?_,?_,?_,?_,?_⟩,?_,?_,?_⟩
   .show l8 d.e8.cy;rw [b];exact p.B6
   .show oz (jl d.e8.cy);rw [b];exact p.Di
   .have a:q∈jl d.e8.cy:=a;rw [b] at a;show q.fa.iH<=x.1;rcases (p.zi q).1 a with a|a
    .have:=h.Dj q a;omega
    grind [ZO]
   .grind
   .show d.e8.iq.al.length<=8;rw [b];exact h.AK
   .show ∀ s∈d.e8.iq.al,_;rw [b];exact h.zk
   .show d.e8.iG.al.length<=8;rw [b];exact h.B8
   .show ∀ s∈d.e8.iG.al,_;rw [b];exact h.zm
   .show B7 {d.kg with qd:=_};rw [D];exact ⟨ar _,ar _⟩
   .grind
   grind
theorem al3 (h:kM T m) (c):sI T m (ij m c,0):=RX h (c:=c) (Ns 0)
structure RT (T:Nat) (m:fX) (x:fX×oM×gp e7):Prop where
 alM:kM (T+1) x.1
 RU:B7 x.2.1
 EZ:tJ m.cy x.1.cy x.2.2.al
 alN:x.1.ky=m.ky
theorem RW (h:kM T m) (e):RT T m (m,iL e, .g6):=⟨h.ZF,Ns e, .RO h.lq h.zj,rfl⟩
theorem alQ (h:kM T m) {y} (f:sI T m y):RT T m (match y with
    |(d,e)=>if e≠0 then (m,iL e, .g6) else if d.kZ.al=[] then (d.e8,d.kg,d.kZ) else ((GW d m.cy.ec.al).e8,d.kg,d.kZ)):=by
 obtain ⟨d,e⟩:=y;dsimp only;split
 .exact RW h e
 .rename_i b;have f:ZG T m d:=f.elim (λq=>absurd q b) id;split
  .exact ⟨f.B9,f.ZH,f.ZI,f.ZJ⟩
  .refine ⟨⟨f.B9.lq,f.B9.zj,f.B9.Dj,f.B9.vg,f.B9.AK,f.B9.zk,?_,λw c=>?_⟩,f.ZH,f.ZI,f.ZJ⟩
   .show (d.e8.iG.al.map _).length<=8;grind [f.B9.B8]
   .obtain ⟨g,a,rfl⟩:=aE.1 (show w∈d.e8.iG.al.map (rK m.cy.ec.al d.e8.cy.ec.al) from c);exact alY (f.B9.zm g a) _
theorem Nt (h:kM T m) (c):RT T m (gA m c):=by
 unfold gA;split
 .exact RW h 180
 .cases w:vI c.gD with
  |none=>exact RW h 180
  |some f=>
   have a:sI T m (f (ij m c)):=by
    rcases Nq w with ⟨_,rfl⟩|⟨_,rfl⟩|⟨_,rfl⟩|⟨_,rfl⟩|⟨_,rfl⟩|⟨_,rfl⟩|⟨_,rfl⟩|⟨_,rfl⟩|⟨_,rfl⟩|⟨_,rfl⟩|⟨_,rfl⟩|⟨_,rfl⟩
    .exact alP h c
    .exact al5 h c
    .exact al0 h c
    .exact alV h c
    .exact al1 h c
    .exact alT h c
    .exact al2 h c
    .exact alR h c
    .exact al4 h c
    .exact alX h c
    .exact al3 h c
    .exact alU h c
   exact alQ h a
end
theorem R0 {α:Type} {p}:∀ {l:List α},l.any p=true->(mV p l).length+1=l.length
 |[],h=>by simp at h
 |a::l,h=>by
  unfold mV;split
  .rfl
  .rename_i b;rw [List.any_cons,cq] at h;rw [aL,aL,R0 (h.resolve_left b)]
theorem al7 {α:Type} {p:α->Bool} {l:List α} {a:α} (h:l.find? p=some a):l.any p=true:=bD.2 ⟨a,bY h,dL h⟩
theorem ZU (t:kz) (th lk:Int):(kl t th lk).1.iV.al.length+(kl t th lk).1.fH.al.length+(if (kl t th lk).2.isSome=true then 1 else 0)<=t.iV.al.length+t.fH.al.length/\
  (kl t th lk).1.fH.al.length+(if (kl t th lk).2.isSome=true then 1 else 0)=t.fH.al.length:=by
 unfold kl;cases h:t.iV.al.any λx=>decide (x=⟨lk,th⟩) with
 |false=>simp_all
 |true=>
  have e:=R0 h;simp only;cases a:t.fH.al.find? λw=>decide (w.gf=lk) with
  |none=>
   refine ⟨?_,?_⟩
   .show (mV _ t.iV.al).length+t.fH.al.length+0<=_;omega
   trivial
  |some w=>
   have b:=R0 (al7 a);refine ⟨?_,?_⟩
   .show (mV _ t.iV.al++[w]).length+(mV _ t.fH.al).length+1<=_;grind
   trivial
theorem al8 (t th lk):((pc t th lk).2=true->(pc t th lk).1.fH.al.length=t.fH.al.length/\(pc t th lk).1.iV.al.length<=t.iV.al.length+1)/\
  ((pc t th lk).2=false->(pc t th lk).1.fH.al.length<=t.fH.al.length+1/\(pc t th lk).1.iV.al.length=t.iV.al.length):=by
 unfold pc;cases yW t lk with
 |none=>exact ⟨λ_=>⟨rfl,by show (t.iV.al++[_]).length<=_;simp_all⟩,λh=>by cases h⟩
 |some h=>
  simp only;split
  .simp_all
  .split
   .simp_all
   .exact ⟨λh=>(by cases h),λ_=>⟨by show (t.fH.al++[_]).length<=_;simp_all,rfl⟩⟩
theorem al9 (th x h):(nV th x h).1.iV.al.length+(nV th x h).1.fH.al.length<=x.1.iV.al.length+x.1.fH.al.length/\(nV th x h).1.fH.al.length+(nV th x h).2.al.length=x.1.fH.al.length+x.2.al.length:=by
 unfold nV;split
 .obtain ⟨a,b⟩:=ZU x.1 th h.gf;generalize kl x.1 th h.gf=y at*;obtain ⟨t,o⟩:=y;cases o with
  |none=>
   simp_all
  |some n=>
   simp only [dJ,du] at a b;refine ⟨by grind,?_⟩;show t.fH.al.length+(x.2.al++[_]).length=_;grind
 omega
theorem ZT (th:Int):∀ (l:List fK) (x:kz×gp fK),(l.foldl (nV th) x).1.iV.al.length+(l.foldl (nV th) x).1.fH.al.length<=x.1.iV.al.length+x.1.fH.al.length/\(l.foldl (nV th) x).1.fH.al.length+(l.foldl (nV th) x).2.al.length=x.1.fH.al.length+x.2.al.length
 |[],x=>⟨aq _,rfl⟩
 |h::l,x=>by
  obtain ⟨a,b⟩:=al9 th x h;obtain ⟨c,d⟩:=ZT th l (nV th x h);grind
theorem R1 (t:kz) (th:Int):(l6 t th).1.iV.al.length+(l6 t th).1.fH.al.length<=t.iV.al.length+t.fH.al.length/\(l6 t th).1.fH.al.length+(l6 t th).2.al.length<=t.fH.al.length:=by
 unfold l6;obtain ⟨a,b⟩:=ZT th t.iV.al (⟨t.iV,t.fH.j7 λw=>decide (w.ig=th)⟩, .g6);have h:(t.fH.j7 λw=>decide (w.ig=th)).al.length<=t.fH.al.length:=bn _ _;grind [gp.g6]
structure uF (t:ft):Prop where
 vT:t.fx.fR.length<=1000
 yg:t.fx.kE.length<=1000
 zr:t.fx.lS.length<=5000
 zq:0<=t.jA
 Ca:B7 t.gu
def lC (f:ft->Nat) (l:List ft):Nat:=(l.map f).sum
theorem Ny (f) (t:ft) (l):lC f (t::l)=f t+lC f l:=rfl
theorem al6 (f):lC f []=0:=rfl
theorem RZ (f):∀ l m,lC f (l++m)=lC f l+lC f m
 |[],m=>by grind [al6]
 |t::l,m=>by rw [bP,Ny,Ny,RZ f l m];omega
theorem ZS (f) {l t} (h:t∈l):f t<=lC f l:=by
 induction l with
 |nil=>cases h
 |cons a l i=>
  grind [Ny]
theorem E4 {f g d} (l n) (h:∀ t∈l,f (g t)<=f t+d):lC f (l.modify n g)<=lC f l+d:=by
 induction l generalizing n with
 |nil=>simp_all
 |cons t l i=>
  grind [Ny]
theorem ZR {g:ft->ft} {l:List ft} {n:Nat} {t:ft} (h:t∈l.modify n g):t∈l\/∃ s∈l,t=g s:=by
 induction l generalizing n with
 |nil=>simp_all
 |cons a l i=>
  grind
def pg (t:ft):Nat:=t.fA.al.length
def pf (t:ft):Nat:=t.jA.toNat
structure la (T:Nat) (x:fb):Prop where
 pD:x.bf.al.length<=40
 sJ:∀ t∈x.bf.al,uF t
 zo:lC pg x.bf.al+x.fg.fH.al.length<=T
 zn:lC pf x.bf.al+x.fg.fH.al.length<=T
 rS:x.fg.iV.al.length+x.fg.fH.al.length<=T
theorem la.ZP {T U x} (h:la T x) (k:T<=U):la U x:=⟨h.pD,h.sJ,av h.zo k,av h.zn k,av h.rS k⟩
theorem HJ (l n f):(jh l n f).length=l.length:=by
 grind [jh]
theorem Nz {T d e:Nat} {x:fb} (n:Int) (f:ft->ft) (b:x.bf.al.length<=40) (c:∀ t∈x.bf.al,uF t) (q:∀ t,uF t->uF (f t)) (j:∀ t,uF t->pg (f t)<=pg t+d) (l:∀ t,uF t->pf (f t)<=pf t+e)
  (o:lC pg x.bf.al+d+x.fg.fH.al.length<=T) (p:lC pf x.bf.al+e+x.fg.fH.al.length<=T) (i:x.fg.iV.al.length+x.fg.fH.al.length<=T):la T (iC x n f):=by
 have h:∀ (g:ft->Nat) (k:Nat),(∀ t,uF t->g (f t)<=g t+k)->lC g (jh x.bf.al n f)<=lC g x.bf.al+k:=λg k m=>by
  unfold jh;split
  .omega
  .exact E4 _ _ λt a=>m t (c t a)
 refine ⟨by show (jh x.bf.al n f).length<=40;rw [HJ];exact b,λt a=>?_,?_,?_,i⟩
 .have a:t∈jh x.bf.al n f:=a;grind [jh,ZR]
 .have:=h pg d j;show lC pg (jh x.bf.al n f)+x.fg.fH.al.length<=T;omega
 .have:=h pf e l;show lC pf (jh x.bf.al n f)+x.fg.fH.al.length<=T;omega
theorem Nx (u):∀ t,uF t->uF (gl t u):=λt h=>by
 unfold gl;split
 .refine ⟨h.vT,h.yg,h.zr,?_,h.Ca⟩;have:=h.zq;grind
 split
 .refine ⟨h.vT,h.yg,h.zr,?_,h.Ca⟩;have:=h.zq;grind
 split
 .exact ⟨h.vT,h.yg,h.zr,h.zq,h.Ca⟩
 split
 .exact ⟨h.vT,h.yg,h.zr,h.zq,h.Ca⟩
 .exact h
theorem Nw (u t):pg (gl t u)<=pg t+(if u.kX=1 then 1 else 0):=by
 unfold gl pg;split
 .show (t.fA.al++[_]).length<=_;simp_all
 split
 .exact av (bn _ _) (Nat.le_add_right _ _)
 grind
theorem Nv (u t) (h:uF t):pf (gl t u)<=pf t+(if u.kX=1 then 1 else 0):=by
 have:=h.zq;unfold gl pf;grind
theorem HI {T x} (who u) (h:la T x) (b:u.kX≠1):la T (kA x who u):=by
 unfold kA;refine Nz (d:=0) (e:=0) who _ h.pD h.sJ (Nx u) (λt _=>?_) (λt a=>?_) h.zo h.zn h.rS
 .grind [Nw]
 grind [Nv]
theorem ZQ {T x} (g) (h:x.bf.al.length<=40) (a:∀ t∈x.bf.al,uF t) (b:lC pg x.bf.al+1+x.fg.fH.al.length<=T) (c:lC pf x.bf.al+1+x.fg.fH.al.length<=T) (f:x.fg.iV.al.length+x.fg.fH.al.length<=T):la T (lT x g):=
 Nz (d:=1) (e:=1) _ _ h a (Nx _) (λt _=>Nw _ t) (λt i=>Nv _ t i) b c f
theorem RY {T:Nat}:∀ (l:List fK) {x:fb},x.bf.al.length<=40->(∀ t∈x.bf.al,uF t)->lC pg x.bf.al+l.length+x.fg.fH.al.length<=T->lC pf x.bf.al+l.length+x.fg.fH.al.length<=T->x.fg.iV.al.length+x.fg.fH.al.length<=T->la T (l.foldl lT x)
 |[],x,a,b,d,e,f=>⟨a,b,d,e,f⟩
 |g::l,x,a,b,d,e,f=>by
  rw [aL] at d e;rw [List.foldl_cons];have h:=ZQ (T:=T - l.length) (x:=x) g a b om om;have i:(lT x g).fg=x.fg:=rfl;have s:lC pg (lT x g).bf.al<=lC pg x.bf.al+1:=by
   show lC pg (jh _ _ _)<=_;unfold jh;split
   .omega
   .exact E4 _ _ λt _=>Nw _ t
  have j:lC pf (lT x g).bf.al<=lC pf x.bf.al+1:=by
   show lC pf (jh _ _ _)<=_;unfold jh;split
   .omega
   .exact E4 _ _ λt c=>Nv _ t (b t c)
  refine RY l (x:=lT x g) ?_ ?_ (by rw [i];omega) (by rw [i];omega) (by rw [i];exact f)
  .show (jh _ _ _).length<=40;rw [HJ];exact a
  .intro t c;have c:t∈jh x.bf.al _ _:=c;grind [jh,ZR,Nx]
theorem E5 {T x} (h:la T x) (n f) (c:∀ t,uF t->uF (f t)) (a:∀ t,pg (f t)<=pg t) (b:∀ t,pf (f t)<=pf t):la T (iC x n f):=
 Nz (d:=0) (e:=0) n f h.pD h.sJ c (λt _=>a t) (λt _=>b t) h.zo h.zn h.rS
theorem R6 {T x} (h:la T x) (n):la T (lK x n):=E5 h n _ (λ_ k=>⟨k.vT,k.yg,k.zr,k.zq,k.Ca⟩) (λ_=>aq _) λ_=>aq _
theorem ZW {T}:∀ (l:List Int) {x:fb},la T x->la T (l.foldl lK x)
 |[],_,h=>h
 |n::l,_,h=>ZW l (R6 h n)
theorem ami {T x} (h:la T x) (who u) (m:u.kX=1):la (T+1) (rM x who u):=by
 have i:=h.zo;have j:=h.zn;have k:=h.rS;obtain ⟨a,c⟩:=al8 x.fg who u.qI;unfold rM;generalize pc x.fg who u.qI=y at*;obtain ⟨t,b⟩:=y;dsimp only at*;cases b with
 |true=>
  obtain ⟨f,g⟩:=a rfl;rw [ak rfl];unfold kA;refine Nz (d:=1) (e:=1) who _ h.pD h.sJ (Nx u) (λt _=>?_) (λt l=>?_) ?_ ?_ ?_
  .grind [Nw]
  .grind [Nv]
  .grind
  .grind
  grind
 |false=>
  obtain ⟨f,g⟩:=c rfl;rw [ai dd];refine ⟨h.pD,h.sJ,?_,?_,?_⟩
  .grind
  .grind
  grind
theorem ZX {T x} (h:la T x) (who u) (d:u.kX≠1):la T (rL x who u):=by
 have e:=h.zo;have f:=h.zn;have g:=h.rS;obtain ⟨a,c⟩:=ZU x.fg who u.qI;unfold rL;generalize kl x.fg who u.qI=y at*;obtain ⟨t,o⟩:=y;cases o with
 |none=>
  simp only [ej,bA,cK] at a c;refine HI who u ⟨h.pD,h.sJ,?_,?_,?_⟩ d
  .simp_all
  .simp_all
  grind
 |some n=>
  simp only [dJ,du] at a c;have b:la (T - 1) (kA {x with fg:=t} who u):=by
   refine HI who u ⟨h.pD,h.sJ,?_,?_,?_⟩ d
   .grind
   .grind
   grind
  grind [b.zo,b.zn,b.rS,ZQ,b.pD,b.sJ]
theorem ZV (t) (h:uF t):uF (kY t):=⟨h.vT,h.yg,h.zr,bL _,h.Ca⟩
theorem amb {T x} (h:la T x) (who n):la T (nW who x n):=by
 have d:=h.zo;have e:=h.zn;have f:=h.rS;unfold nW;split
 .exact h
 .split
  .obtain ⟨a,c⟩:=R1 x.fg n;generalize l6 x.fg n=y at*;obtain ⟨t,p⟩:=y;dsimp only at*;have b:la T (iC {x with fg:=t} n kY):=by
    refine E5 (x:={x with fg:=t}) ⟨h.pD,h.sJ,?_,?_,?_⟩ n _ ZV (λ_=>ar _) λ_=>ar _
    .grind
    .grind
    grind
   have q:lC pg (jh x.bf.al n kY)<=lC pg x.bf.al+0:=by
    unfold jh;split
    .exact aq _
    .exact E4 _ _ λ_ _=>ar _
   have g:lC pf (jh x.bf.al n kY)<=lC pf x.bf.al+0:=by
    unfold jh;split
    .exact aq _
    .exact E4 _ _ λ_ _=>ar _
   refine RY p.al b.pD b.sJ ?_ ?_ b.rS
   .show lC pg (jh x.bf.al n kY)+p.al.length+t.fH.al.length<=T;omega
   .show lC pf (jh x.bf.al n kY)+p.al.length+t.fH.al.length<=T;omega
  .exact h
theorem R5 {T} (who):∀ (l:List Nat) {x:fb},la T x->la T (l.foldl (nW who) x)
 |[],_,h=>h
 |n::l,_,h=>R5 who l (amb h who n)
structure j4 (T:Nat) (x:fb):Prop where
 kI:kM T x.ep
 lm:la T x
 uG:x.fm.iI.al.length<=T
 tL:0<=x.eZ/\x.eZ<=T
 xg:x.eL.al.length<=x.ep.cy.fZ.al.length+1300
 xf:∀ o∈x.eL.al,g4 o=true
 yh:x.eL.al=[]->x.eL.ie=true
theorem la.Cb {T x y} (h:la T x) (a:y.bf=x.bf) (b:y.fg=x.fg):la T y:=⟨by rw [a];exact h.pD,by rw [a];exact h.sJ,by grind [h.zo],by grind [h.zn],by rw [b];exact h.rS⟩
structure vV (x y:fb):Prop where
 Dl:y.ep=x.ep
 R2:y.fm=x.fm
 R4:y.eZ=x.eZ
 Dm:y.eL=x.eL
theorem vV.R3 (x):vV x x:=⟨rfl,rfl,rfl,rfl⟩
theorem vV.HL {x y z} (h:vV x y) (k:vV y z):vV x z:=⟨k.Dl.trans h.Dl,k.R2.trans h.R2,k.R4.trans h.R4,k.Dm.trans h.Dm⟩
theorem yi (x n f):vV x (iC x n f):=⟨rfl,rfl,rfl,rfl⟩
theorem Kd {α:Type} {f:fb->α->fb} (h:∀ x a,vV x (f x a)):∀ (l:List α) (x:fb),vV x (l.foldl f x)
 |[],x=> .R3 x
 |a::l,x=>(h x a).HL (Kd h l (f x a))
theorem ZZ (x who u):vV x (rM x who u):=by
 unfold rM;split;split
 .exact ⟨rfl,rfl,rfl,rfl⟩
 .exact ⟨rfl,rfl,rfl,rfl⟩
theorem ZY (x who u):vV x (rL x who u):=by
 unfold rL;split
 .exact ⟨rfl,rfl,rfl,rfl⟩
 .exact ⟨rfl,rfl,rfl,rfl⟩
theorem amf (who:Int) (x:fb) (n:Nat):vV x (nW who x n):=by
 unfold nW;split
 .exact .R3 x
 .split
  .split;rename_i t p _;exact (show vV x (iC {x with fg:=t} n kY) from ⟨rfl,rfl,rfl,rfl⟩).HL (Kd (f:=lT) (λx h=>yi x _ _) _ _)
  .exact .R3 x
theorem ame (x:fb) (who:Int):vV x (vK x who):=Kd (amf who) _ x
theorem j4.Dk {T x y} (h:j4 T x) (k:vV x y) (t:la T y):j4 T y:=
 ⟨by rw [k.Dl];exact h.kI,t,by rw [k.R2];exact h.uG,by rw [k.R4];exact h.tL,by rw [k.Dm,k.Dl];exact h.xg,by rw [k.Dm];exact h.xf,by rw [k.Dm];exact h.yh⟩
theorem j4.vU {T x} (h:j4 T x):j4 (T+1) x:=
 ⟨h.kI.ZF,h.lm.ZP (aZ _),c9 h.uG,⟨h.tL.1,by have:=h.tL.2;omega⟩,h.xg,h.xf,h.yh⟩
theorem amh {T x} (h:j4 T x) (c) (a:c.fR.length<=1000) (b:c.kE.length<=1000) (d:c.lS.length<=5000):j4 (T+1) (pC x c).1:=by
 unfold pC;split
 .exact h.vU
 .rename_i e;have l:=h.vU;have f:=h.tL;refine ⟨l.kI,⟨?_,λt hm=>?_,?_,?_,l.lm.rS⟩,l.uG,⟨?_,?_⟩,l.xg,l.xf,l.yh⟩
  .show (x.bf.al++[_]).length<=40;grind
  .rcases aF.1 (show t∈x.bf.al++[w4 c (x.eZ+1)] from hm) with hm|hm
   .exact h.lm.sJ t hm
   .rw [aw.1 hm];exact ⟨a,b,d,bL _,ar _,ar _⟩
  .show lC pg (x.bf.al++[_])+_<=_;rw [RZ];exact l.lm.zo
  .show lC pf (x.bf.al++[_])+_<=_;rw [RZ];exact l.lm.zn
  .grind
  simp_all
theorem Z0 (th u):∀ l:List kF,(EE th u l).length=l.length
 |[]=>rfl
 |w::l=>by
  unfold EE;split
  .rfl
  .rw [aL,Z0 th u l,aL]
theorem amc (g th u):(yV g th u).1.iI.al.length<=g.iI.al.length+1:=by
 unfold yV;split
 .exact aZ _
 split
 .show (EE th u g.iI.al).length<=_;grind [Z0]
 .show (g.iI.al++[_]).length<=_;simp_all
theorem amk {T x} (h:j4 T x) (who):j4 (T+1) (sE x who):=by
 have l:=h.vU;have j:=amc x.fm who (BP x who);have b:=h.uG;unfold sE;generalize yV x.fm who (BP x who)=y at*;obtain ⟨g,k⟩:=y;dsimp only at*;have a:j4 (T+1) {x with fm:=g}:=⟨l.kI,l.lm.Cb rfl rfl,by grind,l.tL,l.xg,l.xf,l.yh⟩;split
 .exact a.Dk (yi _ _ _) (R6 a.lm who)
 .exact a
theorem amd {T:Nat} {x:fb} (h:j4 T x) (who:Int) (full:Bool):j4 T (pA x who full):=by
 unfold pA;split
 .have a:j4 T {x with fm:=⟨x.fm.mC,x.fm.iI.j7 λw=>decide (w.js=who)⟩}:=⟨h.kI,h.lm.Cb rfl rfl,av (bn _ _) h.uG,h.tL,h.xg,h.xf,h.yh⟩;have b:la T (iC {x with fm:=⟨x.fm.mC,x.fm.iI.j7 λw=>decide (w.js=who)⟩} who λt=>{t with gu:=iL 120}):=
   E5 a.lm who _ (λt k=>⟨k.vT,k.yg,k.zr,k.zq,Ns _⟩) (λ_=>aq _) λ_=>aq _
  exact a.Dk ((yi _ _ _).HL (yi _ _ _)) (R6 b who)
 .have c:(vJ x.fm x.eL.al.length).1.iI.al.length<=x.fm.iI.al.length:=bn _ _;generalize vJ x.fm x.eL.al.length=y at*;obtain ⟨g,o⟩:=y;dsimp only at*;have a:j4 T {x with fm:=g}:=⟨h.kI,h.lm.Cb rfl rfl,av c h.uG,h.tL,h.xg,h.xf,h.yh⟩;exact a.Dk (Kd (λx n=>yi x _ _) _ _) (ZW o.al a.lm)
theorem amg {T x} (h:j4 T x) (who u) (a:u.kX≠1):j4 T (w5 x who u):=
 h.Dk ((yi _ _ _).HL (yi _ _ _)) (E5 (HI who u h.lm a) who _ (λ_ k=>⟨k.vT,k.yg,k.zr,k.zq,k.Ca⟩) (λ_=>aq _) λ_=>aq _)
theorem ama {T x} (h:j4 T x) (who u) (s:u.kX≠1):j4 (T+1) (od x who u):=by
 have l:=h.vU;have d:=Nt h.kI (mW x who);have z:=h.xg;unfold od;generalize gA x.ep (mW x who)=y at*;obtain ⟨m,a,ops⟩:=y;have j:=d.EZ.HH;have b:=d.EZ.zi;have f:=d.EZ.B6;have g:=d.alM;have n:=d.RU;dsimp only at*;have i:j4 (T+1) {x with ep:=m,eL:=⟨(x.eL.gj ops.al).ie,(x.eL.gj ops.al).al⟩}:=by
  refine ⟨g,l.lm.Cb rfl rfl,l.uG,l.tL,?_,λo hm=>?_,λq=>?_⟩
  .show (x.eL.al++ops.al).length<=m.cy.fZ.al.length+1300;grind
  .rcases aF.1 (show o∈x.eL.al++ops.al from hm) with hm|hm
   .exact h.xf o hm
   .obtain ⟨e,r,rfl⟩:=aE.1 ((b o).2 (.inr hm));exact f.B1 e r
  .have q:x.eL.al++ops.al=[]:=q;obtain ⟨v,w⟩:=List.append_eq_nil_iff.1 q;show (x.eL.ie && ops.al.isEmpty)=true;rw [h.yh v,w];rfl
 have p:la (T+1) (iC {x with ep:=m,eL:=⟨(x.eL.gj ops.al).ie,(x.eL.gj ops.al).al⟩} who λt=>{t with gu:=a,kf:=x.eZ,j8:=(x.eL.gj ops.al).al.length}):=
  E5 i.lm who _ (λt k=>⟨k.vT,k.yg,k.zr,k.zq,n⟩) (λ_=>aq _) λ_=>aq _
 have c:=i.Dk ((yi _ _ _).HL (yi _ _ _)) (HI who u p s);split
 .exact c.Dk (ame _ _) (R5 who _ c.lm)
 .exact c
theorem amj {T x} (h:j4 T x) (who u):j4 (T+1) (pd x who u):=by
 unfold pd;split
 .rename_i a;exact h.vU.Dk (ZZ _ _ _) (ami h.lm who u a)
 rename_i a;split
 .exact h.vU.Dk (ZY _ _ _) (ZX h.vU.lm who u a)
 grind [ama,amk,amg,h.vU]
theorem R8 {T x} (h:j4 T x) (p full):j4 (T+2) (nN x p full):=by
 have t:=h.tL;have l:=h.vU;have a:j4 (T+1) {x with eZ:=x.eZ+1}:=⟨l.kI,l.lm.Cb rfl rfl,l.uG,⟨by grind,by simp_all⟩,l.xg,l.xf,l.yh⟩;unfold nN;split
 .exact l.vU
 .split
  .exact (amd a _ _).vU
  grind [amj]
theorem R7 {r} (h:(nJ r).2=0):j4 0 (nJ r).1:=by
 unfold nJ at*;have d:(rJ r).2=0->kM 0 (rJ r).1:=λe=>by
  unfold rJ at*;split at e
  .cases e
  .rename_i f;rw [ai f];exact ⟨.aiL, .nil,λo a=>(by cases a),⟨bL _,bL _⟩,ar _,λs b=>(by cases b),ar _,λs b=>(by cases b)⟩
 generalize rJ r=y at*;obtain ⟨m,e⟩:=y;dsimp only at*;split at h
 .omega
 .rename_i c;rw [ai c];exact ⟨d (by simpa using c),⟨ar _,λt g=>(by cases g),aq _,aq _,aq _⟩,aq _,⟨bL _,bL _⟩,ar _,λo a=>(by cases a),λ_=>rfl⟩
end Gw
namespace Go.Proofs.YtffboamedcmpaaaGreatDoor
open Gw
open Go.Am
open Go.Proofs.Tryz Tryz
theorem Dq {T:Nat} {x:fb} (h:la T x) (k:T<=1000000):∀ t∈x.bf.al,Nl t:=λt b=>by
 have a:=h.sJ t b;have c:=ZS pg b;have d:=ZS pf b;have e:=h.zo;have f:=h.zn;have g:pg t=t.fA.al.length:=rfl;have i:pf t=t.jA.toNat:=rfl;have j:=a.zq;exact ⟨om,av a.Ca.1 dd,av a.Ca.2 dd,av a.vT dd,om⟩
theorem Z1 (x:fb) (who:Int) (u:iX) (h:fK) (i:∀ t∈x.bf.al,Nl t):fF prog 235 [.c8 16 0, .eN (fI h)] (eJ (ll x who u)) 32
  (gP 32 (λr es=>r= .gO (.dn [])/\es=ll (lT x h) who u)):=by
 obtain ⟨l,n⟩:=h
 by_cases d:0<=n
 .by_cases e:n<x.bf.al.length
  .obtain ⟨k,rfl,c,s⟩:=EX (f:=λt=>gl t ⟨1,l⟩) d e;have b:lT x ⟨l,k⟩={x with bf:=⟨x.bf.ie,x.bf.al.set k (gl x.bf.al[k] ⟨1,l⟩)⟩}:=by
    grind [lT,iC]
   rw [b];have a:=i x.bf.al[k] (aI c);have A:=Zn x.bf.al[k] ⟨1,l⟩ a.Ka a.RE a.RD a.RF a.RB (.inl rfl);have o:0+(k:Int).toNat*18=k*18:=om;have g:=AI x.bf.al;have L:=za (enc:=gx) (sz:=18) (λ_=>rfl) c;show fF _ _ [.c8 16 0, .eN [.ax .i64 l, .ax .i64 (k:Int)]] _ _ _;refine fz func235 ?_;refine j5 ?_;rw [o];refine gI ?_;rw [o];refine gI ?_;refine cx ?_;refine ⟨_,_,⟨rfl,rfl⟩,rfl,⟨rfl,rfl⟩,⟨?_,rfl,?_,rfl,ae⟩⟩
   .exact congrArg (λn=>gC.dc 235 (ri x who u n)) (cF).symm
   .exact congrArg (gC.eY _) (RH c _)
  .have b:lT x ⟨l,n⟩=x:=by
    unfold lT iC;rw [Nn (.inr (by simp_all))]
   rw [b];show fF _ _ [.c8 16 0, .eN [.ax .i64 l, .ax .i64 n]] _ _ _;refine fz func235 ?_;exact fu
 .have b:lT x ⟨l,n⟩=x:=by
   unfold lT iC;rw [Nn (.inl (by show n<0;omega))]
  rw [b];show fF _ _ [.c8 16 0, .eN [.ax .i64 l, .ax .i64 n]] _ _ _;refine fz func235 ?_;exact fu
theorem amp {T:Nat} (x:fb) (k:Nat) (u:iX) (c:T<=1000000) (b:la T x) (a:k<x.bf.al.length) (d:u.kX=1):fF prog 198 [.c8 16 0] (eJ (ll x k u)) 32
  (gP 32 (λr es=>r= .gO (.dn [])/\es=ll (rM x k u) k u)):=by
 have t:=Dq b c x.bf.al[k] (aI a);have f:=b.rS;have A:=akW x.fg k u.qI om om;unfold rM;generalize pc x.fg k u.qI=y at*;obtain ⟨e,h⟩:=y;dsimp only at*;have B:=Nm {x with fg:=e} k u a t (.inl d);cases h with
 |true=>
  rw [ak rfl];refine fz func198 ?_;exact fu
 |false=>
  rw [ai dd];refine fz func198 ?_;exact fu
theorem amm {T:Nat} (x:fb) (k:Nat) (u:iX) (d:T<=1000000) (a:la T x) (e:k<x.bf.al.length) (c:u.kX=2):fF prog 199 [.c8 16 0] (eJ (ll x k u)) 32
  (gP 32 (λr es=>r= .gO (.dn [])/\es=ll (rL x k u) k u)):=by
 have g:=Dq a d x.bf.al[k] (aI e);have l:=a.rS;have A:=akY x.fg k u.qI om om;have i:=ZX a k u (by rw [c];decide);have b:=HI (T:=T) k u a (by rw [c];decide);unfold rL at*;generalize kl x.fg k u.qI=y at*;obtain ⟨f,o⟩:=y;dsimp only at*;have B:=Nm {x with fg:=f} k u e g (.inr (.inl c));cases o with
 |none=>
  refine fz func199 ?_;exact fu
 |some n=>
  have j:=Z1 (kA {x with fg:=f} k u) k u ⟨u.qI,n⟩ (λt h=>by
   have h:t∈jh x.bf.al k λt=>gl t u:=h
   exact Dq b d t h)
  refine fz func199 ?_;exact jf
theorem amo {T:Nat} (x:fb) (k:Nat) (u:iX) (c:T<=1000000) (q:la T x) (h:k<x.bf.al.length) (o:u.kX=5):fF prog 202 [.c8 16 0] (eJ (ll x k u)) 32
  (gP 32 (λr es=>r= .gO (.dn [])/\es=ll (w5 x k u) k u)):=by
 have m:=Dq q c x.bf.al[k] (aI h);have D:=Nm x k u h m (.inr (.inr (.inr o)));have a:k<(kA x k u).bf.al.length:=by
  show k<(jh x.bf.al k _).length;rw [HJ];exact h
 have L:w5 x k u=iC (kA x k u) k λt=>{t with nu:=(kA x k u).eZ}:=rfl
 rw [L];generalize kA x k u=z at*;obtain ⟨w,g,j,e⟩:=EX (l:=z.bf.al) (n:=k) (f:=λt=>{t with nu:=z.eZ}) om om;obtain rfl:k=w:=om;have v:iC z k (λt=>{t with nu:=z.eZ})={z with bf:=⟨z.bf.ie,z.bf.al.set k {z.bf.al[k] with nu:=z.eZ}⟩}:=by
  grind [iC]
 rw [v];have A:0+(k:Int).toNat*18+12=k*18+12:=om;have d:=AI z.bf.al;refine fz func202 ?_;refine j5 ?_;rw [A];refine cx ?_;refine ⟨_,_,⟨rfl,rfl⟩,rfl,⟨rfl,rfl⟩,⟨?_,rfl,?_,rfl,ae⟩⟩
 .exact congrArg (λn=>gC.dc 235 (ri z k u n)) (cF).symm
 .have B:=J9 (enc:=gx) (sz:=18) (λ_=>rfl) (l:=z.bf.al) (i:=k) a (b:={z.bf.al[k] with nu:=z.eZ}) (k:=k*18+12) (p:=(gx z.bf.al[k]).take 12) (s:=(gx z.bf.al[k]).drop 13) (y:= .ax .i64 z.bf.al[k].nu) (x:= .ax .i64 z.eZ) rfl rfl rfl;exact congrArg (gC.eY _) B
theorem amn (g:py) (th upto:Int) (l:g.iI.al.length<=1000000):er prog 238 [qh g, .ax .i64 th, .ax .i64 upto] (.dn [qh (yV g th upto).1, .eD (yV g th upto).2]):=by
 unfold yV
 by_cases h:upto<=g.mC
 .rw [ak h];exact ak7 g th upto om h
 .rw [ai h]
  by_cases a:mo g th=true
  .rw [ak a];exact ak9 g th upto l h a
  .rw [ai a];exact ak8 g th upto l h (by simpa using a)
theorem amq (x:fb) (k:Nat) (u:iX) (a:x.fm.iI.al.length<=1000000) (b:k<x.bf.al.length):fF prog 201 [.c8 16 0] (eJ (ll x k u)) 32
  (gP 32 (λr es=>r= .gO (.dn [])/\es=ll (sE x k) k u)):=by
 have c:BP x k=x.bf.al[k].j8:=by
  grind [BP]
 have J:=amn x.fm k x.bf.al[k].j8 a;unfold sE;rw [c];generalize yV x.fm k x.bf.al[k].j8=y at*;obtain ⟨g,e⟩:=y;dsimp only at*;have E:=RG {x with fm:=g} k u k;have o:0+(k:Int).toNat*18+9=k*18+9:=om;have f:=AI x.bf.al;have h:=Nj (enc:=gx) (sz:=18) (λ_=>rfl) b (j:=9) (x:= .ax .i64 x.bf.al[k].j8) rfl;refine fz func201 ?_;refine cx ?_;rw [o];refine ⟨_,h,?_⟩;refine cx ?_;cases e with
 |true=>
  rw [ak rfl];exact fu
 |false=>
  rw [ai dd];exact fu
def Dp (x:fb) (k:Nat) (u:iX):fb:=
 kA (iC {x with ep:=(gA x.ep (mW x k)).1,eL:=⟨(x.eL.gj (gA x.ep (mW x k)).2.2.al).ie,(x.eL.gj (gA x.ep (mW x k)).2.2.al).al⟩} k λt=>
  {t with gu:=(gA x.ep (mW x k)).2.1,kf:=x.eZ,j8:=(x.eL.gj (gA x.ep (mW x k)).2.2.al).al.length}) k u
theorem aml (x:fb) (k:Nat) (u:iX):od x k u=if (mW x k).gD=13/\(gA x.ep (mW x k)).2.1.qc=0 then vK (Dp x k u) k else Dp x k u:=rfl
end Go.Proofs.YtffboamedcmpaaaGreatDoor
