import Derived.Lib.Builder
import Derived.Lib.UnsafeStr
import Derived.Test.YtffboamedcmpaaaGreatDoorAs
set_option linter.all false
set_option maxHeartbeats 4000000
set_option maxRecDepth 100000
namespace Go.Proofs.YtffboamedcmpaaaGreatDoor
open Gw
open Go.Am
open Go.Proofs.Tryz Tryz
noncomputable def aow (c:Code):List (Code×Code):=
 Code.rec (motive:=λ_=>List (Code×Code)) [] (λ_ _ _=>[]) (λ_ _ x y=>x++y) (λ_ _ _ x y=>x++y) (λ_ _ x=>x) (λ_ x=>x) (λ_ _ x y _ _=>[(x,y)]) (λ_=>[]) (λ_ x=>x) (λ_=>[]) (λ_=>[]) [] (λ_=>[]) c
noncomputable def NV (fn:Func) (i:Nat):Code×Code:=match fn.body with
 |some c=>match p9 (aow c) i with|some x=>x|none=>(.skip, .skip)
 |none=>(.skip, .skip)
theorem abD (n:Nat):er prog 115 [.ax .i64 n] (.ax .u8 (lr n)):=by
 have e:((n:Int)).tmod 250=((n % 250:Nat):Int):=afD n 250;refine fS func115 ?_
 conv=>whnf
 grind [fq,IntKind.wrap_u8,lr]
theorem SL (n:Nat) (h:n<9223372036854775808):(gh n).length<=9:=by
 have a:=XG n h;have b:=GL n h;have c:(QM n).size=(gh n).length:=rfl;omega
theorem abE:∀ (s:List UInt8),kT (ir s)=true
 |[]=>rfl
 |_::s=>abE s
theorem abF:∀ (s:List UInt8),pr (ir s)=true
 |[]=>rfl
 |_::s=>abF s
theorem abC:∀ (s:List UInt8),mB (ir s)=ir s
 |[]=>rfl
 |c::s=>by
  show b9.ax .u8 c.toNat::mB (ir s)=b9.ax .u8 c.toNat::ir s;rw [abC s]
theorem abB:∀ (s:List UInt8),(jI s).flatten=ir s
 |[]=>rfl
 |c::s=>by
  show b9.ax .u8 c.toNat::(jI s).flatten=b9.ax .u8 c.toNat::ir s;rw [abB s]
def H7 (m:b9) (src:List b9) (L:Nat):List b9:=
 [m,jQ,jQ,jQ,jQ,jQ,jQ,jQ,jQ,jQ,jQ,jQ,jQ,jQ,jQ,m].take (0+(1:Int).toNat*1)++src.take (min L (16 - (1:Int).toNat)*1)++
 [m,jQ,jQ,jQ,jQ,jQ,jQ,jQ,jQ,jQ,jQ,jQ,jQ,jQ,jQ,m].drop (0+(1:Int).toNat*1+min L (16 - (1:Int).toNat)*1)
theorem aos {m:Nat} (i:m<256) {P:List UInt8} (f:P.length<=14) {src:List b9} {L:Nat} (h:L=P.length) (d:src=ir P):H7 (.ax .u8 (m:Int)) src L=ir (rT m P):=by
 subst h d;have e:(1:Int).toNat=1:=rfl;have a:min P.length (16 - 1)*1=P.length:=by omega
 have b:([.ax .u8 (m:Int),jQ,jQ,jQ,jQ,jQ,jQ,jQ,jQ,jQ,jQ,jQ,jQ,jQ,jQ, .ax .u8 (m:Int)]:List b9)= .ax .u8 (m:Int)::(List.replicate 14 (b9.ax .u8 0)++[.ax .u8 (m:Int)]):=rfl;have c:((UInt8.ofNat m).toNat:Int)=m:=by simp;omega
 unfold H7 rT;rw [e,a,b,show 0+1*1+P.length=P.length+1 by omega,List.drop_succ_cons,cB (by simpa using f),List.drop_replicate,bj (l:=ir P) (by grind [rs])];show [b9.ax .u8 (m:Int)]++ir P++_=b9.ax .u8 ((UInt8.ofNat m).toNat:Int)::ir ((P++List.replicate (14 - P.length) 0)++[UInt8.ofNat m]);rw [c,LR,LR];have g:ir (List.replicate (14 - P.length) 0)=List.replicate (14 - P.length) (b9.ax .u8 0):=by grind [ir,List.map_replicate]
 grind [ir]
theorem aot (n:Nat):mU [n]=gh n:=by simp [mU]
theorem KC (s:Int) (p:List UInt8):er prog 60 [.ax .i64 s, .cp p] (.dn [.cp (AO s p), .ax .i64 (AP s p)]):=by
 unfold AO AP;refine fS func60 ?_
 conv=>whnf
 refine ⟨λa=>?_,λa=>?_⟩
 .have a:=ah a;have e:oA s p=false:=by grind [oA]
  rw [e,ai dd,ai dd]
  conv=>whnf
  repeat ((first|refine ⟨λ_=>?_,λh=>absurd h dd⟩|refine ⟨λh=>absurd h dd,λ_=>?_⟩);(conv=>whnf))
 have a:=ag a
 conv=>whnf
 refine ⟨λb=>?_,λb=>?_⟩
 .have b:=ah b;have e:oA s p=false:=by grind [oA]
  rw [e,ai dd,ai dd]
  conv=>whnf
  repeat ((first|refine ⟨λ_=>?_,λh=>absurd h dd⟩|refine ⟨λh=>absurd h dd,λ_=>?_⟩);(conv=>whnf))
 have b:=ag b
 conv=>whnf
 refine ⟨λc=>?_,λc=>?_⟩
 .have c:=ah c;have e:oA s p=false:=by grind [oA]
  rw [e,ai dd,ai dd]
  conv=>whnf
 have c:=ag c;have e:oA s p=true:=by grind [oA]
 rw [e,ak rfl,ak rfl];obtain ⟨n,rfl⟩:∃ n:Nat,s=n:=⟨s.toNat,om⟩;rw [aC];have K:=SL n om;have j:=JO [] false [(n:Int)] (λz L=>by grind) (by simp);rw [bp,cJ,aC,aot,bE] at j;have F:=G9 (gh n) p om;have N:(nF (gh n) p).length<=40100:=by
  have:=SL p.length om;grind [nF]
 have H:=aop (nF (gh n) p) om;have O:(rj (nF (gh n) p)).length<=40104:=by
  grind [rj,vW]
 have o:=G9 [] (rj (nF (gh n) p)) (by simp;omega);have P:(ny n p).length<=40200:=by
  grind [SL,nF,ny]
 rw [show nF [] (rj (nF (gh n) p))=ny n p from rfl] at o;unfold mX;generalize ny n p=B at*;refine cx ?_;refine fz func114 ?_
 conv=>whnf
 refine iE.Jc 25 5 1 rfl ?_;refine iE.Jb [(2, .c8 0 0),(9, .c8 25 0)] ⟨rfl,rfl,rfl,rfl,trivial⟩ rfl rfl ?_;refine fz func184 ?_
 conv=>whnf
 refine iE.gY (λk:Nat=>[(.ct 0, .bg (.gG 32)),(.ct 1, .bg (.c8 27 0)),(.ct 3, .bg (.ax .i64 (14*k:Nat))),(.ay 0, .dc 3 [.ax .i64 n]),(.ay 23, .eY 5 (ir B)),
  (.ay 25, .dc 126 [.a8 (decide (k=0)) 1 (jI (sM (lr n) B k)) (.hJ 31)]),(.eT 31, .eU 5 1 (16*k)),(.ay 27, .dc 126 [.eP 23 0 1 B.length true]),
  (.ay 32, .kn .ready none 52 [(2, .c8 0 0),(9, .c8 25 0)] [37] (NV f60 0).1 (NV f60 0).2)]) 33
  (λk=>k<=kR B) (λk=>kR B - k) dd 0 (ar _) ?_ ?_
 .trivial
 rintro k J;refine gk ?_;have y:=abD n
 by_cases x:k<kR B
 .have i:14*k<B.length:=by grind [kR]
  have t:decide (((14*k:Nat):Int)<(B.length:Int))=true:=aO om;have g:IntKind.i64.wrap (((14*k:Nat):Int)+14)=((14*k+14:Nat):Int):=by grind [fq]
  have r:min ((14*k+14:Nat):Int) (B.length:Int)=((min (14*k+14) B.length:Nat):Int):=om
  conv=>whnf
  refine ⟨λ_=>?_,λh=>absurd (t.symm.trans h) dd⟩
  conv=>whnf
  rw [g,r];refine ⟨⟨om,by grind,by grind,bL _,by grind⟩,?_⟩
  conv=>whnf
  refine F9.Jd jy m8 rfl rfl rfl (λl=>?_);refine cx ?_
  repeat (
      refine ⟨by first|kernel_rfl|decide,?_⟩
      conv=>whnf)
  have A:0+(((14*k:Nat):Int)).toNat*1=14*k:=om;have D:(((min (14*k+14) B.length:Nat):Int).toNat - (((14*k:Nat):Int)).toNat)*1=(qj B k).length:=by rw [aC,aC,E7];omega
  have E:List.take (qj B k).length (List.drop (14*k) (ir B))=ir (qj B k):=by
   grind [qj,LU,LS,rs]
  have q:=E7 B k;have Q:=rs B;refine ⟨⟨?_,?_⟩,?_⟩
  .grind
  .show kT (List.take ((((min (14*k+14) B.length:Nat):Int).toNat - (((14*k:Nat):Int)).toNat)*1) (List.drop (0+(((14*k:Nat):Int)).toNat*1) (ir B)))=true;grind [abE]
  conv=>whnf
  refine ⟨(aq 16:_),?_⟩
  conv=>whnf
  have m:lr n<256:=by unfold lr;omega
  have R:H7 (.ax .u8 (lr n:Int)) (List.take ((((min (14*k+14) B.length:Nat):Int).toNat - (((14*k:Nat):Int)).toNat)*1) (List.drop (0+(((14*k:Nat):Int)).toNat*1) (ir B))) (((min (14*k+14) B.length:Nat):Int).toNat - (((14*k:Nat):Int)).toNat)=ir (rT (lr n) (qj B k)):=
   aos m (by rw [q];omega) om (by rw [A,D,E])
  have f:(rT (lr n) (qj B k)).length=16:=Sj _ (by rw [q];omega);have d:=n7 (sM (lr n) B k);rw [E8] at d;have w:k<=40200:=om;refine ⟨jI (rT (lr n) (qj B k)),?_⟩
  conv=>whnf
  refine ⟨⟨by rw [n7,f],λI u=>by grind [jI],?_,?_,?_⟩,?_⟩
  .show 0+16*1<=(H7 (.ax .u8 (lr n:Int)) (List.take ((((min (14*k+14) B.length:Nat):Int).toNat - (((14*k:Nat):Int)).toNat)*1) (List.drop (0+(((14*k:Nat):Int)).toNat*1) (ir B))) (((min (14*k+14) B.length:Nat):Int).toNat - (((14*k:Nat):Int)).toNat)).length;grind [rs]
  .show mB (((H7 (.ax .u8 (lr n:Int)) (List.take ((((min (14*k+14) B.length:Nat):Int).toNat - (((14*k:Nat):Int)).toNat)*1) (List.drop (0+(((14*k:Nat):Int)).toNat*1) (ir B))) (((min (14*k+14) B.length:Nat):Int).toNat - (((14*k:Nat):Int)).toNat)).drop 0).take (16*1))=_;grind [rs,abC,abB]
  .show pr (((H7 (.ax .u8 (lr n:Int)) (List.take ((((min (14*k+14) B.length:Nat):Int).toNat - (((14*k:Nat):Int)).toNat)*1) (List.drop (0+(((14*k:Nat):Int)).toNat*1) (ir B))) (((min (14*k+14) B.length:Nat):Int).toNat - (((14*k:Nat):Int)).toNat)).drop 0).take (16*1))=true;grind [rs,abF]
  conv=>whnf
  refine ⟨⟨d.symm,ji (by grind [n7]) dd⟩,?_⟩
  conv=>whnf
  refine ⟨eI,?_⟩
  conv=>whnf
  refine ⟨k+1,om,by grind,rfl,rfl,rfl,rfl,?_,rfl,rfl,rfl,rfl,rfl,?_,rfl,?_,af⟩
  .show gC.bg (b9.ax .i64 (IntKind.i64.wrap (((14*k:Nat):Int)+14)))=gC.bg (b9.ax .i64 ((14*(k+1):Nat):Int));rw [g];rfl
  .show gC.dc _ [b9.a8 (decide (k=0) && false) 1 (jI (sM (lr n) B k)++jI (rT (lr n) (qj B k))) (.hJ 31)]=gC.dc _ [b9.a8 (decide (k+1=0)) 1 (jI (sM (lr n) B (k+1))) (.hJ 31)];grind [Sh,jI]
  .show gC.eU _ 1 ((jI (sM (lr n) B k)).length+(jI (rT (lr n) (qj B k))).length)=gC.eU _ 1 (16*(k+1));grind [n7]
 .obtain rfl:k=kR B:=om;have v:B.length<=14*kR B:=by unfold kR;omega
  have t:decide (((14*kR B:Nat):Int)<(B.length:Int))=false:=aJ om
  conv=>whnf
  refine ⟨λh=>absurd (t.symm.trans h) dd,λ_=>?_⟩
  conv=>whnf
  refine ⟨sM (lr n) B (kR B),?_⟩
  conv=>whnf
  refine ⟨⟨.inl rfl,rfl⟩,?_⟩
  conv=>whnf
theorem aoA (s:List UInt8) (m:Nat) (hs:s.length<=1048576):er prog 261 [.cp s, .ax .u8 m] (.cp (zw s m)):=by
 refine fS func261 ?_
 conv=>whnf
 refine fz func290 ?_
 conv=>whnf
 refine iE.Jc 2 5 1 rfl ?_;refine iE.Jb [(2, .c8 0 0),(5, .c8 2 0),(6, .c8 3 0)] ⟨rfl,rfl,rfl,rfl,rfl,rfl,trivial⟩ rfl rfl ?_;refine fz func308 ?_
 conv=>whnf
 refine iE.gY (X:=Nat×List UInt8×Nat) (λx=>[(.ct 0, .bg (.gG 13)),(.ct 1, .bg (.c8 7 0)),(.ct 2, .bg (.c8 8 0)),(.ct 4, .bg (.ax .i64 (16*x.1:Nat))),(.ay 0, .dc 9 [.cp s]),
  (.ay 2, .dc 126 [.a8 (decide (x.1=0)) 1 (jI x.2.1) (.hJ 12)]),(.eT 12, .eU 5 1 (14*x.1)),(.ay 3, .dc 3 [.ax .i64 (x.2.2:Nat)]),(.ay 7, .dc 9 [.cp s]),(.ay 8, .dc 5 [.ax .u8 m]),
  (.ay 13, .kn .ready none 55 [(2, .c8 0 0),(5, .c8 2 0),(6, .c8 3 0)] [14] (NV f261 0).1 (NV f261 0).2)]) 14
  (λx=>x.1<=s.length/\x.2.1.length=14*x.1/\x.2.2<=2097152/\∃ f,s.length<f+x.1/\zw s m=zx (AQ s m f x.1 x.2.1 x.2.2)) (λx=>s.length - x.1) dd (0,[],0) ⟨ar _,rfl,dd,s.length+1,om,rfl⟩ ?_ ?_
 .trivial
 rintro ⟨k,b,e⟩ ⟨Z,T,O,f,Y,w⟩;simp only at Z T O Y w;refine gk ?_;have J:IntKind.i64.wrap (((16*k:Nat):Int)+16)=((16*k+16:Nat):Int):=by grind [fq]
 conv=>whnf
 rw [J];have p:gC.dc 126 [b9.a8 (decide (k=0) && false) 1 (jI b++jI (((oR s k).take 15).drop 1)) (.hJ 12)]=gC.dc 126 [b9.a8 (decide (k+1=0)) 1 (jI (b++((oR s k).take 15).drop 1)) (.hJ 12)]:=by
  grind [jI]
 have y:((16*k+16:Nat):Int)=((16*(k+1):Nat):Int):=om
 by_cases i:16*k+16<=s.length
 .have v:decide (((16*k+16:Nat):Int)<=(s.length:Int))=true:=aO om;obtain ⟨f,rfl⟩:∃ g,f=g+1:=⟨f - 1,om⟩;rw [AQ,ak i] at w;have P:=aan i;have B:=aag P;have R:=J;refine ⟨λ_=>?_,λh=>absurd (v.symm.trans h) dd⟩
  conv=>whnf
  rw [J];refine ⟨⟨om,om,om⟩,?_⟩;rw [aC,aC];rw [show (s.take (16*k+16)).drop (16*k)=oR s k from rfl];unfold uH at w B;generalize oR s k=c at*;have U:c[(0:Int).toNat]? =some (c.getD 0 0):=by simp_all
  have K:c[(15:Int).toNat]? =some (c.getD 15 0):=by simp_all
  generalize c.getD 0 0=I at*;generalize c.getD 15 0=o at*
  conv=>whnf
  refine ⟨I,?_⟩
  conv=>whnf
  refine ⟨⟨dd,U⟩,?_⟩
  conv=>whnf
  refine ⟨λF=>?_,λF=>?_⟩
  .have F:I.toNat≠m:=by
    grind
   rw [ak (.inl F)] at w;refine Ae ?_;rw [w];unfold zx
   by_cases z:e=0
   .rw [ak (.inl z)];have t:(((e:Nat):Int)==0)=true:=by rw [z];rfl
    refine ⟨λ_=>?_,λh=>absurd (t.symm.trans h) dd⟩
    conv=>whnf
   .have t:(((e:Nat):Int)==0)=false:=by simp;omega
    refine ⟨λh=>absurd (t.symm.trans h) dd,λ_=>?_⟩
    conv=>whnf
    refine ⟨λq=>?_,λq=>?_⟩
    .have q:=ah (show decide ((((jI b).length:Nat):Int)<((e:Nat):Int))=true from q);rw [n7] at q;rw [ak (.inr (by simp only;omega))]
     conv=>whnf
    .have q:=ag (show decide ((((jI b).length:Nat):Int)<((e:Nat):Int))=false from q);rw [n7] at q;rw [ai (λh=>h.elim z (by simp only;omega))]
     conv=>whnf
     refine ⟨b,?_⟩
     conv=>whnf
     refine ⟨⟨.inl rfl,rfl⟩,?_⟩
     conv=>whnf
  have F:I.toNat=m:=by
   grind
  conv=>whnf
  refine ⟨o,?_⟩
  conv=>whnf
  refine ⟨⟨dd,K⟩,?_⟩
  conv=>whnf
  refine ⟨λH=>?_,λH=>?_⟩
  .have H:o.toNat≠m:=by
    grind
   rw [ak (.inr H)] at w;refine Ae ?_;rw [w];unfold zx
   by_cases z:e=0
   .rw [ak (.inl z)];have t:(((e:Nat):Int)==0)=true:=by rw [z];rfl
    refine ⟨λ_=>?_,λh=>absurd (t.symm.trans h) dd⟩
    conv=>whnf
   .have t:(((e:Nat):Int)==0)=false:=by simp;omega
    refine ⟨λh=>absurd (t.symm.trans h) dd,λ_=>?_⟩
    conv=>whnf
    refine ⟨λq=>?_,λq=>?_⟩
    .have q:=ah (show decide ((((jI b).length:Nat):Int)<((e:Nat):Int))=true from q);rw [n7] at q;rw [ak (.inr (by simp only;omega))]
     conv=>whnf
    .have q:=ag (show decide ((((jI b).length:Nat):Int)<((e:Nat):Int))=false from q);rw [n7] at q;rw [ai (λh=>h.elim z (by simp only;omega))]
     conv=>whnf
     refine ⟨b,?_⟩
     conv=>whnf
     refine ⟨⟨.inl rfl,rfl⟩,?_⟩
     conv=>whnf
  have H:o.toNat=m:=by
   grind
  rw [ai (λh=>h.elim (λh=>h F) (λh=>h H))] at w
  conv=>whnf
  refine ⟨⟨dd,dd,om⟩,?_⟩;rw [show (15:Int).toNat=15 from rfl,show (1:Int).toNat=1 from rfl];have D:=JP ((c.take 15).drop 1) om;have A:=n7 b;rw [T] at A
  conv=>whnf
  refine ⟨eI,eI,?_⟩;refine F9.Jd jy m8 rfl rfl rfl (λl=>?_)
  conv=>whnf
  refine ⟨⟨A.symm,ji (by grind) dd⟩,?_⟩
  conv=>whnf
  have Q:((c.take 15).drop 1).length=14:=B;have hB:(b++(c.take 15).drop 1).length=14*k+14:=by simp_all
  refine ⟨λN=>?_,λN=>?_⟩
  .obtain rfl:e=0:=by
    simp_all
   conv=>whnf
   rcases E:lI ((c.take 15).drop 1) with _|⟨n,u⟩
   .rw [show uD ((c.take 15).drop 1)= .dn [.ax .i64 0, .cp [], .ax .i64 40] from by grind [uD]] at D;refine cx ?_;refine Ae ?_;have a:xj s (b++(c.take 15).drop 1) ((c.take 15).drop 1) 0=(true,0):=by grind [xj]
    rw [a,ak rfl] at w;have z:(0:Nat)=0:=rfl;rw [w];unfold zx;rw [ak (.inl rfl)];refine ⟨λ_=>?_,λh=>absurd (show true=false from h) dd⟩
    conv=>whnf
   .have hu:=am4 _ E;rw [Q] at hu;rw [show uD ((c.take 15).drop 1)= .dn [.ax .i64 (n:Int), .cp (((c.take 15).drop 1).drop u), .ax .i64 0] from by grind [uD]] at D;have e5:IntKind.i64.wrap ((((c.take 15).drop 1).length:Int) - ((((c.take 15).drop 1).drop u).length:Int))=(u:Int):=by grind [fq]
    refine cx ?_;refine Ae ?_;refine ab (λW=>?_) λW=>?_
    .have a:xj s (b++(c.take 15).drop 1) ((c.take 15).drop 1) 0=(true,0):=by
      grind [xj]
     rw [a,ak rfl] at w;have z:(0:Nat)=0:=rfl;refine Ae ?_;rw [w];unfold zx;rw [ak (.inl rfl)];refine ⟨λ_=>?_,λh=>absurd (show true=false from h) dd⟩
     conv=>whnf
    .have S:IntKind.i64.wrap (IntKind.i64.wrap ((((c.take 15).drop 1).length:Int) - ((((c.take 15).drop 1).drop u).length:Int))+(n:Int))=((u+n:Nat):Int):=by grind [fq]
     have a:xj s (b++(c.take 15).drop 1) ((c.take 15).drop 1) 0=(decide (u+n<=14*k+14),u+n):=by
      grind [xj]
     rw [a] at w
     conv=>whnf
     try rw [S]
     have j:(jI b++((c.take 15).drop 1).map λc=>[b9.ax .u8 c.toNat]).length=14*k+14:=by simp_all
     have L:(((c.take 15).drop 1).map λc:UInt8=>[b9.ax .u8 (c.toNat:Int)]).isEmpty=false:=by
      grind
     have p:gC.dc 126 [b9.a8 (decide (k=0) && (((c.take 15).drop 1).map λc:UInt8=>[b9.ax .u8 (c.toNat:Int)]).isEmpty) 1 (jI b++(((c.take 15).drop 1).map λc:UInt8=>[b9.ax .u8 (c.toNat:Int)])) (.hJ 12)]=gC.dc 126 [b9.a8 (decide (k+1=0)) 1 (jI (b++(c.take 15).drop 1)) (.hJ 12)]:=by
      grind [jI]
     have r:gC.eU 5 1 ((jI b).length+(((c.take 15).drop 1).map λc=>[b9.ax .u8 c.toNat]).length)=gC.eU 5 1 (14*(k+1)):=by grind
     refine ⟨λd=>?_,λd=>?_⟩
     .have d:(u+n)<=14*k+14:=by
       grind
      rw [aO d,ak rfl] at w;refine Ae ?_;have z:u+n≠0:=om;rw [w];unfold zx;have t:((((u+n):Nat):Int)==0)=false:=by simp;omega
      refine ⟨λh=>absurd (t.symm.trans h) dd,λ_=>?_⟩
      conv=>whnf
      refine ⟨λq=>?_,λq=>?_⟩
      .have q:=ah (show decide ((((jI b++((c.take 15).drop 1).map λc=>[b9.ax .u8 c.toNat]).length:Nat):Int)<(((u+n):Nat):Int))=true from q);rw [j] at q;rw [ak (.inr om)]
       conv=>whnf
      .have q:=ag (show decide ((((jI b++((c.take 15).drop 1).map λc=>[b9.ax .u8 c.toNat]).length:Nat):Int)<(((u+n):Nat):Int))=false from q);rw [j] at q;rw [ai (λh=>h.elim z (by simp_all))]
       conv=>whnf
       refine ⟨(b++(c.take 15).drop 1),?_⟩
       conv=>whnf
       refine ⟨⟨.inl rfl,(aU (f:=λc:UInt8=>[b9.ax .u8 c.toNat])).symm⟩,?_⟩
       conv=>whnf
     .have d:¬(u+n)<=14*k+14:=by
       grind
      rw [aJ d,ai dl] at w;refine Ae ?_;exact ⟨(k+1,b++(c.take 15).drop 1,(u+n)),⟨by simp only;omega,om,by simp only;omega,f,by simp only;omega,w⟩,by grind,rfl,rfl,rfl,rfl,rfl,rfl,by rw [<-y];exact congrArg _ (congrArg _ R),rfl,rfl,rfl,p,rfl,r,af⟩
  .have hnz:e≠0:=by
    simp_all
   have S:True:=trivial;have a:xj s (b++(c.take 15).drop 1) ((c.take 15).drop 1) e=(decide (e<=14*k+14),e):=by
    grind [xj]
   rw [a] at w
   conv=>whnf
   have j:(jI b++((c.take 15).drop 1).map λc=>[b9.ax .u8 c.toNat]).length=14*k+14:=by simp_all
   have L:(((c.take 15).drop 1).map λc:UInt8=>[b9.ax .u8 (c.toNat:Int)]).isEmpty=false:=by
    grind
   have p:gC.dc 126 [b9.a8 (decide (k=0) && (((c.take 15).drop 1).map λc:UInt8=>[b9.ax .u8 (c.toNat:Int)]).isEmpty) 1 (jI b++(((c.take 15).drop 1).map λc:UInt8=>[b9.ax .u8 (c.toNat:Int)])) (.hJ 12)]=gC.dc 126 [b9.a8 (decide (k+1=0)) 1 (jI (b++(c.take 15).drop 1)) (.hJ 12)]:=by
    grind [jI]
   have r:gC.eU 5 1 ((jI b).length+(((c.take 15).drop 1).map λc=>[b9.ax .u8 c.toNat]).length)=gC.eU 5 1 (14*(k+1)):=by grind
   refine ⟨λd=>?_,λd=>?_⟩
   .have d:e<=14*k+14:=by
     grind
    rw [aO d,ak rfl] at w;refine Ae ?_;rw [w];unfold zx
    by_cases z:e=0
    .rw [ak (.inl z)];have t:(((e:Nat):Int)==0)=true:=by rw [z];rfl
     refine ⟨λ_=>?_,λh=>absurd (t.symm.trans h) dd⟩
     conv=>whnf
    .have t:(((e:Nat):Int)==0)=false:=by simp;omega
     refine ⟨λh=>absurd (t.symm.trans h) dd,λ_=>?_⟩
     conv=>whnf
     refine ⟨λq=>?_,λq=>?_⟩
     .have q:=ah (show decide ((((jI b++((c.take 15).drop 1).map λc=>[b9.ax .u8 c.toNat]).length:Nat):Int)<((e:Nat):Int))=true from q);rw [j] at q;rw [ak (.inr om)]
      conv=>whnf
     .have q:=ag (show decide ((((jI b++((c.take 15).drop 1).map λc=>[b9.ax .u8 c.toNat]).length:Nat):Int)<((e:Nat):Int))=false from q);rw [j] at q;rw [ai (λh=>h.elim z (by grind))]
      conv=>whnf
      refine ⟨(b++(c.take 15).drop 1),?_⟩
      conv=>whnf
      refine ⟨⟨.inl rfl,(aU (f:=λc:UInt8=>[b9.ax .u8 c.toNat])).symm⟩,?_⟩
      conv=>whnf
   .have d:¬e<=14*k+14:=by
     grind
    rw [aJ d,ai dl] at w;refine Ae ?_;exact ⟨(k+1,b++(c.take 15).drop 1,e),⟨by simp only;omega,om,by simp only;omega,f,by simp only;omega,w⟩,by grind,rfl,rfl,rfl,rfl,rfl,rfl,by rw [<-y];exact congrArg _ (congrArg _ R),rfl,rfl,rfl,p,rfl,r,af⟩
 .have v:decide (((16*k+16:Nat):Int)<=(s.length:Int))=false:=aJ om;obtain ⟨f,rfl⟩:∃ g,f=g+1:=⟨f - 1,om⟩;rw [AQ,ai i] at w;refine ⟨λh=>absurd (v.symm.trans h) dd,λ_=>?_⟩;refine Ae ?_;rw [w];unfold zx
  by_cases z:e=0
  .rw [ak (.inl z)];have t:(((e:Nat):Int)==0)=true:=by rw [z];rfl
   refine ⟨λ_=>?_,λh=>absurd (t.symm.trans h) dd⟩
   conv=>whnf
  .have t:(((e:Nat):Int)==0)=false:=by simp;omega
   refine ⟨λh=>absurd (t.symm.trans h) dd,λ_=>?_⟩
   conv=>whnf
   refine ⟨λq=>?_,λq=>?_⟩
   .have q:=ah (show decide ((((jI b).length:Nat):Int)<((e:Nat):Int))=true from q);rw [n7] at q;rw [ak (.inr (by simp only;omega))]
    conv=>whnf
   .have q:=ag (show decide ((((jI b).length:Nat):Int)<((e:Nat):Int))=false from q);rw [n7] at q;rw [ai (λh=>h.elim z (by simp only;omega))]
    conv=>whnf
    refine ⟨b,?_⟩
    conv=>whnf
    refine ⟨⟨.inl rfl,rfl⟩,?_⟩
    conv=>whnf
theorem aoy (s p:List UInt8):er prog 239 [.cp s, .cp p] (.eD (xh p s)):=by
 unfold xh;refine fS func239 ?_
 conv=>whnf
 refine ab (λh=>?_) λh=>?_
 .refine cx ?_;simp_all
 .conv=>whnf
  grind
theorem aoz (s p:List UInt8):er prog 260 [.cp s, .cp p] (.eD (xh p s)):=by
 refine fS func260 ?_
 conv=>whnf
 refine fF.kc (aoy s p) rfl ?_
 conv=>whnf
theorem SM (s:List UInt8):tD s=match vh s with
  |none=> .dn [.cp [], .cp [], .ax .i64 40]
  |some (x,y)=> .dn [.cp x, .cp y, .ax .i64 0]:=by
 unfold tD vh uw;grind
theorem aov (s:List UInt8):KB s=match Cd s with
  |none=> .dn [.cp [], .eD false]
  |some x=> .dn [.cp x, .eD true]:=by
 grind [KB,Cd]
def NW (o:Option (List UInt8×Nat)):b9:=match o with
 |none=> .dn [.cp [], .ax .i64 0, .eD false]
 |some (p,k)=> .dn [.cp p, .ax .i64 (k:Int), .eD true]
theorem abG (s:List UInt8) (l:Int) (w:s.length<=1048576):er prog 223 [.cp s, .ax .i64 l] (NW (qk s l)):=by
 unfold qk;refine fS func223 ?_
 conv=>whnf
 refine ⟨λd=>?_,λd=>?_⟩
 .have d:=ah d;rw [ak (.inl d)];exact fu
 have d:=ag d
 conv=>whnf
 refine ⟨λf=>?_,λf=>?_⟩
 .have f:=ah f;rw [ak (.inr f)];exact fu
 have f:=ag f;rw [ai (λh=>h.elim d f)];obtain ⟨R,c⟩:∃ R,R=NW (zu s l (zw s (lr l.toNat))):=⟨_,rfl⟩;rw [<-c];obtain ⟨n,rfl⟩:∃ n:Nat,l=n:=⟨l.toNat,om⟩;rw [aC] at c;have x:=am2 s (lr n);have A:=abD n;have B:=aoA s (lr n) w;generalize zw s (lr n)=W at*;have k:=G8 W om;rw [SM] at k;refine cx ?_;rcases a:vh W with _|⟨y,H⟩
 .rw [a] at k;refine cx ?_;rw [c,zu,a];rfl
 rw [a] at k;have z:=aaq a;have o:=aoo y om;rw [aov] at o;refine cx ?_;rcases O:Cd y with _|b
 .rw [O] at o;refine cx ?_;rw [c];simp only [zu,a,O];rfl
 rw [O] at o;have v:=amW O;refine cx ?_;have t:=JP b om;rcases i:lI b with _|⟨q,u⟩
 .rw [show uD b= .dn [.ax .i64 0, .cp [], .ax .i64 40] from by grind [uD]] at t;refine cx ?_;rw [c];simp only [zu,a,O,Dt,i];rfl
 rw [show uD b= .dn [.ax .i64 (q:Int), .cp (b.drop u), .ax .i64 0] from by grind [uD]] at t;refine cx ?_;have r:=G8 (b.drop u) (by grind);rw [SM] at r;rcases T:vh (b.drop u) with _|⟨p,F⟩
 .rw [T] at r;refine cx ?_;rw [c];simp only [zu,a,O,Dt,i,T];rfl
 rw [T] at r;refine cx ?_;have j:=KC n p;unfold AO AP at j;rw [aC] at j
 by_cases m:oA n p=true
 .rw [ak m,ak m] at j;have D:=aoz s (mX n p);refine cx ?_;refine ⟨λg=>?_,λg=>?_⟩
  .have g:xh (mX n p) s=false:=by simpa using g
   conv=>whnf
   rw [c];simp only [zu,a,O,Dt,i,T,HU];rw [ak m,aC,g];rfl
  .have g:xh (mX n p) s=true:=by simpa using g
   conv=>whnf
   rw [c];simp only [zu,a,O,Dt,i,T,HU];rw [ak m,aC,g,ak rfl];have E:(mX n p).length<=s.length:=by
    grind [xh]
   have e:(((mX n p).length:Int)).tdiv 16=(((mX n p).length / 16:Nat):Int):=Int.ofNat_tdiv _ 16;rw [e,fq om om];rfl
 .rw [ai m,ai m] at j;refine cx ?_;rw [c];simp only [zu,a,O,Dt,i,T,HU];rw [ai m];rfl
def lO (l:List (List UInt8)):List (List b9):=l.map λt=>[.cp t]
theorem DD (l:List (List UInt8)):(lO l).length=l.length:=by simp [lO]
def aor (r:List (List UInt8)×Nat):b9:= .dn [.a8 (decide (r.1=[])) 1 (lO r.1) .dm, .ax .i64 (r.2:Int)]
theorem aou {l:Int} {p:List UInt8} (h:oA l p=true):1<=l/\l<=1000000:=by
 grind [oA]
theorem aox (s:List UInt8) (l:Int) (r:s.length<=1048576):er prog 173 [.cp s, .ax .i64 l] (aor (pW s l)):=by
 refine ic func173 ?_
 conv=>whnf
 refine iE.CI 6 9 1 rfl rfl (.inr rfl) ?_;refine iE.gY (X:=List (List UInt8)×Nat×Int) (λx=>[(.ct 0, .bg (.cp s)),(.ct 1, .bg (.ax .i64 x.2.2)),(.ct 6, .bg (.a8 (decide (x.1=[])) 1 (lO x.1) (.je 4))),(.ct 7, .bg (.ax .i64 (x.2.1:Nat))),(.eT 4, .eU 9 1 x.1.length)]) 5
  (λx=>16*x.2.1<=s.length/\x.1.length<=x.2.1/\∃ f,s.length<f+x.2.1/\pW s l=E6 f s x.2.2 x.1 x.2.1) (λx=>s.length - x.2.1) dd ([],0,l) ⟨ar _,aq _,s.length+1,by simp,rfl⟩
  ⟨rfl,rfl,rfl,rfl,rfl,rfl,rfl,rfl,rfl,rfl,trivial⟩ ?_
 rintro ⟨a,n,b⟩ ⟨i,j,f,o,h⟩;simp only at i j o h;have d:=DD a;have e:IntKind.i64.wrap ((n:Int)*16)=((16*n:Nat):Int):=by grind [fq]
 obtain ⟨f,rfl⟩:∃ g,f=g+1:=⟨f - 1,om⟩;rw [E6] at h;have c:=abG (s.drop (16*n)) b (by grind);refine gk ?_;rw [e];refine ⟨⟨om,om⟩,?_⟩;rw [aC];rcases t:qk (s.drop (16*n)) b with _|⟨p,k⟩
 .rw [t] at c h;simp only at h;refine cx ?_;rw [h];exact mR.fC _
 .have m:=Kk t;have q:=aou (E9 t).1;rw [aV] at m;rw [t] at c h;simp only at h;refine cx ?_;refine ⟨⟨d.symm,ji (by grind) dd⟩,?_⟩
  conv=>whnf
  refine ⟨(a++[p],n+k,b+1),⟨by simp only;omega,by grind,f,by simp only;omega,h⟩,by grind,rfl,rfl,?_,rfl,?_,rfl,?_,rfl,?_,rfl,ae⟩
  .show gC.bg (b9.ax .i64 (IntKind.i64.wrap (b+1)))=gC.bg (b9.ax .i64 (b+1));grind [fq]
  .show gC.bg (b9.a8 (decide (a=[]) && false) 1 (lO a++[[b9.cp p]]) _)=gC.bg (b9.a8 (decide (a++[p]=[])) 1 (lO (a++[p])) _);rw [cf,aJ (by simp),lO,lO,aU];rfl
  .show gC.bg (b9.ax .i64 (IntKind.i64.wrap ((n:Int)+(k:Int))))=gC.bg (b9.ax .i64 ((n+k:Nat):Int));grind [fq]
  .show gC.eU _ 1 ((lO a).length+1)=gC.eU _ 1 (a++[p]).length;simp_all
def Cp (n a:Bool) (w:kJ):List b9:=[.ax .i64 w.fi.fN, .cp w.fi.nK.data.toList, .a8 n 2 (w.fi.gT.map ma) .dm, .ax .i64 w.im, .ax .i64 w.NK, .ax .i64 w.hZ, .ax .i64 w.pi, .ax .i64 w.ls, .ax .i64 w.Kt,
 .a8 a 1 (lO w.gM) .dm, .eD w.rW, .ax .i64 w.lD, .ax .i64 w.tQ, .ax .i64 w.rl]
def mZ (n a:Bool) (w:kJ):b9:= .eN (Cp n a w)
theorem Fk (n:Nat) (h:n<=1000000):er prog 61 [.ax .i64 n] (.ax .i64 (n / 4:Nat)):=by
 refine fS func61 ?_
 conv=>whnf
 grind [fq]
theorem NZ (n q:Nat) (h:n<=1000000) (b:q<=1000000):er prog 64 [.ax .i64 n, .ax .i64 q] (.ax .i64 (if q % 2=1 then n / 4 else 0:Nat)):=by
 refine fS func64 ?_;have e:((q:Int)).tmod 2=(q % 2:Nat):=by trivial
 conv=>whnf
 rw [e];refine ⟨λa=>?_,λa=>?_⟩
 .have a:q % 2=1:=by
   grind
  rw [ak a]
  conv=>whnf
  refine fF.kc (Fk n h) rfl ?_
  conv=>whnf
 .have a:¬q % 2=1:=by
   grind
  rw [ai a];exact fu
theorem SR (n:Nat) (h:n<=1000000):er prog 63 [.ax .i64 n] (.ax .i64 (2*(n / 4):Nat)):=by
 refine fS func63 ?_
 conv=>whnf
 refine fF.kc (Fk n h) rfl ?_
 conv=>whnf
 grind [fq]
theorem SX (n:Nat) (h:n<=65536):er prog 175 [.ax .i64 n] (.cp (yk n)):=by
 refine fS func175 ?_
 conv=>whnf
 have w:IntKind.i64.wrap ((n:Int)*16)=((n*16:Nat):Int):=by grind [fq]
 rw [w];refine ⟨⟨om,rfl,ji om dd⟩,?_⟩
 conv=>whnf
 refine ⟨yk n,?_,?_⟩
 .show 0+((n*16:Nat):Int).toNat<=(jM ((n*16:Nat):Int).toNat [b9.ax .u8 0]).length/\((jM ((n*16:Nat):Int).toNat [b9.ax .u8 0]).drop 0).take ((n*16:Nat):Int).toNat=_;rw [Px,aC];exact LQ (by simp)
 conv=>whnf
theorem abJ (b:Nat):[]++mU ([(b:Int)].map Int.toNat)=gh b:=by simp [mU]
theorem abH (b:Nat) (st:List UInt8) (d:b<=1000001) (s:st.length<=1000):er prog 59 [.ax .i64 b, .cp st] (.dn [.cp (lE b st), .ax .i64 0]):=by
 have a:=JO [] false [(b:Int)] (by simp;omega) (by simp);rw [abJ b] at a;have f:=tM (n:=b) om;have e:=G9 (gh b) st om;have c:=NO d s;refine fS func59 ?_;refine cx ?_;refine ⟨λh=>?_,λ_=>?_⟩
 .have h:=ah h;have g:(nF (gh b) st).length<=1100:=c;omega
 exact fu
def SU (o:Option (Nat×List UInt8)):b9:=match o with
 |none=> .dn [.ax .i64 0, .cp [], .eD false]
 |some (b,st)=> .dn [.ax .i64 b, .cp st, .eD true]
theorem aoM (s:List UInt8) (q:Nat) (i:s.length<=1048576):er prog 222 [.cp s, .ax .i64 q] (SU (AT s q)):=by
 have m:=abG s (q:Int) i;unfold AT;have e:∀ p k,qk s (q:Int)=some (p,k)->p.length<=40000:=λp k h=>(Ds.1 (E9 h).1).2.2
 refine fS func222 ?_;refine cx ?_;rcases j:qk s (q:Int) with _|⟨p,k⟩
 .simp only [NW];exact fu
 have l:=e p k j;simp only [NW];refine cx ?_;have n:=JP p om;unfold NN;refine cx ?_;unfold uD;rcases v:lI p with _|⟨b,u⟩
 .simp only;exact fu
 simp only;have f:=(Jt p 0 0 b u om v).2.2;refine cx ?_;refine ⟨λh=>?_,λh=>?_⟩
 .have h:=ah h;have x:∀ (t r:List UInt8),¬(r=[]/\1<=b/\b<=1000001):=λt r g=>by omega
  refine cx ?_;rcases vh (p.drop u) with _|⟨t,r⟩
  .rfl
  .simp only;rw [ai (x t r)];rfl
 have h:=ag h
 conv=>whnf
 refine ⟨λc=>?_,λc=>?_⟩
 .have c:=ah c;have x:∀ (t r:List UInt8),¬(r=[]/\1<=b/\b<=1000001):=λt r g=>by omega
  conv=>whnf
  rcases vh (p.drop u) with _|⟨t,r⟩
  .rfl
  .simp only;rw [ai (x t r)];rfl
 have c:=ag c;have d:=G8 (p.drop u) (by rw [aV];omega);rw [SM] at d;refine cx ?_;rcases vh (p.drop u) with _|⟨t,r⟩
 .simp only;exact fu
 simp only;refine cx ?_;refine ⟨λa=>?_,λa=>?_⟩
 .have a:¬r=[]:=by simpa using a
  rw [ai (λh=>a h.1)];exact fu
 .have a:r=[]:=by simpa using a
  rw [ak ⟨a,om,om⟩];exact fu
def NY (o:Option (Nat×Nat×List UInt8)):b9:=match o with
 |none=> .dn [.ax .i64 0, .ax .i64 0, .cp []]
 |some (q,b,st)=> .dn [.ax .i64 q, .ax .i64 b, .cp st]
def H8 (o:Option (Nat×Nat×List UInt8)):Nat:=match o with|none=>0|some x=>x.1
def SO (o:Option (Nat×Nat×List UInt8)):Nat:=match o with|none=>0|some x=>x.2.1
def SP (o:Option (Nat×Nat×List UInt8)):List UInt8:=match o with|none=>[]|some x=>x.2.2
theorem aoC (o:Option (Nat×Nat×List UInt8)):NY o= .dn [.ax .i64 (H8 o), .ax .i64 (SO o), .cp (SP o)]:=by
 cases o<;>rfl
def vm (s0 s1:List UInt8) (i:Nat):Option (Nat×Nat×List UInt8):=if i=0 then none else if i=1 then vi s0 0 else NL (vi s0 0) (vi s1 1)
theorem aoL {s:List UInt8} {i:Nat} (h:∀ q,1<=q->q<=200->q % 2=i->AT s q=none):vi s i=none:=by
 rcases a:vi s i with _|⟨q,b,t⟩
 .rfl
 grind [Sz]
theorem aoG {s0 s1:List UInt8} {i:Nat} (a:i<2) (h:vi (if i=0 then s0 else s1) i=none):vm s0 s1 (i+1)=vm s0 s1 i:=by
 have:i=0\/i=1:=om;rcases this with rfl|rfl
 .trivial
 .rw [ai dd] at h;simp only [vm,h];cases vi s0 0<;>rfl
theorem aoH {s0 s1:List UInt8} {i q b:Nat} {st:List UInt8} (a:i<2) (c:1<=q) (h:vi (if i=0 then s0 else s1) i=some (q,b,st)):vm s0 s1 (i+1)=if H8 (vm s0 s1 i)<q then some (q,b,st) else vm s0 s1 i:=by
 have:i=0\/i=1:=om;rcases this with rfl|rfl
 .grind [vm,H8]
 .rw [ai dd] at h;simp only [vm,h];rcases vi s0 0 with _|x
  .simp [NL,H8];omega
  trivial
theorem aoF {d:lb}:vm (uJ d 0 (kB d)) (uJ d (kB d) (kB d)) 2=Ch d:=rfl
theorem aoD (a:Bool) (d:lb) (Q:jE d=true) (K:d.gT.length<=1048576):er prog 171 [oo a d] (NY (Ch d)):=by
 obtain ⟨Y,Z,_,_⟩:=rk Q;have r:=SI a d 0 (kB d) (by unfold nQ;omega) (by unfold nQ;omega) (by unfold nQ kB;omega) K;have c:=SI a d (kB d) (kB d) (by unfold nQ;omega) (by unfold nQ kB;omega) (by unfold nQ kB;omega) K;have p:(uJ d 0 (kB d)).length<=1048576:=by
  grind [NQ,kB]
 have t:(uJ d (kB d) (kB d)).length<=1048576:=by
  grind [NQ,kB]
 rw [<-aoF];have v:=λq (h:q<=1000000)=>NZ (d.fN.toNat) q om h
 have F:=Fk (d.fN.toNat) om;have H:kB d=d.fN.toNat / 4:=rfl;rw [H] at r c p t ⊢;obtain ⟨N,z⟩:∃ N:Nat,d.fN=(N:Int):=⟨d.fN.toNat,om⟩;generalize uJ d 0 _=s0 at*;generalize uJ d _ _=s1 at*;generalize Fb d _ _=O at r;generalize Fb d _ _=P at c;rw [z,aC] at r c v F;obtain ⟨L,f,l⟩:=d;simp only at z;subst z;have r:er prog _ [.eN [.ax .i64 (N:Int), .cp f.data.toList, .a8 a 2 (l.map ma) .dm],_,_] _:=r;have c:er prog _ [.eN [.ax .i64 (N:Int), .cp f.data.toList, .a8 a 2 (l.map ma) .dm],_,_] _:=c;show er prog _ [.eN [.ax .i64 (N:Int), .cp f.data.toList, .a8 a 2 (l.map ma) .dm]] _;rw [aoC];refine fS func171 ?_
 conv=>whnf
 refine iE.gY (λi:Nat=>[(.ct 1, .bg (.c8 0 0)),(.ct 5, .bg (.ax .i64 (H8 (vm s0 s1 i)))),(.ct 6, .bg (.ax .i64 (SO (vm s0 s1 i)))),(.ct 7, .bg (.cp (SP (vm s0 s1 i)))),(.ct 15, .bg (.ax .i64 i)),
  (.ay 0, .dc 44 [.ax .i64 (N:Int), .cp f.data.toList, .a8 a 2 (l.map ma) .dm])]) 1 (λi=>i<=2) (λi=>2 - i) dd 0 dd
  ⟨rfl,rfl,rfl,rfl,rfl,rfl,rfl,rfl,rfl,rfl,rfl,rfl,trivial⟩ ?_
 rintro i W;refine gk ?_;refine ab (λh=>?_) λh=>?_
 .have o:i<2:=om
  conv=>whnf
  refine ⟨_,rfl,v i om,?_⟩;refine cx ?_;obtain ⟨s,e,S,E,D⟩:∃ s e,s=(if i=0 then s0 else s1)/\s.length<=1048576/\er prog 172 [.eN [.ax .i64 (N:Int), .cp f.data.toList, .a8 a 2 (l.map ma) .dm], .ax .i64 ((if i % 2=1 then N / 4 else 0:Nat):Int), .ax .i64 ((N / 4:Nat):Int)] (.dn [.cp s, .ax .i64 (e:Nat)]):=by
   have:i=0\/i=1:=om;rcases this with rfl|rfl
   .exact ⟨s0,O,rfl,p,r⟩
   .exact ⟨s1,P,rfl,t,c⟩
  refine cx ?_;have j:=aoG (s0:=s0) (s1:=s1) o;have m:=λq b st=>aoH (s0:=s0) (s1:=s1) (q:=q) (b:=b) (st:=st) o
  rw [<-S] at j m;refine iE.gY (λk:Nat=>[(.ct 1, .bg (.c8 0 0)),(.ct 5, .bg (.ax .i64 (H8 (vm s0 s1 i)))),(.ct 6, .bg (.ax .i64 (SO (vm s0 s1 i)))),(.ct 7, .bg (.cp (SP (vm s0 s1 i)))),(.ct 15, .bg (.ax .i64 i)),(.ct 8, .bg (.ax .i64 i)),(.ct 9, .bg (.cp s)),(.ct 11, .bg (.ax .i64 (k+1:Nat))),
   (.ay 0, .dc 44 [.ax .i64 (N:Int), .cp f.data.toList, .a8 a 2 (l.map ma) .dm])]) 1 (λk=>k<=200/\∀ q,1<=q->q<=k->q % 2=i->AT s q=none) (λk=>200 - k) dd 0 ⟨dd,λq U I=>om⟩
   ⟨rfl,rfl,rfl,rfl,rfl,rfl,rfl,rfl,rfl,rfl,rfl,rfl,rfl,rfl,rfl,rfl,rfl,rfl,trivial⟩ ?_
  rintro k ⟨X,B⟩;have w:IntKind.i64.wrap (((k+1:Nat):Int)+1)=((k+1+1:Nat):Int):=by grind [fq]
  have T:IntKind.i64.wrap ((i:Int)+1)=((i+1:Nat):Int):=by grind [fq]
  have u:(((k+1:Nat):Int)).tmod 2=((k+1) % 2:Nat):=by trivial
  have A:=aoM s (k+1) E;refine gk ?_;refine ab (λI=>?_) λI=>?_
  .conv=>whnf
   rw [u];refine ⟨λx=>?_,λx=>?_⟩
   .have x:(k+1) % 2≠i:=by
     grind
    conv=>whnf
    refine ⟨k+1,⟨om,λq g J y=>?_⟩,by grind,rfl,rfl,rfl,rfl,rfl,rfl,rfl,rfl,rfl,rfl,rfl,rfl,rfl,rfl,?_,af⟩
    .grind
    .show gC.bg (b9.ax .i64 (IntKind.i64.wrap (((k+1:Nat):Int)+1)))=_;rw [w]
   .have x:(k+1) % 2=i:=by
     grind
    refine cx ?_;rcases R:AT s (k+1) with _|⟨b,st⟩
    .simp only [SU];refine kw ?_;refine ⟨k+1,⟨om,λq g J y=>?_⟩,by grind,rfl,rfl,rfl,rfl,rfl,rfl,rfl,rfl,rfl,rfl,rfl,rfl,rfl,rfl,?_,af⟩
     .grind
     .show gC.bg (b9.ax .i64 (IntKind.i64.wrap (((k+1:Nat):Int)+1)))=_;rw [w]
    .have n:=m (k+1) b st om (Sz.2 ⟨om,om,x,R⟩);simp only [SU];refine cx ?_;refine ab (λg=>?_) λg=>?_
     .rw [ak om] at n
      conv=>whnf
      refine ⟨i+1,om,by grind,rfl,rfl,?_,rfl,?_,rfl,?_,rfl,?_,af⟩
      .rw [n];rfl
      .rw [n];rfl
      .rw [n];rfl
      .exact ix
     .rw [ai om] at n
      conv=>whnf
      refine ⟨i+1,om,by grind,rfl,rfl,?_,rfl,?_,rfl,?_,rfl,?_,af⟩
      .rw [n];rfl
      .rw [n];rfl
      .rw [n];rfl
      .exact ix
  .have n:=j (aoL λq g J y=>B q g om y)
   conv=>whnf
   refine ⟨i+1,om,by grind,rfl,rfl,?_,rfl,?_,rfl,?_,rfl,?_,af⟩
   .rw [n];rfl
   .rw [n];rfl
   .rw [n];rfl
   .exact ix
 .obtain rfl:i=2:=om
  conv=>whnf
theorem Fm {h i a2 f j k l m n o e g c a b d:b9} (p:mR a2 f) (q:mR e g):mR (.eN [h,i,a2,j,k,l,m,n,o,e,c,a,b,d]) (.eN [h,i,f,j,k,l,m,n,o,g,c,a,b,d]):=
 mR.rA (.fj (.fC _) (.fj (.fC _) (.fj p (.fj (.fC _) (.fj (.fC _) (.fj (.fC _) (.fj (.fC _) (.fj (.fC _) (.fj (.fC _) (.fj q (.fj (.fC _) (.fj (.fC _) (.fj (.fC _) (.fj (.fC _) .kv))))))))))))))
theorem NX {a b c d:b9} (h:mR a b) (e:mR c d):mR (.dn [a,c]) (.dn [b,d]):=mR.qA (.fj h (.fj e .kv))
def SQ (size:Int):b9:= .dn [mZ true true (tR size).1, .ax .i64 ((tR size).2:Nat)]
theorem aoK (size:Int):∃ N:Nat,N<=65536/\(ql size).fN=(N:Int)/\jE (ql size)=true/\(ql size).gT=[]:=by
 refine ⟨(min (max size 0) 65536).toNat,om,by grind [ql],?_,rfl⟩;have h:=am5 (min (max size 0) 65536).toNat om ⟨(List.replicate ((min (max size 0) 65536).toNat*16) (0:UInt8)).toArray⟩ (by show ((List.replicate ((min (max size 0) 65536).toNat*16) (0:UInt8)).toArray).size=_;simp);grind [ql]
theorem aoP (size:Int):er prog 29 [.ax .i64 size] (SQ size):=by
 unfold SQ tR;obtain ⟨N,J,r,x,o⟩:=aoK size;have n:=aob size;have y:=abH 1 [] dd dd;have p:=KC 1 (lE 1 []);have m:=aaL (q:=1) (b:=1) (st:=[]) dd dd dd dd;have m:oA 1 (lE 1 [])=true:=m;have k:AO 1 (lE 1 [])=nz 1 1 []:=by trivial
 have u:AP 1 (lE 1 [])=0:=by trivial
 rw [k,u] at p;have l:(nz 1 1 []).length=16:=dd;have E:=Fk N om;have c:=SR N om;have B:=NZ N 1 om dd;have z:kB (ql size)=N / 4:=by grind [kB]
 have s:tS (ql size) 1=N / 4:=by trivial
 have t:lN (ql size)=2*(N / 4):=by grind [lN]
 rw [z,s,t];generalize ql size=d at*;have w:=abu true d (N / 4:Nat) (jK (nz 1 1 [])) (λ_=>o) (by grind [nQ]) (by unfold nQ;omega) (by rw [o];decide) (by trivial);rw [anp] at w;have g:=λ(h:1<=N / 4)=>Ci x (N / 4) 1 (nz 1 1 []) l om
 have a:(N / 4:Nat)>=1->er prog 118 [oo false (oh d ((N / 4:Nat):Int) (jK (nz 1 1 [])))] (oo true (pX (oh d ((N / 4:Nat):Int) (jK (nz 1 1 []))))):=λh=>by
  obtain ⟨_,H,v,I⟩:=g h;have:=abp false (oh d ((N / 4:Nat):Int) (jK (nz 1 1 []))) (λh=>by cases h) (by grind [nQ]) (by simp_all);rw [ak v] at this;exact this
 have e:(N / 4:Nat)>=1->vZ d ((N / 4:Nat):Int) (jK (nz 1 1 []))=0:=λh=>(g h).1
 have A:IntKind.i64.wrap (((nz 1 1 []).length:Int).tdiv 16)=1:=by rw [l];decide
 generalize oh d _ (jK (nz 1 1 []))=D at*;generalize vZ d _ (jK (nz 1 1 []))=K at*;generalize nz 1 1 []=F at*;clear g k;obtain ⟨j,f,i⟩:=d;simp only at r o;subst r o;have w:er prog 117 [.eN [.ax .i64 (N:Int), .cp f.data.toList, .a8 true 2 [] .dm], .ax .i64 (N / 4:Nat), .cp F] _:=w;have n:er prog _ [.ax .i64 size] (.eN [.ax .i64 (N:Int), .cp f.data.toList, .a8 true 2 [] .dm]):=n;refine ic func29 ?_;refine cx ?_;rw [A];rw [l];refine ⟨λh=>?_,λh=>?_⟩
 .have h:=ah h;rw [ak om]
  conv=>whnf
  exact NX (Fm (.kd _ _ _) (.kd _ _ _)) (.fC _)
 have h:=ag h;rw [ai om];have a:=a om;rw [e om,ak rfl] at w
 conv=>whnf
 refine ⟨_,rfl,c,?_⟩
 conv=>whnf
 refine ⟨eI,eI,?_⟩;refine fz func62 ?_;refine cx ?_;refine .inr ⟨eI,eI,?_⟩;refine fz func116 ?_;refine cx ?_;refine fz func65 ?_;refine cx ?_;exact NX (Fm (.fC _) (.kd _ _ _)) (.fC _)
def SN (n a:Bool) (w:kJ) (p:List UInt8):b9:= .dn [mZ n (if 40000<p.length\/1000000<w.hZ then a else false) (sO w p).1, .ax .i64 ((sO w p).2.1:Nat), .ax .i64 ((sO w p).2.2:Nat)]
theorem aoB (n b:Bool) (w:kJ) (p:List UInt8) (c:w.hZ<=1000001) (l:w.gM.length<=1000001):er prog 126 [mZ n b w, .cp p] (SN n b w p):=by
 unfold SN sO;have e:=DD w.gM;refine ic func126 ?_
 conv=>whnf
 refine ⟨λh=>?_,λh=>?_⟩
 .have h:=ah h;rw [ak (.inl om),ak (.inl om)];exact fu
 have h:=ag h
 conv=>whnf
 refine ⟨λa=>?_,λa=>?_⟩
 .have a:=ah a;rw [ak (.inr om),ak (.inr om)];exact fu
 have a:=ag a;rw [ai om,ai om]
 conv=>whnf
 refine ⟨⟨om,om,rfl⟩,?_⟩;have t:List.take (((lO w.gM).length:Nat):Int).toNat (lO w.gM)=lO w.gM:=by grind [List.take_length]
 have s:lO (w.gM++[p])=lO w.gM++[[.cp p]]:=by simp [lO]
 conv=>whnf
 rw [t];refine ⟨ji (by grind) dd,?_⟩
 conv=>whnf
 rw [fq (x:=(w.hZ:Int)+1) om om];refine mR.qy ?_;show b9.dn [b9.eN [.ax .i64 w.fi.fN, .cp w.fi.nK.data.toList, .a8 n 2 (w.fi.gT.map ma) .dm, .ax .i64 w.im, .ax .i64 w.NK, .ax .i64 ((w.hZ:Int)+1), .ax .i64 w.pi, .ax .i64 w.ls, .ax .i64 w.Kt,
  .a8 (b && false) 1 (lO w.gM++[[.cp p]]) .dm, .eD w.rW, .ax .i64 w.lD, .ax .i64 w.tQ, .ax .i64 w.rl], .ax .i64 w.hZ, .ax .i64 0]=b9.dn [mZ n false _,_,_]
 grind [mZ,Cp]
theorem aoE (n:Bool) (els:List (List b9)) (a:n=true->els=[]) (l:els.length<=4294967296):er prog 107 [.a8 n 1 els .dm] (.a8 n 1 els .dm):=by
 refine ic func107 ?_
 conv=>whnf
 refine ⟨λh=>?_,λh=>?_⟩
 .conv=>whnf
  grind [mR.kd]
 .conv=>whnf
  refine ⟨ji (by simpa using l) dd,?_⟩
  conv=>whnf
  grind [mR.fC]
theorem SV {w:kJ} (h:nm w) (n:Bool) (a:n=true->w.fi.gT=[]) (l:w.fi.gT.length<=1000000):er prog 118 [oo n w.fi] (oo true (pX w.fi)):=by
 have b:=h.Ks;have c:=h.Du;have:=abp n w.fi a (by unfold nQ;omega) om;rw [ak h.uK] at this;exact this
def KD (n:Bool) (w:kJ):b9:=mZ true n (oB w)
theorem SS {w:kJ} (h:nm w) (n b:Bool) (c:n=true->w.fi.gT=[]) (l:w.fi.gT.length<=1000000):er prog 125 [mZ n b w] (KD b w):=by
 have f:=SV h n c l;have d:=h.Ce;have e:=h.xl;have m:=h.AR;unfold KD oB;generalize pX w.fi=D at*;refine ic func125 ?_
 conv=>whnf
 refine fz func62 ?_
 conv=>whnf
 refine fz func65 ?_;refine cx ?_;refine ⟨λa=>?_,λa=>?_⟩
 .have a:w.lD≠0:=by
   simp_all
  rw [ai a];obtain ⟨k,g,i⟩:=m a;refine cx ?_;rw [fq (x:=(w.tQ:Int) - 1) om om,show max (w.ls:Int) ((w.tQ:Int) - 1)=((max w.ls (w.tQ - 1):Nat):Int) by omega];exact mR.fC _
 .have a:w.lD=0:=by simpa using a
  rw [ak a];exact fu
theorem N1 {w:kJ} (h:nm w):∃ N:Nat,w.fi.fN=(N:Int)/\N<=1000/\kB w.fi=N / 4/\lN w.fi=2*(N / 4)/\∀ q,tS w.fi q=if q % 2=1 then N / 4 else 0:=by
 have a:=h.Ks;have b:=h.Du;have s:kB w.fi=w.fi.fN.toNat / 4:=rfl;refine ⟨w.fi.fN.toNat,om,om,s,?_,λq=>?_⟩
 .trivial
 trivial
theorem KE (n:Bool) (d:lb) (c:jE d=true) (g:n=true->d.gT=[]) (l:d.gT.length<=1000000) (a k:Nat) (s:List UInt8) (f:s.length=16*k) (h:((a+k:Nat):Int)<=d.fN):
  er prog 117 [oo n d, .ax .i64 a, .cp s] (.dn [oo false (oh d (a:Int) (jK s)), .ax .i64 0]):=by
 obtain ⟨z,i,_,_⟩:=rk c;have e:=Ci c a k s f h;have b:=abu n d (a:Int) (jK s) g (by unfold nQ;omega) (by unfold nQ;omega) om (by rw [Sx];omega);rw [e.1,ak rfl] at b;exact b
def SW (n a:Bool) (w:kJ):b9:= .dn [mZ (if w.lD≠2 then n else false) a (qN w).1, .ax .i64 ((qN w).2:Nat)]
theorem aoN {w:kJ} (h:nm w) (l n:Bool) (o:l=true->w.fi.gT=[]) (p:n=true->w.gM=[]) (j:w.fi.gT.length<=1000000):er prog 128 [mZ l n w] (SW l n w):=by
 obtain ⟨N,d,v,y,f,A⟩:=N1 h;have k:=H6 l w.fi (by grind [nQ]) om;rw [h.uK] at k;have t:=SR N om;rw [<-d] at t;have B:=SX (N - 2*(N / 4)) om;have r:=KE l w.fi h.uK o j (2*(N / 4)) (N - 2*(N / 4)) (yk (N - 2*(N / 4))) (Dv _) om;have b:=aoE n (lO (w.gM.drop w.rl)) (λe=>by grind [lO]) (by grind [DD,h.xl,h.Ce]);have z:w.fi.fN.toNat - 2*(N / 4)=N - 2*(N / 4):=om;have i:=h.Ce;have q:=h.xl;have m:=h.AR;have u:=h.NI;have g:=DD w.gM;unfold SW qN;rw [f,z];generalize oh w.fi _ _=D at*;refine ic func128 ?_
 conv=>whnf
 refine ⟨λa=>?_,λa=>?_⟩
 .have a:w.lD≠2:=by
   grind
  rw [ak a,ak a];exact fu
 have a:w.lD=2:=by
  grind
 obtain ⟨E,F,H⟩:=m om;rw [ai om,ai om];refine cx ?_;refine fz func62 ?_;refine cx ?_;refine ⟨show 0<=min (max (w.rl:Int) 0) ((lO w.gM).length:Int)/\(min (max (w.rl:Int) 0) ((lO w.gM).length:Int)).toNat<=(lO w.gM).length from ⟨om,om⟩,?_⟩;have c:er prog 107 [.a8 n 1 ((lO w.gM).drop (min (max (w.rl:Int) 0) ((lO w.gM).length:Int)).toNat) .dm] (.a8 n 1 (lO (w.gM.drop w.rl)) .dm):=by
  rw [show (min (max (w.rl:Int) 0) ((lO w.gM).length:Int)).toNat=w.rl by omega];have:(lO w.gM).drop w.rl=lO (w.gM.drop w.rl):=by unfold lO;rw [jV]
  rw [this];exact b
 conv=>whnf
 refine ⟨_,rfl,c,?_⟩
 conv=>whnf
 refine ⟨eI,?_⟩
 conv=>whnf
 have s:IntKind.i64.wrap (w.fi.fN - ((2*(N / 4):Nat):Int))=((N - 2*(N / 4):Nat):Int):=by grind [fq]
 rw [s];refine cx ?_;refine .inr ⟨eI,eI,?_⟩;refine fz func116 ?_
 conv=>whnf
 refine fF.kc r rfl ?_;refine kw ?_;refine ⟨eI,?_⟩
 conv=>whnf
 rw [fq (x:=(w.im:Int)+1) om om,fq (x:=(w.tQ:Int) - 1) om om];refine mR.qy ?_;show b9.dn [b9.eN [.ax .i64 D.fN, .cp D.nK.data.toList, .a8 false 2 (D.gT.map ma) .dm, .ax .i64 ((w.im:Int)+1), .ax .i64 w.tQ, .ax .i64 w.hZ, .ax .i64 (2*(N / 4):Nat), .ax .i64 (max (w.ls:Int) ((w.tQ:Int) - 1)), .ax .i64 w.Kt,
  .a8 n 1 (lO (w.gM.drop w.rl)) .dm, .eD true, .ax .i64 0, .ax .i64 0, .ax .i64 0], .ax .i64 0]=b9.dn [mZ false n _,_]
 rw [show max (w.ls:Int) ((w.tQ:Int) - 1)=((max w.ls (w.tQ - 1):Nat):Int) by omega];rfl
theorem abI {w:kJ} (h:nm w) (n:Bool) (c:n=true->w.fi.gT=[]) (l:w.fi.gT.length<=1000000):
  jE (lV w).fi=true/\(lV w).fi.fN=w.fi.fN/\((if w.rW=true then true else n)=true->(lV w).fi.gT=[])/\(lV w).fi.gT.length<=1000000:=by
 obtain ⟨a,b⟩:=h.Sw;grind [a.uK,lV,NM h.uK]
theorem aoJ {n:Nat} {p:List UInt8} (d:n<=1000001) (hp:p.length<=400):kR (ny n p)<=50:=by
 have h:=tM (n:=n) om;have a:=tM (n:=p.length) om;have b:=Kj (qi n p);have c:(qi n p).length=(gh n).length+((gh p.length).length+p.length):=by grind [qi]
 grind [tM,ND,kR]
theorem aoI {n:Nat} {p:List UInt8} (d:n<=1000001) (hp:p.length<=1200):kR (ny n p)<=100:=by
 have h:=tM (n:=n) om;have a:=tM (n:=p.length) om;have b:=Kj (qi n p);have c:(qi n p).length=(gh n).length+((gh p.length).length+p.length):=by grind [qi]
 grind [tM,ND,kR]
def Fj (w:kJ) (s:List UInt8):Bool:=decide (w.lD=0) && (decide (w.im<200) && decide ((nz (w.im+1) w.hZ s).length / 16<=kB w.fi))
def yq (n a:Bool) (w:kJ) (s:List UInt8):b9:= .dn [mZ (if Fj w s=true then false else n) a (nL w s).1, .ax .i64 ((nL w s).2:Nat)]
theorem aoO {w:kJ} (h:nm w) (l c:Bool) (s:List UInt8) (D:s.length<=1000) (J:l=true->w.fi.gT=[]) (I:w.fi.gT.length<=1000000):er prog 127 [mZ l c w, .cp s] (yq l c w s):=by
 obtain ⟨N,L,e2,e3,e4,O⟩:=N1 h;have U:=h.NI;have K:=h.Sv;have F:=h.Ce;have S:=h.xl;have Q:=abH w.hZ s om D;have A:=KC ((w.im+1:Nat):Int) (lE w.hZ s);have y:=aaL (q:=w.im+1) (b:=w.hZ) (st:=s) om om om D;have q1:AO ((w.im+1:Nat):Int) (lE w.hZ s)=nz (w.im+1) w.hZ s:=by unfold AO;rw [ak y,aC];rfl
 have q2:AP ((w.im+1:Nat):Int) (lE w.hZ s)=0:=by grind [AP]
 rw [q1,q2] at A;have E:=Fk N om;have o:=NZ N (w.im+1) om om;rw [<-L] at E o;rw [<-O] at o;have e:=Ku (w.im+1) w.hZ s;have H:(nz (w.im+1) w.hZ s).length / 16=AS (w.im+1) w.hZ s:=by rw [e];omega
 have z:=SV h l J I;obtain ⟨X,Y,Z,p4⟩:=abI h l J I;have B:=Kv w.fi (w.im+1);have r:=λ(hr:AS (w.im+1) w.hZ s<=N / 4)=>KE (if w.rW=true then true else l) (lV w).fi X Z p4 (tS w.fi (w.im+1)) (AS (w.im+1) w.hZ s) (nz (w.im+1) w.hZ s) e om
 have P:(nz (w.im+1) w.hZ s).length<=10000:=by
  have h9:=aoI (n:=w.im+1) (p:=lE w.hZ s) om (by have:=NO (b:=w.hZ) (st:=s) om D;omega);rw [e];show 16*kR (ny (w.im+1) (lE w.hZ s))<=10000;omega
 have t:=DD w.gM;rw [<-Y] at o;have R:w.lD≠0->yq l c w s= .dn [mZ l c w, .ax .i64 140]:=λa=>by
  grind [yq,nL,Fj]
 have u:w.lD=0->200<=w.im->yq l c w s= .dn [mZ l c w, .ax .i64 193]:=λa f=>by
  unfold yq nL Fj;grind
 have v:w.lD=0->¬200<=w.im->N / 4<AS (w.im+1) w.hZ s->yq l c w s= .dn [mZ l c w, .ax .i64 120]:=λa f g=>by
  unfold yq nL Fj;grind
 have x:w.lD=0->¬200<=w.im->¬N / 4<AS (w.im+1) w.hZ s->yq l c w s= .dn [mZ false c {lV w with fi:=oh (lV w).fi (tS w.fi (w.im+1)) (jK (nz (w.im+1) w.hZ s)),lD:=1,tQ:=w.hZ,rl:=w.gM.length}, .ax .i64 0]:=λa f g=>by
  unfold yq nL Fj;grind
 generalize yq l c w s=RV at*;have d:lV w=if w.rW=true then {w with fi:=pX w.fi,rW:=false} else w:=rfl
 generalize nz (w.im+1) w.hZ s=W at*;generalize AS (w.im+1) w.hZ s=k at*;generalize tS w.fi (w.im+1)=so at*;refine ic func127 ?_
 conv=>whnf
 refine ⟨λa=>?_,λa=>?_⟩
 .have a:w.lD≠0:=by
   simp_all
  rw [R a];exact fu
 have a:w.lD=0:=by simpa using a
 conv=>whnf
 refine ⟨λf=>?_,λf=>?_⟩
 .have f:=ah f;rw [u a om];exact fu
 have f:=ag f;refine cx ?_;have j:IntKind.i64.wrap ((w.im:Int)+1)=((w.im+1:Nat):Int):=by grind [fq]
 rw [j];refine cx ?_;have T:IntKind.i64.wrap ((W.length:Int).tdiv 16)=(k:Nat):=by grind [fq]
 rw [T];refine ⟨λg=>?_,λg=>?_⟩
 .have g:=ah g;rw [v a om om];exact fu
 have g:=ag g;rw [x a om om];have r:=r om
 conv=>whnf
 refine fz func62 ?_
 conv=>whnf
 refine fz func204 ?_
 conv=>whnf
 refine ⟨λm=>?_,λm=>?_⟩
 .rw [d,ak m] at r o;rw [ak m] at r;rw [d,ak m]
  conv=>whnf
  refine fz func65 ?_
  conv=>whnf
  refine fF.kc z rfl ?_
  conv=>whnf
  rw [j];refine ⟨_,rfl,o,?_⟩
  conv=>whnf
  refine .inr ⟨eI,eI,?_⟩;refine fz func116 ?_;refine cx ?_;rw [t];exact mR.fC _
 .have i:¬w.rW=true:=by rw [m];simp
  rw [d,ai i] at r o;rw [ai i] at r;rw [d,ai i]
  conv=>whnf
  rw [j];refine cx ?_;refine .inr ⟨eI,eI,?_⟩;refine fz func116 ?_;refine cx ?_;rw [t];exact mR.fC _
open Go.RowKit Go.Am
theorem abL:(prog.info? 128).map (·.size)=some 2:=by kernel_rfl
theorem aoS:liesAt prog prog.depth 128 (2 / prog.cellsOf 128) 0 128 1=true:=by kernel_rfl
theorem aoQ:prog.cellsOf 5=1:=by kernel_rfl
theorem aoT (b:Nat) (w:World) (h0:w.cell? ⟨b,0,none⟩=some (.pointer (some ⟨b,0,none⟩))):
  Calls prog 95 #[.pointer (some ⟨b,0,none⟩)] w λe w'=>e= .returned (.tuple #[])/\w'=w:=by
 obtain ⟨j,hj,_⟩:=eB.1 abL
 go_enter func95,ntmps95
 go_wp2
 rw [Lib.run_neq_ptr_same w _ underlying125 hj]
 go_wp2
 go_end0
 trivial
theorem aoR (b:Nat) (w:World) (h0:w.cell? ⟨b,0,none⟩=some (.pointer none)) (hsh:w.shape? b=some (128,2)) (hfz:w.frozen? ⟨b,0,none⟩=false):
  Calls prog 95 #[.pointer (some ⟨b,0,none⟩)] w λe w'=>e= .returned (.tuple #[])/\w'=w.setCell ⟨b,0,none⟩ (.pointer (some ⟨b,0,none⟩)):=by
 obtain ⟨j,hj,hjs⟩:=eB.1 abL
 go_enter func95,ntmps95
 go_wp2
 rw [Lib.run_to_unsafe w ⟨b,0,none⟩ underlying125 underlying289 hj (by rw [hjs];decide) hsh (Nat.zero_lt_succ 1)];simp only [Result.andThen];rw [Oper.upon_value]
 go_wp2
 rw [run_callFunc_extern func163 (by kernel_rfl) (by kernel_rfl) (by kernel_rfl) (e:=Extern.AbiNoEscape.same) (by kernel_rfl)];rw [Lib.run_noEscape];simp only [Result.andThen];rw [Oper.upon_value]
 go_wp2
 rw [Lib.run_from_unsafe w ⟨b,0,none⟩ underlying289 underlying125 hj hsh aoS];simp only [Result.andThen];rw [Oper.upon_value]
 go_wp2
 go_end0
 trivial
theorem abK (w:World) (c:Nat) (p u:Value) (h:w.heap[c]? =some (.cells [p,u].toArray 128 (0,0))) (hp:p= .pointer none\/p= .pointer (some ⟨c,0,none⟩)):
  Calls prog 95 #[.pointer (some ⟨c,0,none⟩)] w λe w'=>e= .returned (.tuple #[])/\oH c w w'/\w'.heap[c]? =some (.cells [.pointer (some ⟨c,0,none⟩),u].toArray 128 (0,0)):=by
 rcases hp with rfl|rfl
 .have a:w.cell? ⟨c,0,none⟩=some (.pointer none):=by rw [ru h];rfl
  have s:w.shape? c=some (128,2):=by grind [World.shape?]
  have f:w.frozen? ⟨c,0,none⟩=false:=OP h (by simp);obtain ⟨g,i,_,_⟩:=IN c 0 [.pointer (some ⟨c,0,none⟩)] h (by simp) (λo _ d=>by simp at d) (λu b=>by simp at b;subst b;rfl);refine (aoR c w a s f).mono ?_;rintro e w' ⟨rfl,rfl⟩;trivial
 .have a:w.cell? ⟨c,0,none⟩=some (.pointer (some ⟨c,0,none⟩)):=by rw [ru h];rfl
  refine (aoT c w a).mono ?_;grind [oH.By]
theorem SY (w:World) (c:Nat) (p:Value) (hh:w.heap[c]? =some (.cells [p, .slice none 0 0].toArray 128 (0,0))):
  Calls prog 45 #[.pointer (some ⟨c,0,none⟩)] w λe w'=>e= .returned (.string ⟨[].toArray⟩)/\(Below w.heap.size w w'/\w.drawn<=w'.drawn):=by
 have hUS:∀ W,(Builtin.unsafeString_ #[194,3] 9 #[.pointer none, .int .i64 0]).run prog W= .ok (.string .empty) W:=λW=>Lib.run_unsafeString_none W _ _ _ none
 have c1:w.drew.cell? ⟨c,1,none⟩=some (.slice none 0 0):=by rw [ru (w:=w.drew) hh];rfl
 have hSD:(Builtin.unsafeSliceData_ #[126] 194 #[.slice none 0 0]).run prog w.drew= .ok (.pointer none) w.drew:=rfl
 go_enter func45,ntmps45
 go_wp2
 go_region
 all_goals (go_wp2;go_ret;exact ⟨rfl,Below.drew (Below.refl _ w),aZ _⟩)
theorem aoU (w:World) (r n:Nat) {arr:List Value} {t:TypeId} {z:Nat×Nat} (b:w.heap[r]? =some (.cells arr.toArray t z)):
  oH r w (w.freeze ⟨r,0,none⟩ n)/\∀ o,(w.freeze ⟨r,0,none⟩ n).cell? ⟨r,o,none⟩=w.cell? ⟨r,o,none⟩:=by
 unfold World.freeze
 by_cases h:n=0
 .grind [oH.By]
 rw [ai h];refine ⟨⟨rfl,rfl,rfl,by simp,λk c=>by grind,?_,λd a=>?_,rfl⟩,λo=>?_⟩
 .grind [World.shape?]
 .simp_all
 grind [World.cell?]
theorem SZ (s:List UInt8) (h0:s≠[]) (hlen:s.length<=1000000000000) (w:World) (c r cap:Nat) (p:Value) (hh:w.heap[c]? =some (.cells [p, .slice (some ⟨r,0,none⟩) s.length cap].toArray 128 (0,0))) (hsh:w.shape? r=some (5,cap))
  (hcap:s.length<=cap) (hcell:∀ j x,s[j]? =some x->w.cell? ⟨r,j,none⟩=some (.int .u8 x.toNat)):
  Calls prog 45 #[.pointer (some ⟨c,0,none⟩)] w λe w'=>e= .returned (.string ⟨s.toArray⟩)/\∃ w1,(Below w.heap.size w w1/\w.drawn<=w1.drawn)/\w1.heap=w.heap/\oH r w1 w'/\∀ o,w'.cell? ⟨r,o,none⟩=w1.cell? ⟨r,o,none⟩:=by
 have hl0:s.length≠0:=by simpa using h0
 have c1:w.drew.cell? ⟨c,1,none⟩=some (.slice (some ⟨r,0,none⟩) s.length cap):=by rw [ru (w:=w.drew) hh];rfl
 have hSD:(Builtin.unsafeSliceData_ #[126] 194 #[.slice (some ⟨r,0,none⟩) s.length cap]).run prog w.drew= .ok (.pointer (some ⟨r,0,none⟩)) w.drew:=
  Lib.run_unsafeSliceData_row _ _ _ _ _ _ om
 have hUS:(Builtin.unsafeString_ #[194,3] 9 #[.pointer (some ⟨r,0,none⟩), .int .i64 s.length]).run prog w.drew= .ok (.string ⟨s.toArray⟩) (w.drew.freeze ⟨r,0,none⟩ s.length):=by
  refine Lib.run_unsafeString_row w.drew 194 3 9 5 underlying194 aoQ r cap hsh s h0 hcap om ?_;intro j x hx;have e:(⟨r,0,none⟩:Addr).add j=⟨r,j,none⟩:=by grind [Addr.add]
  simp_all
 obtain ⟨arr,z,hr⟩:∃ (arr:List Value) (z:Nat×Nat),w.heap[r]? =some (.cells arr.toArray 5 z):=by
  unfold World.shape? at hsh;split at hsh
  .rename_i cs t z e;simp only [aG,dj] at hsh;obtain ⟨rfl,_⟩:=hsh;exact ⟨cs.toList,z,e⟩
  .cases hsh
 obtain ⟨f1,f2⟩:=aoU w.drew r s.length (arr:=arr) (t:=5) (z:=z) hr;clear hsh hcell hr hlen hcap
 go_enter func45,ntmps45
 go_wp2
 go_region
 all_goals (go_wp2;go_ret;exact ⟨rfl,w.drew,⟨Below.drew (Below.refl _ w),aZ _⟩,rfl,f1,f2⟩)
end Go.Proofs.YtffboamedcmpaaaGreatDoor
