import Derived.Test.YtffboamedcmpaaaGreatDoorAt
set_option linter.all false
set_option maxHeartbeats 4000000
set_option maxRecDepth 100000
namespace Go.Proofs.YtffboamedcmpaaaGreatDoor
open Gw
open Go.Am
open Go.Proofs.Tryz Tryz
def AX (d:lb):b9:= .dn [mZ (decide ((mY d).Cf≠0)) true (mY d).yj, .cp (mY d).Cg, .a8 (decide ((mY d).ph=[])) 1 (lO (mY d).ph) .dm, .ax .i64 ((mY d).Cf:Nat)]
theorem aoW (y:Bool) (d:lb) (hn:y=true->d.gT=[]) (J:nQ d.fN) (hl:d.gT.length<=900000):er prog 102 [oo y d] (AX d):=by
 have hck:=H6 y d J om;have A:jE d=false->AX d= .dn [mZ true true H0, .cp [], .a8 true 1 [] .dm, .ax .i64 140]:=λh=>by
  unfold AX mY;rw [ak h];rfl
 have B:jE d=true->Ch d=none->AX d= .dn [mZ true true H0, .cp [], .a8 true 1 [] .dm, .ax .i64 140]:=λh N=>by
  unfold AX mY;rw [ai (by rw [h];simp),N];rfl
 have D:∀ q b st,jE d=true->Ch d=some (q,b,st)->AX d= .dn [mZ false true (NP d q b st).yj, .cp st, .a8 (decide ((pW (pE d) b).1=[])) 1 (lO (pW (pE d) b).1) .dm, .ax .i64 0]:=λq b st h N=>by
  unfold AX mY;rw [ai (by rw [h];simp),N];rfl
 generalize AX d=RV at*;have F:=λc=>aoD y d c om
 have E:=λc q b st=>aaI (d:=d) c (q:=q) (b:=b) (st:=st)
 refine ic func102 ?_;refine cx ?_;cases c:jE d with
 |false=>
  rw [A c];refine cx ?_;exact mR.qA (.fj (Fm (.kd _ _ _) (.kd _ _ _)) (.fj (.fC _) (.fj (.fC _) (.fj (.fC _) .kv))))
 |true=>
 have F:=F c;refine cx ?_;rcases L:Ch d with _|⟨q,b,st⟩
 .rw [B c L];simp only [NY];refine cx ?_;exact mR.qA (.fj (Fm (.kd _ _ _) (.kd _ _ _)) (.fj (.fC _) (.fj (.fC _) (.fj (.fC _) .kv))))
 have R:=D q b st c L;obtain ⟨q1,q2,b1,b2,_⟩:=E c q b st L;obtain ⟨z1,z2,_,_⟩:=rk c;have t:=SR d.fN.toNat om;rw [show ((d.fN.toNat:Nat):Int)=d.fN by omega] at t;have I:lN d=2*(d.fN.toNat / 4):=rfl;rw [<-I] at t;have O:=Fe d;have f:=SI y d (lN d) (d.fN - lN d) J (by unfold nQ;omega) (by unfold nQ;omega) om;have g:uJ d (lN d) (d.fN - lN d)=pE d:=rfl;have p:=aaN c;have l:=aox (pE d) (b:Int) (by rw [p];omega);obtain ⟨a,m,_,_⟩:=aaH (Sc (pE d) (b:Int));rw [p] at a;rw [g] at f;have hcl:=abo y (d.gT.map ma) (λe=>by rw [hn e];rfl) (by grind);have n:lN d+(pW (pE d) b).2<=d.fN.toNat:=om;have z:=SX (d.fN.toNat - (lN d+(pW (pE d) b).2)) om;have X:=SX (kB d) (by unfold kB;omega);have x:=KE y d c hn om (lN d+(pW (pE d) b).2) (d.fN.toNat - (lN d+(pW (pE d) b).2)) _ (Dv _) om;obtain ⟨v1,Y,Z,v4⟩:=Ci c (lN d+(pW (pE d) b).2) (d.fN.toNat - (lN d+(pW (pE d) b).2)) _ (Dv _) om;have u:=Kv d (q+1);have w:=KE false _ Z (λe=>by cases e) (by rw [v4];omega) (tS d (q+1)) (kB d) _ (Dv _) (by rw [Y];omega);have o:=NZ d.fN.toNat (q+1) om om;have v:=Fk d.fN.toNat om;rw [show ((d.fN.toNat:Nat):Int)=d.fN by omega] at o v;have j:(if (q+1) % 2=1 then d.fN.toNat / 4 else 0)=tS d (q+1):=rfl;have k:d.fN.toNat / 4=kB d:=rfl;rw [j] at o;rw [k] at v;unfold NP at R;clear A B D E L;generalize pW (pE d) b=AL at a m n z x w l v1 Y Z v4 R;obtain ⟨r,i⟩:=AL;simp only at a m n z x w R;generalize hsta:lN d=s at t I O f g a n z x w v1 Y Z v4 u R;generalize tS d (q+1)=so at w u o j R;generalize kB d=ss at X w u v k R;generalize pE d=reg at f g p l a m R;generalize Fb d _ _=re at f;subst R;have P:IntKind.i64.wrap ((b:Int)+((lO r).length:Int))=((b+r.length:Nat):Int):=by grind [DD,fq]
 have Q:IntKind.i64.wrap ((s:Int)+(i:Int))=((s+i:Nat):Int):=by grind [fq]
 have T:IntKind.i64.wrap ((q:Int)+1)=((q+1:Nat):Int):=by grind [fq]
 have S:IntKind.i64.wrap (((b+r.length:Nat):Int) - 1)=((b+r.length - 1:Nat):Int):=by grind [fq]
 have U:IntKind.i64.wrap (d.fN - (s:Int))=d.fN - (s:Int):=fq om om;have W:IntKind.i64.wrap (d.fN - ((s+i:Nat):Int))=((d.fN.toNat - (s+i):Nat):Int):=by grind [fq]
 simp only [NY]
 conv=>whnf
 refine ⟨λh=>?_,λ_=>?_⟩
 .exfalso;simp_all
 refine cx ?_;rw [U];refine cx ?_;rw [P,Q];refine fz func62 ?_;refine cx ?_;have K:=z;rw [<-W] at K;refine cx ?_;refine .inr ⟨eI,eI,?_⟩;refine fz func116 ?_;refine cx ?_;have H:=o;rw [<-T] at H;refine cx ?_;refine .inr ⟨eI,eI,?_⟩;refine fz func116 ?_;refine cx ?_;rw [S];exact mR.qA (.fj (Fm (.fC _) (.kd _ _ _)) (.fj (.fC _) (.fj (.fC _) (.fj (.fC _) .kv))))
def sR (w:kJ) (k:Nat):List UInt8:=xi (w.gM.take k) ((w.ls+1:Nat):Int)
theorem abP (w:kJ) {k:Nat} (h:k<w.gM.length):sR w (k+1)=sR w k++mX (w.ls+1+k) w.gM[k]:=by
 unfold sR;rw [aD h,aal,aT,show min k w.gM.length=k by omega];grind [xi]
theorem abO (w:kJ) (h:∀ p∈w.gM,p.length<=200) (a:w.ls+w.gM.length<=1000000):∀ k,k<=w.gM.length->(sR w k).length<=800*k
 |0,_=>by simp [sR,xi]
 |k+1,hk=>by
  have b:=abO w h a k om;have e:=h _ (aI (show k<w.gM.length by omega));have c:=aoJ (n:=w.ls+1+k) (p:=w.gM[k]) om om;have d:=HQ (w.ls+1+k) w.gM[k];grind [abP]
def zF (n a:Bool) (w:kJ):b9:= .dn [mZ (if (ol w).2=0/\w.gM≠[] then false else n) (if (ol w).2=0/\w.gM≠[] then true else a) (ol w).1, .ax .i64 ((ol w).2:Nat)]
theorem abN {l:List (List UInt8)} {k:Nat} (h:k<l.length):(lO l)[k]? =some [.cp l[k]]:=by grind [lO]
theorem aoV {w:kJ} (h:nm w) (n b:Bool) (Q:n=true->w.fi.gT=[]) (hl:w.fi.gT.length<=900000):er prog 124 [mZ n b w] (zF n b w):=by
 obtain ⟨N,W,e2,K,e4,e5⟩:=N1 h;have L:=h.Ce;have hnx:=h.xl;have X:=h.aaD;have hrm:=h.Kr;have t:=h.HW;have H:=DD w.gM;have u:=abO w t om;have Y:=SV h n Q om;obtain ⟨p1,p2,p3,p4⟩:=abI h n Q om;have o:sP w=sR w w.gM.length:=by grind [sR,sP]
 have g:=aaP w;have r:=λ(hr:w.pi+v7 w.gM (w.ls+1)<=N)=>KE (if w.rW=true then true else n) (lV w).fi p1 p3 p4 w.pi (v7 w.gM (w.ls+1)) (sP w) g (by rw [p2,W];omega)
 have R:w.lD≠0->zF n b w= .dn [mZ n b w, .ax .i64 140]:=λa=>by
  grind [ol,zF]
 have D:w.lD=0->N<w.pi+v7 w.gM (w.ls+1)->zF n b w= .dn [mZ n b w, .ax .i64 120]:=λa A=>by
  have e:ol w=(w,120):=by unfold ol;grind
  grind [zF]
 have E:w.lD=0->¬N<w.pi+v7 w.gM (w.ls+1)->w.gM=[]->zF n b w= .dn [mZ n b w, .ax .i64 0]:=λa A d=>by
  have e:ol w=(w,0):=by unfold ol;grind
  grind [zF]
 have F:w.lD=0->¬N<w.pi+v7 w.gM (w.ls+1)->¬w.gM=[]->zF n b w= .dn [mZ false true {lV w with fi:=oh (lV w).fi w.pi (jK (sP w)),pi:=w.pi+v7 w.gM (w.ls+1),ls:=w.hZ - 1,gM:=[]}, .ax .i64 0]:=λa A d=>by
  have j:(sP w).length / 16=v7 w.gM (w.ls+1):=by rw [g];omega
  have e:ol w=({lV w with fi:=oh (lV w).fi w.pi (jK (sP w)),pi:=w.pi+v7 w.gM (w.ls+1),ls:=w.hZ - 1,gM:=[]},0):=by
   unfold ol;grind
  grind [zF]
 generalize zF n b w=RV at*;have f:lV w=if w.rW=true then {w with fi:=pX w.fi,rW:=false} else w:=rfl
 refine ic func124 ?_
 conv=>whnf
 refine ⟨λa=>?_,λa=>?_⟩
 .have a:w.lD≠0:=by
   simp_all
  rw [R a];exact fu
 have a:w.lD=0:=by simpa using a
 conv=>whnf
 refine iE.Vx 6 5 rfl ?_;refine iE.gY (λk:Nat=>[(.ct 1, .bg (.c8 0 0)),(.ct 2, .bg (.c8 1 0)),(.ct 4, .bg (.c8 6 0)),(.ct 17, .bg (.a8 b 1 (lO w.gM) .dm)),(.ct 18, .bg (.ax .i64 w.gM.length)),(.ct 19, .bg (.ax .i64 k)),
  (.ay 0, .dc 47 (Cp n b w)),(.ay 1, .dc 47 [.ax .i64 0, .cp [], .a8 true 1 [] .fW, .ax .i64 0, .ax .i64 0, .ax .i64 0, .ax .i64 0, .ax .i64 0, .ax .i64 0, .a8 true 1 [] .fW, .fD, .ax .i64 0, .ax .i64 0, .ax .i64 0]),
  (.ay 6, .dc 128 [if k=0 then .fY else .c8 6 0, .a8 (decide (sR w k=[])) 1 (jI (sR w k)) (.hJ 11)]),(.eT 11, .eU 5 1 (sR w k).length)])
  12 (λk=>k<=w.gM.length) (λk=>w.gM.length - k) dd 0 (ar _) ⟨rfl,rfl,rfl,rfl,rfl,rfl,rfl,rfl,?_,af⟩ ?_
 .show gC.bg (b9.ax .i64 (lO w.gM).length)=_;rw [H]
 rintro k hk;have I:=u k hk;refine gk ?_;refine ab (λA=>?_) λA=>?_
 .have l:k<w.gM.length:=om;have Z:=abN l;have hpl:=t _ (aI l);have v:=abP w l;have q:=u (k+1) l;have p:=KC ((w.ls+1+k:Nat):Int) w.gM[k];have O:oA ((w.ls+1+k:Nat):Int) w.gM[k]=true:=Ds.2 ⟨om,om,om⟩;have q1:AO ((w.ls+1+k:Nat):Int) w.gM[k]=mX (w.ls+1+k) w.gM[k]:=by grind [AO]
  have q2:AP ((w.ls+1+k:Nat):Int) w.gM[k]=0:=by grind [AP]
  rw [q1,q2] at p;have J:IntKind.i64.wrap (IntKind.i64.wrap ((w.ls:Int)+1)+(k:Int))=((w.ls+1+k:Nat):Int):=by rw [fq (x:=(w.ls:Int)+1) om om,fq om om];omega
  rw [<-J] at p;generalize mX (w.ls+1+k) w.gM[k]=P at*;refine cx ?_;refine fz func44 ?_
  conv=>whnf
  refine fF.Vt (pL (fn:=f95) eI rfl eI) rfl (by grind) abK ?_
  conv=>whnf
  rw [v,au] at q;refine ⟨⟨(n7 _).symm,⟨by grind [n7],by grind [n7]⟩⟩,?_⟩
  conv=>whnf
  refine ⟨k+1,om,by grind,rfl,rfl,rfl,rfl,rfl,rfl,rfl,rfl,rfl,rfl,?_,rfl,rfl,rfl,rfl,rfl,?_,rfl,?_,rfl,ae⟩
  .exact ix
  .show gC.dc _ [b9.c8 6 0,b9.a8 (decide (sR w k=[]) && (P.map λc=>[b9.ax .u8 c.toNat]).isEmpty) 1 (jI (sR w k)++P.map λc=>[b9.ax .u8 c.toNat]) (.hJ 11)]=gC.dc _ [if k+1=0 then b9.fY else b9.c8 6 0,b9.a8 (decide (sR w (k+1)=[])) 1 (jI (sR w (k+1))) (.hJ 11)];rw [v,ai (Nat.succ_ne_zero k),jI,jI,aU];have K:decide (sR w k++P=[])=(decide (sR w k=[]) && (P.map λc=>[b9.ax .u8 c.toNat]).isEmpty):=by
    rw [df];simp
   rw [K]
  .show gC.eU _ 1 ((jI (sR w k)).length+(P.map λc=>[b9.ax .u8 c.toNat]).length)=gC.eU _ 1 (sR w (k+1)).length;grind [n7]
 .obtain rfl:k=w.gM.length:=om;rw [<-o] at I ⊢
  conv=>whnf
  refine fz func203 ?_
  conv=>whnf
  have T:IntKind.i64.wrap (((jI (sP w)).length:Int).tdiv 16)=(v7 w.gM (w.ls+1):Nat):=by grind [n7,fq]
  have U:IntKind.i64.wrap (w.fi.fN - (w.pi:Int))=w.fi.fN - (w.pi:Int):=fq om om;generalize v7 w.gM (w.ls+1)=S at*;refine ⟨λd=>?_,λd=>?_⟩
  .have d:=ah d;rw [T,U] at d;rw [D a om];exact fu
  have d:=ag d;rw [T,U] at d
  conv=>whnf
  refine ⟨λm=>?_,λm=>?_⟩
  .have m:w.gM=[]:=by
    simp_all
   rw [E a om m];exact fu
  have m:¬w.gM=[]:=by
   simp_all
  rw [F a om m];have r:=r om;have y:IntKind.i64.wrap ((w.pi:Int)+IntKind.i64.wrap (((jI (sP w)).length:Int).tdiv 16))=((w.pi+S:Nat):Int):=by grind [fq]
  have z:IntKind.i64.wrap ((w.hZ:Int) - 1)=((w.hZ - 1:Nat):Int):=by grind [fq]
  conv=>whnf
  refine fz func62 ?_
  conv=>whnf
  refine fz func204 ?_
  conv=>whnf
  refine ⟨λj=>?_,λj=>?_⟩
  .rw [f,ak j] at r;rw [ak j] at r;rw [f,ak j]
   conv=>whnf
   refine fz func65 ?_;refine cx ?_;refine .inl ⟨_,_,_,Gf.VC (e:=5) (pL (fn:=f45) eI rfl eI) (s:=sP w) rfl rfl (λe=>aO e) (λ_=>SY) (λB=>SZ (sP w) B om),rfl,?_⟩
   conv=>whnf
   refine .inr ⟨eI,eI,?_⟩;refine fz func116 ?_;refine cx ?_;rw [y,z];exact NX (Fm (.fC _) (.kd _ _ _)) (.fC _)
  .have i:¬w.rW=true:=by rw [j];simp
   rw [f,ai i] at r;rw [ai i] at r;rw [f,ai i]
   conv=>whnf
   refine .inl ⟨_,_,_,Gf.VC (e:=5) (pL (fn:=f45) eI rfl eI) (s:=sP w) rfl rfl (λe=>aO e) (λ_=>SY) (λB=>SZ (sP w) B om),rfl,?_⟩
   conv=>whnf
   refine .inr ⟨eI,eI,?_⟩;refine fz func116 ?_;refine cx ?_;rw [y,z];exact NX (Fm (.fC _) (.kd _ _ _)) (.fC _)
theorem abM {w:kJ} (h:nm w) (n:Bool) (p:List UInt8) (hp:p.length<=1000) (b:n=true->w.fi.gT=[]) (l:w.fi.gT.length<=900000):
  er prog 106 [oo n w.fi, .cp p] (oo true (nX w.fi (jK p)))/\
  er prog 102 [oo true (nX w.fi (jK p))] (AX (nX w.fi (jK p))):=by
 have f:=h.Ks;have g:=h.Du;obtain ⟨d,e,a⟩:=aaK h.uK (jK p);have c:=an7 n w.fi (jK p) b (by unfold nQ;omega) om (by rw [Sx];omega);rw [ak h.uK] at c;exact ⟨c,aoW true (nX w.fi (jK p)) (λ_=>a) (by grind [nQ]) (by rw [a];decide)⟩
def Cq (d:iQ):List b9:=Ha d.eG++(Cp d.pj.xm d.pj.v8 d.pj.iu++[.ax .i64 d.Cj])
def nA (d:iQ):b9:= .eN (Cq d)
theorem abQ (r:Int):(nJ r).2=0\/(nJ r).2=20:=by
 grind [nJ,rJ]
theorem aoY (s:Int):(tR s).2=0\/(tR s).2=120:=by
 grind [tR]
theorem S0 (r size:Int):er prog 7 [.ax .i64 r, .ax .i64 size] (.dn [nA (tU r size).1, .ax .i64 (tU r size).2]):=by
 have d:=Zk r;have h:=abQ r;have b:=aoP size;have a:=aoY size;unfold SQ at b;unfold tU;generalize nJ r=y at*;obtain ⟨c,e⟩:=y;generalize tR size=z at*;obtain ⟨w,f⟩:=z;dsimp only at*;rcases h with rfl|rfl
 .rw [ai dd];rcases a with rfl|rfl
  .rw [ai dd];refine ic func7 ?_;exact fu
  .rw [ak dd];refine ic func7 ?_;refine cx ?_;exact mR.qA (.fj (.rA s9) (.fj (.fC _) .kv))
 .rw [ak dd];refine ic func7 ?_;refine cx ?_;exact mR.qA (.fj (.rA s9) (.fj (.fC _) .kv))
theorem aoX (x:fb) (c:fG):(pC x c).2.2=0\/(pC x c).2.2=193:=by
 grind [pC]
theorem KF (d:iQ) (c:fG) (h:d.eG.bf.al.length<=1000) (t:0<=d.eG.eZ/\d.eG.eZ<1000000):er prog 15 [nA d,yc c] (.dn [nA (mz d c).1, .ax .i64 (mz d c).2.1, .ax .i64 (mz d c).2.2]):=by
 have b:=alo d.eG c h t;have a:=aoX d.eG c;unfold mz;generalize pC d.eG c=y at*;obtain ⟨x,n,e⟩:=y;dsimp only at*;rcases a with rfl|rfl
 .rw [ai dd];refine ic func15 ?_;exact fu
 .rw [ak dd];refine ic func15 ?_;exact fu
theorem aoZ (b:Nat) (st:List UInt8) (f:b<=1000001) (s:st.length<=1000000):er prog 59 [.ax .i64 b, .cp st] (.dn [.cp (if 40000<(lE b st).length then [] else lE b st), .ax .i64 (if 40000<(lE b st).length then 130 else 0)]):=by
 have a:=JO [] false [(b:Int)] (by simp;omega) (by simp);rw [abJ b] at a;have e:=tM (n:=b) om;have c:=G9 (gh b) st om;have d:nF (gh b) st=lE b st:=rfl;rw [d] at c
 by_cases h:40000<(lE b st).length
 .rw [ak h,ak h];refine fS func59 ?_;refine cx ?_;refine GC om ?_
  conv=>whnf
 .rw [ai h,ai h];refine fS func59 ?_;refine cx ?_;refine kD om ?_
  conv=>whnf
def sS (w:kJ) (s:List UInt8):kJ×Nat:=if w.lD=0/\w.im<200/\40000<(lE w.hZ s).length then (w,130) else nL w s
def yr (n a:Bool) (w:kJ) (s:List UInt8):b9:= .dn [mZ (if (sS w s).2=0 then false else n) a (sS w s).1, .ax .i64 ((sS w s).2:Nat)]
theorem ao0 {w:kJ} (h:nm w) (W:w.fi.fN<=255) (l a:Bool) (s:List UInt8) (T:s.length<=1000000) (S:l=true->w.fi.gT=[]) (O:w.fi.gT.length<=1000000):er prog 127 [mZ l a w, .cp s] (yr l a w s):=by
 by_cases c:s.length<=1000
 .have P:=NO (b:=w.hZ) (st:=s) h.Ce c;have e:sS w s=nL w s:=by grind [sS]
  have:=aoO h l a s c S O;have E:yq l a w s=yr l a w s:=by
   unfold yq yr;rw [e];have F:(Fj w s=true)=((nL w s).2=0):=by
    unfold Fj nL;grind
   simp only [F]
  rw [<-E];exact this
 .obtain ⟨N,K,E,F,Y,Z⟩:=N1 h;have U:=h.NI;have I:=h.Sv;have H:=h.Ce;have t:=aoZ w.hZ s om T;have z:=KC ((w.im+1:Nat):Int) (lE w.hZ s);have A:=Fk N om;rw [<-K] at A;have D:IntKind.i64.wrap ((w.im:Int)+1)=((w.im+1:Nat):Int):=by grind [fq]
  have o:¬(nz (w.im+1) w.hZ s).length / 16<=kB w.fi:=λq=>by
   have e:=Ku (w.im+1) w.hZ s;have P:64<=AS (w.im+1) w.hZ s:=by
    unfold AS kR;have:s.length<=(ny (w.im+1) (lE w.hZ s)).length:=by
     grind [ny,lE,nF,rj]
    omega
   omega
  have o:kB w.fi<(nz (w.im+1) w.hZ s).length / 16:=om;have B:∀ e:Nat,e≠0->sS w s=(w,e)->yr l a w s= .dn [mZ l a w, .ax .i64 e]:=λe he q=>by
   grind [yr]
  have R:w.lD≠0->yr l a w s= .dn [mZ l a w, .ax .i64 140]:=λq=>B 140 dd (by
   grind [sS,nL])
  have r:w.lD=0->200<=w.im->yr l a w s= .dn [mZ l a w, .ax .i64 193]:=λj k=>B 193 dd (by
   unfold sS;rw [ai (λp=>by omega)];unfold nL;simp_all)
  have u:w.lD=0->¬200<=w.im->40000<(lE w.hZ s).length->yr l a w s= .dn [mZ l a w, .ax .i64 130]:=λj k J=>B 130 dd (by
   grind [sS])
  have v:w.lD=0->¬200<=w.im->¬40000<(lE w.hZ s).length->yr l a w s= .dn [mZ l a w, .ax .i64 120]:=λj k J=>B 120 dd (by
   unfold sS;rw [ai (λp=>J p.2.2)];unfold nL;simp_all)
  generalize yr l a w s=X at*;refine ic func127 ?_
  conv=>whnf
  refine ⟨λd=>?_,λd=>?_⟩
  .have d:w.lD≠0:=by
    simp_all
   rw [R d];exact fu
  have d:w.lD=0:=by simpa using d
  conv=>whnf
  refine ⟨λg=>?_,λg=>?_⟩
  .have g:=ah g;rw [r d om];exact fu
  have g:=ag g
  by_cases f:40000<(lE w.hZ s).length
  .rw [u d om f];rw [ak f,ak f] at t;exact fu
  .rw [v d om f];rw [ai f,ai f] at t;have m:oA ((w.im+1:Nat):Int) (lE w.hZ s)=true:=Ds.2 ⟨om,om,om⟩;have j:AO ((w.im+1:Nat):Int) (lE w.hZ s)=nz (w.im+1) w.hZ s:=by unfold AO;rw [ak m,aC];rfl
   have k:AP ((w.im+1:Nat):Int) (lE w.hZ s)=0:=by grind [AP]
   rw [j,k] at z;have y:=Ku (w.im+1) w.hZ s;have Q:(nz (w.im+1) w.hZ s).length<=1000000:=by
    rw [y];unfold AS kR;have h5:=tM (n:=w.im+1) om;have h6:=tM (n:=(lE w.hZ s).length) om;have h7:=Kj (qi (w.im+1) (lE w.hZ s));have h8:(qi (w.im+1) (lE w.hZ s)).length=(gh (w.im+1)).length+((gh (lE w.hZ s).length).length+(lE w.hZ s).length):=by grind [qi]
    have h9:=tM (n:=(rj (qi (w.im+1) (lE w.hZ s))).length) om;have L:(ny (w.im+1) (lE w.hZ s)).length=(gh (rj (qi (w.im+1) (lE w.hZ s))).length).length+(rj (qi (w.im+1) (lE w.hZ s))).length:=by grind [ND]
    omega
   generalize nz (w.im+1) w.hZ s=i at*;refine cx ?_;rw [D];refine cx ?_;have x:IntKind.i64.wrap ((i.length:Int).tdiv 16)=((i.length / 16:Nat):Int):=by
    have e:(i.length:Int).tdiv 16=((i.length / 16:Nat):Int):=by trivial
    grind [fq]
   refine ⟨λ_=>?_,λq=>absurd (ag q) (by rw [x];omega)⟩;exact fu
def m5 (l:List e7):List UInt8:=l.flatMap jD
theorem ao2 {l:List e7} {k:Nat} (h:k<l.length):m5 (l.take (k+1))=m5 (l.take k)++jD l[k]:=by
 grind [m5,List.take_succ_eq_append_getElem]
theorem ao1 (n:Bool) (l:List e7) (y:∀ o∈l,qf o) (F:l.length<=1048576) (r:∀ k,k<=l.length->(l.take k).all g4=true->(m5 (l.take k)).length<=1000000000000):
  er prog 21 [.a8 n 7 (nj l) .dm] (.dn [.cp (if l.all g4=true then m5 l else []), .ax .i64 (if l.all g4=true then 0 else 50)]):=by
 have i:=MC l;refine fS func21 ?_
 conv=>whnf
 refine iE.Vx 2 5 rfl ?_;refine iE.gY (λk:Nat=>[(.ct 4, .bg (.c8 2 0)),(.ct 9, .bg (.a8 n 7 (nj l) .dm)),(.ct 10, .bg (.ax .i64 l.length)),(.ct 11, .bg (.ax .i64 k)),(.ay 2, .dc 128 [if k=0 then .fY else .c8 2 0, .a8 (decide (m5 (l.take k)=[])) 1 (jI (m5 (l.take k))) (.hJ 6)]),(.eT 6, .eU 5 1 (m5 (l.take k)).length)])
  7 (λk=>k<=l.length/\(l.take k).all g4=true) (λk=>l.length - k) dd 0 ⟨ar _,rfl⟩ ⟨rfl,rfl,rfl,rfl,?_,af⟩ ?_
 .show gC.bg (b9.ax .i64 (nj l).length)=_;rw [i]
 rintro k ⟨z,a⟩;have b:=r k z a;refine gk ?_;refine ab (λh=>?_) λh=>?_
 .have t:k<l.length:=om;have d:=ag4 t;have q:=y l[k] (aI t);have p:=YI [] l[k] q dd;have A:g4 l[k]=false->¬(l.all g4=true):=λD E=>by
   simp_all
  have u:=ao2 t;have B:l.take (k+1)=l.take k++[l[k]]:=aD t;have m:=r (k+1) om;unfold gV at d;unfold rc at p
  conv=>whnf
  refine ⟨_,⟨om,d⟩,?_⟩
  conv=>whnf
  cases x:g4 l[k] with
  |false=>
   have f:CU [] l[k]=[]:=by grind [CU]
   have g:CV l[k]=50:=by grind [CV]
   rw [f,g] at p;refine cx ?_;grind
  |true=>
   have f:CU [] l[k]=jD l[k]:=by grind [CU]
   have g:CV l[k]=0:=by grind [CV]
   rw [f,g] at p;refine cx ?_;refine fz func44 ?_
   conv=>whnf
   refine fF.Vt (pL (fn:=f95) eI rfl eI) rfl (by grind) abK ?_
   conv=>whnf
   have j:=m (by grind);rw [u,au] at j;refine ⟨⟨(n7 _).symm,⟨by grind [n7],by grind [n7]⟩⟩,?_⟩
   conv=>whnf
   refine ⟨k+1,⟨om,by grind⟩,by grind,rfl,rfl,rfl,rfl,rfl,rfl,?_,rfl,?_,rfl,?_,rfl,ae⟩
   .exact ix
   .show gC.dc _ [b9.c8 2 0,b9.a8 (decide (m5 (l.take k)=[]) && ((jD l[k]).map λc=>[b9.ax .u8 c.toNat]).isEmpty) 1 (jI (m5 (l.take k))++(jD l[k]).map λc=>[b9.ax .u8 c.toNat]) (.hJ 6)]=gC.dc _ [if k+1=0 then b9.fY else b9.c8 2 0,b9.a8 (decide (m5 (l.take (k+1))=[])) 1 (jI (m5 (l.take (k+1)))) (.hJ 6)];rw [u,ai (Nat.succ_ne_zero k),jI,jI,aU];have v:decide (m5 (l.take k)++jD l[k]=[])=(decide (m5 (l.take k)=[]) && ((jD l[k]).map λc=>[b9.ax .u8 c.toNat]).isEmpty):=by
     rw [df];simp
    rw [v]
   .show gC.eU _ 1 ((jI (m5 (l.take k))).length+((jD l[k]).map λc=>[b9.ax .u8 c.toNat]).length)=gC.eU _ 1 (m5 (l.take (k+1))).length;grind [n7]
 .obtain rfl:k=l.length:=om;rw [aN] at a b;rw [aN,ak a,ak a]
  conv=>whnf
  refine fF.afG (e:=5) (pL (fn:=f45) eI rfl eI) (s:=m5 l) rfl rfl (λe=>aO e) (λ_=>SY) (λw=>SZ (m5 l) w b) ?_
  conv=>whnf
theorem abS {l:List e7} (h:∀ o∈l,g4 o=true) (a:l.length<=1500):(m5 l).length<=225000:=by
 grind [ajW,m5]
theorem ao6 (n:Bool) {l:List e7} (h:∀ o∈l,g4 o=true) (d:l.length<=1500):er prog 21 [.a8 n 7 (nj l) .dm] (.dn [.cp (m5 l), .ax .i64 0]):=by
 have:=ao1 n l (λo a=>JW (h o a)) om (λk b c=>by
  grind [abS])
 rw [ak (bi.2 h),ak (bi.2 h)] at this;exact this
def H9 (b:pk):List (Am.fQ×gC):=[(.ay 20, .dc 148 (Cp b.xm b.v8 b.iu))]
def Fo (b:pk):List (Am.fQ×gC):=[(.ay 6, .dc 148 (Cp b.xm b.v8 b.iu))]
theorem abR (b:pk) (h:pF b) (n:Bool) {l:List e7} (p:∀ o∈l,g4 o=true) (u:l.length<=1500):fF prog 75 [.c8 20 0, .a8 n 7 (nj l) .dm] (eJ (H9 b)) 21
  (gP 21 (λr es=>r= .gO (.ax .i64 (xn b l).2)/\es=H9 (xn b l).1))/\fF prog 75 [.c8 6 0, .a8 n 7 (nj l) .dm] (eJ (Fo b)) 7
  (gP 7 (λr es=>r= .gO (.ax .i64 (xn b l).2)/\es=Fo (xn b l).1)):=by
 have E:=ao6 n p u;have B:=abS p u;have f:=h.Cm;have c:=ao0 f h.Kw b.xm b.v8 (m5 l) om h.H3 (by have:=h.H2;omega);have A:xn b l=match sS b.iu (m5 l) with
   |(w,e)=>if e≠0 then (b,(e:Int)) else match qN (oB w) with
    |(v,d)=>if d≠0 then (b,(d:Int)) else (⟨v,false,b.v8⟩,0):=by
  unfold xn sS;rw [ai (by simp_all)];show (if b.iu.lD=0/\b.iu.im<200/\40000<(lE b.iu.hZ (m5 l)).length then (b,130) else _)=_;split
  .rfl
  .rfl
 rw [A];clear A
 by_cases a:(sS b.iu (m5 l)).2=0
 .have m:sS b.iu (m5 l)=nL b.iu (m5 l):=by
   grind [sS]
  rw [m] at a;have i:=f.aaE (m5 l);have g:(nL b.iu (m5 l)).1.gM=b.iu.gM:=by grind [nL,lV]
  unfold yr at c;rw [m,a] at c;rw [m];have s:(nL b.iu (m5 l)).1.fi.gT.length<=100000:=by grind [h.H2,f.anl (m5 l)]
  generalize nL b.iu (m5 l)=y at*;obtain ⟨w,e⟩:=y;dsimp only at*;subst a;rw [ai dd];have S:=SS i false b.v8 (λq=>by cases q) om;have j:=SC i;have t:(oB w).gM=w.gM:=by grind [oB]
  have W:=aoN i.NJ true b.v8 (λ_=>j) (λq=>by rw [t,g];exact h.anx q) (by simp_all);unfold KD at S;unfold SW at W;have D:(qN (oB w)).2=0->(oB w).lD=2:=λq=>by
   grind [qN]
  have k:(qN (oB w)).2=0\/(qN (oB w)).2=140:=by
   grind [qN]
  generalize qN (oB w)=z at*;obtain ⟨v,d⟩:=z;dsimp only at*;rcases k with rfl|rfl
  .rw [ai dd];rw [ai om] at W;constructor
   all_goals
    refine fz func75 ?_;refine cx ?_;exact ⟨_,_,⟨rfl,rfl⟩,rfl,⟨rfl,rfl⟩,⟨rfl,rfl,trivial⟩⟩
  .rw [ak dd];constructor
   all_goals
    refine fz func75 ?_;refine cx ?_;exact ⟨_,_,⟨rfl,rfl⟩,rfl,⟨rfl,rfl⟩,⟨rfl,rfl,trivial⟩⟩
 .have x:(sS b.iu (m5 l)).1=b.iu:=by
   grind [sS,nL]
  unfold yr at c;rw [ai a,x] at c;generalize sS b.iu (m5 l)=y at*;obtain ⟨w,e⟩:=y;dsimp only at*;rw [ak a];constructor
  all_goals
   refine fz func75 ?_;refine cx ?_;refine ⟨λ_=>?_,λq=>absurd (by simpa using q) a⟩
   conv=>whnf
   exact ⟨_,_,⟨rfl,rfl⟩,rfl,⟨rfl,rfl⟩,⟨rfl,rfl,trivial⟩⟩
theorem ao5 (b:pk) (h:pF b) {o:e7} (c:g4 o=true):fF prog 73 [.c8 20 0,rc o] (eJ (H9 b)) 21
  (gP 21 (λr es=>r= .gO (.ax .i64 (Ck b o).2)/\es=H9 (Ck b o).1)):=by
 have p:=YI [] o (JW c) dd;rw [show CU [] o=jD o by grind [CU],show CV o=0 by grind [CV]] at p;have a:=h.Cm;have i:=a.Ce;have n:=a.xl;have A:=aoB b.xm b.v8 b.iu (jD o) om om;unfold SN at A;unfold Ck;rw [ai (by rw [c];decide)]
 by_cases x:40000<(jD o).length\/1000000<b.iu.hZ
 .rw [ak x];have e:sO b.iu (jD o)=(b.iu,0,130):=by grind [sO]
  rw [ak x,e] at A;refine fz func73 ?_;refine gI ?_;exact ⟨_,_,⟨rfl,rfl⟩,rfl,⟨rfl,rfl⟩,⟨rfl,rfl,trivial⟩⟩
 .rw [ai x];have e:sO b.iu (jD o)=((sO b.iu (jD o)).1,b.iu.hZ,0):=by grind [sO]
  rw [ai x,e] at A;generalize (sO b.iu (jD o)).1=w at*;refine fz func73 ?_;refine gI ?_;exact ⟨_,_,⟨rfl,rfl⟩,rfl,⟨rfl,rfl⟩,⟨rfl,rfl,trivial⟩⟩
theorem ao4 (b:pk) (h:pF b) (n:Bool) {l:List e7} (j:∀ o∈l,g4 o=true) (k:l.length<=1500):fF prog 72 [.c8 20 0, .a8 n 7 (nj l) .dm] (eJ (H9 b)) 21
  (gP 21 (λr es=>r= .gO (.ax .i64 (Dw b l).2)/\es=H9 (Dw b l).1)):=by
 have A:=(abR b h n j k).1;have f:=h.Cm;have p:=h.H2;have d:=aoV f b.xm b.v8 h.H3 om;unfold zF at d;have m:=f.anm;have i:=f.aaF;have s:b.iu.gM=[]->(ol b.iu).1=b.iu:=by grind [ol]
 unfold Dw
 by_cases a:(ol b.iu).2=0
 .by_cases c:b.iu.gM=[]
  .have e:=s c;rw [ai (λq=>q.2 c),ai (λq=>q.2 c),a] at d;have S:=SS i b.xm b.v8 (by rw [e];exact h.H3) om;unfold KD at S;generalize ol b.iu=y at*;obtain ⟨w,g⟩:=y;dsimp only at*;subst a;rw [ai dd,ak c];refine fz func72 ?_;refine cx ?_;exact ⟨_,_,⟨rfl,rfl⟩,rfl,⟨rfl,rfl⟩,⟨rfl,rfl,trivial⟩⟩
  .rw [ak ⟨a,c⟩,ak ⟨a,c⟩,a] at d;have S:=SS i false true (λq=>by cases q) om;unfold KD at S;generalize ol b.iu=y at*;obtain ⟨w,g⟩:=y;dsimp only at*;subst a;rw [ai dd,ai c];refine fz func72 ?_;refine cx ?_;exact ⟨_,_,⟨rfl,rfl⟩,rfl,⟨rfl,rfl⟩,⟨rfl,rfl,trivial⟩⟩
 .rw [ai (λq=>a q.1),ai (λq=>a q.1)] at d;generalize ol b.iu=y at*;obtain ⟨w,e⟩:=y;dsimp only at*;rw [ak a];generalize xn b l=z at*;refine fz func72 ?_;refine cx ?_;refine ⟨λ_=>?_,λq=>absurd (by simpa using q) a⟩;refine j5 ?_;exact ⟨_,_,⟨rfl,rfl⟩,rfl,⟨rfl,rfl⟩,⟨rfl,rfl,trivial⟩⟩
theorem ao3 (b:pk) (h:pF b) (p:List UInt8) (hp:p.length<=1000):fF prog 50 [.c8 6 0, .cp p] (eJ (Fo b)) 7
  (gP 7 (λr es=>r= .gO (oo true (nX b.iu.fi (jK p)))/\es=Fo b)):=by
 have i:=h.Cm;have l:=h.H2;have a:=(abM i b.xm p hp h.H3 om).1;generalize nX b.iu.fi (jK p)=D at*;refine fz func50 ?_;refine cx ?_;exact ⟨_,_,⟨rfl,rfl⟩,rfl,⟨rfl,rfl⟩,⟨rfl,rfl,trivial⟩⟩
theorem abT {T:Nat} {d:iQ} (h:iJ T d):d.eG.eL.al.length<=1500:=by
 have a:=h.kO.xg;have b:=h.kO.kI.lq.zf;omega
theorem ao7 {T:Nat} (d:iQ) (h:iJ T d):er prog 36 [nA d] (.dn [nA (zB d).1, .ax .i64 (zB d).2]):=by
 have A:=(abR d.pj h.yn d.eG.eL.gg h.kO.xf (abT h)).2;unfold zB;generalize xn d.pj d.eG.eL.al=y at*;obtain ⟨b,e⟩:=y;dsimp only at*;refine ic func36 ?_;refine j5 ?_
 by_cases a:e=0
 .subst a;rw [ai dd];exact fu
 .rw [ak a]
  conv=>whnf
  refine ⟨λ_=>?_,λq=>absurd (by simpa using q) a⟩;exact fu
end Go.Proofs.YtffboamedcmpaaaGreatDoor
namespace Gw
theorem apa (r:List UInt8) (l:List (List UInt8)) (a:List e7):AU (r::l) a=match pb r with
  |some (o,[])=>AU l (a++[o])
  |_=>none:=rfl
end Gw
namespace Go.Proofs.YtffboamedcmpaaaGreatDoor
open Gw
open Go.Am
open Go.Proofs.Tryz Tryz
def KG:List b9:=[.a8 true 1 [] .fW, .a8 true 1 [] .fW, .ax .i64 0, .ax .i64 0, .a8 true 1 [] .fW, .a8 true 1 [] .fW, .ax .i64 0, .a8 true 1 [] .fW, .a8 true 1 [] .fW, .ax .i64 0, .a8 true 1 [] .fW, .a8 true 1 [] .fW, .ax .i64 0, .a8 true 1 [] .fW,
 .ax .i64 0, .cp [], .a8 true 1 [] .fW, .ax .i64 0, .ax .i64 0, .ax .i64 0, .ax .i64 0, .ax .i64 0, .ax .i64 0, .a8 true 1 [] .fW, .fD, .ax .i64 0, .ax .i64 0, .ax .i64 0, .ax .i64 0]
theorem ao9 (b:pk) (h:pF b) (r:Int) (picks:List UInt8) (hp:picks.length<=1000):er prog 49 [.ax .i64 r,oo true (nX b.iu.fi (jK picks))] (.dn [nA (vk r (nX b.iu.fi (jK picks))).1, .ax .i64 (vk r (nX b.iu.fi (jK picks))).2]):=by
 have hc:=Zk r;have he:=abQ r;have hno:= @R7 r;have hO:=(abM h.Cm b.xm picks hp h.H3 (by have:=h.H2;omega)).2;have hL:=aaZ h picks;have hE:=anr (nX b.iu.fi (jK picks));unfold AX at hO;unfold vk;generalize nX b.iu.fi (jK picks)=D at*;generalize mY D=O at*;generalize nJ r=y at*;obtain ⟨c,e⟩:=y;dsimp only at*;rcases he with rfl|rfl
 .have hno:=hno rfl;rw [ai dd];rcases hE with hE|hE
  rotate_left
  .rw [hE] at hO ⊢;rw [ak dd];refine ic func49 ?_;refine cx ?_;exact mR.qA (.fj (.rA s9) (.fj (.fC _) .kv))
  obtain ⟨_,hO2,hO3,hO4⟩:=hL hE;have hO:er prog 102 [oo true D] (.dn [mZ false true O.yj, .cp O.Cg, .a8 (decide (O.ph=[])) 1 (lO O.ph) .dm, .ax .i64 0]):=by rw [hE] at hO;exact hO
  rw [ai (by rw [hE];decide)];refine ic func49 ?_;refine cx ?_;refine fz func103 ?_
  conv=>whnf
  refine iE.CI 4 130 7 rfl rfl (.inr rfl) ?_;refine iE.gY (X:=List UInt8×List e7) (λx=>[(.ct 0, .bg (.cp x.1)),(.ct 4, .bg (.a8 (decide (x.2=[])) 7 (nj x.2) (.je 29))),(.eT 29, .eU 130 7 x.2.length),(.ay 1, .dc 49 KG),(.ay 7, .dc 41 (Ha c)),(.ay 18, .dc 47 (Cp false true O.yj))]) 30
   (λx=>x.1.length+x.2.length<=1048576/\∃ f,x.1.length<f/\ux O.Cg=qJ f x.1 x.2) (λx=>x.1.length) dd (O.Cg,[]) ⟨by grind,O.Cg.length+1,Nat.lt_succ_self _,rfl⟩ ⟨rfl,rfl,rfl,rfl,rfl,rfl,rfl,rfl,rfl,rfl,rfl,rfl,trivial⟩ ?_
  rintro ⟨rest,acc⟩ ⟨h1,f,hf,hr⟩;simp only at h1 hf hr;have htk:=Ro rest om;have hal:=MC acc;refine gk ?_;refine ⟨λh=>?_,λh=>?_⟩
  .have h:rest≠[]:=by
    simp_all
   obtain ⟨f,rfl⟩:∃ g,f=g+1:=⟨f - 1,om⟩;rw [qJ,ai h] at hr
   conv=>whnf
   cases ht:pb rest with
   |none=>
    rw [ht] at htk hr;simp only at hr;rw [hr];refine cx ?_;exact mR.qA (.fj (.rA s9) (.fj (.fC _) .kv))
   |some oq=>
    obtain ⟨o,q⟩:=oq;have hlen:=Qo ht;rw [ht] at htk hr;simp only at hr;refine cx ?_;refine ⟨⟨hal.symm,ji (by grind) dd⟩,?_⟩
    conv=>whnf
    refine ⟨(q,acc++[o]),⟨by grind,f,by grind,hr⟩,hlen,⟨rfl,rfl,?_,rfl,?_,af⟩⟩
    .show gC.bg (b9.a8 (decide (acc=[]) && false) 7 (nj acc++[gV o]) _)=gC.bg (b9.a8 (decide (acc++[o]=[])) 7 (nj (acc++[o])) _);rw [cf,aJ (by simp),nj,nj,aU];rfl
    .show gC.eU _ 7 ((nj acc).length+1)=gC.eU _ 7 (acc++[o]).length;simp_all
  .have h:rest=[]:=by
    simp_all
   have e:qJ f rest acc=some acc:=by
    cases f with
    |zero=>rfl
    |succ f=>rw [qJ,ak h]
   rw [e] at hr;rw [hr];dsimp only;have hrd:=aa1 hr;refine cx ?_;have hrl:=DD O.ph;refine iE.gY (X:=Nat×List e7) (λx=>[(.ct 4, .bg (.c8 1 0)),(.ct 6, .bg (.c8 7 0)),(.ct 8, .bg (.c8 18 0)),(.ct 11, .bg (.a8 (decide (x.2=[])) 7 (nj x.2) (.je 29))),(.eT 29, .eU 130 7 x.2.length),(.ct 45, .bg (.a8 (decide (O.ph=[])) 1 (lO O.ph) .dm)),(.ct 46, .bg (.ax .i64 O.ph.length)),(.ct 47, .bg (.ax .i64 x.1)),
    (.ay 1, .dc 49 KG),(.ay 7, .dc 41 (Ha c)),(.ay 18, .dc 47 (Cp false true O.yj))]) 30
    (λx=>x.1<=O.ph.length/\x.2.length=acc.length+x.1/\(∀ o∈x.2,g4 o=true)/\AU (O.ph.drop x.1) x.2=AU O.ph acc) (λx=>O.ph.length - x.1) dd (0,acc) ⟨ar _,rfl,hrd.2,rfl⟩ ⟨rfl,rfl,rfl,rfl,rfl,rfl,rfl,rfl,rfl,rfl,rfl,rfl,?_,af⟩ ?_
   .show gC.bg (b9.ax .i64 ((lO O.ph).length:Nat))=_;rw [hrl]
   rintro ⟨k,L⟩ ⟨hk,hL,hLc,hT⟩;dsimp only at hk hL hLc hT ⊢;have hal2:=MC L;refine gk ?_;refine ab (λh=>?_) λh=>?_
   .have hlt:k<O.ph.length:=om;have hg:=abN hlt;have hdr:=aY hlt;have hsh:=hO4 O.ph[k] (aI hlt);have w1:IntKind.i64.wrap ((k:Int)+1)=((k+1:Nat):Int):=by grind [fq]
    rw [hdr] at hT;generalize O.ph[k]=s at*;have htk:=Ro s om;rw [apa] at hT;cases ht:pb s with
    |none=>
     rw [ht] at htk hT;dsimp only at hT;rw [<-hT];refine cx ?_;exact mR.qA (.fj (.rA s9) (.fj (.fC _) .kv))
    |some oq=>
     obtain ⟨o,q⟩:=oq;rw [ht] at htk hT;cases q with
     |nil=>
      dsimp only at hT;refine cx ?_;refine ⟨⟨hal2.symm,ji (by grind) dd⟩,?_⟩
      conv=>whnf
      refine ⟨(k+1,L++[o]),⟨om,by grind,λx hx=>?_,hT⟩,by grind,⟨rfl,rfl,rfl,rfl,rfl,rfl,?_,rfl,?_,rfl,rfl,rfl,rfl,rfl,?_,af⟩⟩
      .rcases aF.1 hx with hx|hx
       .exact hLc x hx
       .rw [aw.1 hx];exact (M6 ht).1
      .show gC.bg (b9.a8 (decide (L=[]) && false) 7 (nj L++[gV o]) _)=gC.bg (b9.a8 (decide (L++[o]=[])) 7 (nj (L++[o])) _);rw [cf,aJ (by simp),nj,nj,aU];rfl
      .show gC.eU _ 7 ((nj L).length+1)=gC.eU _ 7 (L++[o]).length;simp_all
      .exact ix
     |cons q0 q=>
      dsimp only at hT;rw [<-hT];refine gI ?_;exact mR.qA (.fj (.rA s9) (.fj (.fC _) .kv))
   .obtain rfl:k=O.ph.length:=om;rw [cR] at hT;have hT:some L=AU O.ph acc:=hT;rw [<-hT];have hMr:=akv c.ep hno.kI.lq (decide (L=[])) L (λo ho=>JW (hLc o ho)) om;refine cx ?_;have hfl:decide (L=[])=(true && L.isEmpty):=by cases L<;>rfl
    rw [hal2,hfl];exact mR.fC _
 .rw [ak dd];refine ic func49 ?_;refine cx ?_;exact mR.qA (.fj (.rA s9) (.fj (.fC _) .kv))
theorem ao8 {P:Program} {m n:Nat} {f:FuncId} {args:List b9} {σ:eK} {rx:List Go.Am.fQ} {l:Go.Am.fQ} {c:gC} {res:b9} (h:qx P m f args σ n rx [(l,c)] res) (r:l∈rx) (q:σ l=c):qx P m f args σ n rx [] res:=
 ⟨h.D5,λa p b D g w v d e i j k o=>by
  have:=h.D6 a p b D g w v d e i j k o;grind [jP,EV]⟩
theorem abU {T:Nat} (d:iQ) (h:iJ T d) (p:List UInt8) (hp:p.length<=1000):er prog 25 [nA d, .cp p] (.dn [nA (zA d p).1, .ax .i64 (zA d p).2]):=by
 have a:=ao3 d.pj h.yn p hp;have O:=ao9 d.pj h.yn d.eG.ep.ky p hp;have o:=aa0 h.yn d.eG.ep.ky p;unfold zA;generalize c:nX d.pj.iu.fi (jK p)=D at*;generalize vk d.eG.ep.ky D=y at*;obtain ⟨n,e⟩:=y;dsimp only at*;refine er.Hy jy (fn:=f25) eI rfl eI rfl rfl ?_;refine iE.Ad (wO jy m8 _ _ _ _ ?_)
 conv=>whnf
 refine ⟨0,_,_,_,rfl,ao8 (qx.YS (m:=7) (res:=oo true D) (es:=Fo d.pj) (es':=Fo d.pj) ⟨rfl,rfl,trivial⟩ rfl rfl rfl rfl rfl rfl a) (by simp [Fo]) rfl,rfl,?_⟩
 conv=>whnf
 refine ⟨0,_,_,_,rfl,(Gf.Ea O rfl).CM,rfl,?_⟩;refine cx ?_;refine ⟨λh=>?_,λh=>?_⟩
 .rw [ak (by simpa using h)];exact fu
 .rw [ai (by simpa using h)]
  conv=>whnf
  have b:e=0:=by simpa using h
  subst b;exact mR.fC _
theorem abV {T:Nat} (d:iQ) (h:iJ T d) (p:Int) (B:T<=399000):er prog 34 [nA d, .ax .i64 p] (nA (rY d p)):=by
 have H:=h.kO.lm.pD;have t:=h.kO.lm.rS;have E:=h.kO.uG;have c:=Nk d.eG p om om om;unfold rY;cases F:pB d.eG p with
 |none=>
  rw [F] at c;have c:er prog 69 [pU d.eG, .ax .i64 p] (.dn [.ax .i64 0, .eD false, .eD false]):=c;refine ic func34 ?_;exact fu
 |some y=>
  obtain ⟨k,I⟩:=y;rw [F] at c;have c:er prog 69 [pU d.eG, .ax .i64 p] (.dn [.ax .i64 k, .eD I, .eD true]):=c;cases I with
  |true=>
   have N:=ao4 d.pj h.yn d.eG.eL.gg h.kO.xf (abT h);dsimp only;generalize Dw d.pj d.eG.eL.al=y at*;obtain ⟨b,e⟩:=y;dsimp only at*;have S:=abl d.eG p (decide (e≠0)) B h.kO;rw [show decide (e≠0)=(e !=0) by grind] at S ⊢;generalize nN d.eG p (e !=0)=x at*;refine ic func34 ?_;refine j5 ?_;refine fz func70 ?_;exact fu
  |false=>
   have S:=abl d.eG p false B h.kO;have s:=R8 h.kO p false;generalize nN d.eG p false=x at*;dsimp only;refine ic func34 ?_;refine cx ?_;refine fz func70 ?_;refine cx ?_;refine ⟨?_,?_⟩
   .grind
   conv=>whnf
   have Q:=s.yh;have f:=s.xf;have D:=s.xg;have w:=s.kI.lq.zf;obtain ⟨K,N⟩:∃ K,(min (max d.Cj 0) (x.eL.al.length:Int)).toNat=K:=⟨_,rfl⟩;have v:SB d.Cj x.eL.al=x.eL.al.drop K:=by grind [SB]
   rw [v];obtain ⟨L,A⟩:∃ L,x.eL.al.drop K=L:=⟨_,rfl⟩;rw [A];have O:L.length<=1500:=by grind
   have g:∀ o∈L,g4 o=true:=λo R=>f o (cV (A▸R))
   have m:(x.eL.al.map gV).drop (min (max d.Cj 0) ((x.eL.al.map gV).length:Int)).toNat=L.map gV:=by
    grind [List.map_drop]
   have n:(L.map gV).length=L.length:=ap _;refine iE.gY (X:=Nat×pk) (λy=>[(.ct 2, .bg (.c8 0 0)),(.ct 4, .bg (.c8 2 0)),(.ct 9, .bg (.c8 20 0)),(.ct 10, .bg (.a8 x.eL.gg 7 (x.eL.al.map gV) .dm)),(.ct 57, .bg (.a8 x.eL.gg 7 (L.map gV) .dm)),(.ct 58, .bg (.ax .i64 L.length)),(.ct 59, .bg (.ax .i64 y.1)),
    (.ay 0, .dc 49 (Cq ⟨x,d.pj,d.Cj⟩)),(.ay 2, .dc 49 KG),(.ay 20, .dc 148 (Cp y.2.xm y.2.v8 y.2.iu))]) 21
    (λy=>y.1<=L.length/\pF y.2/\Dz y.2 (L.drop y.1)=Dz d.pj L) (λy=>L.length - y.1) dd (0,d.pj) ⟨ar _,h.yn,rfl⟩ ⟨rfl,rfl,rfl,rfl,rfl,rfl,rfl,rfl,?_,rfl,?_,af⟩ ?_
   .show gC.bg (b9.a8 x.eL.gg 7 ((x.eL.al.map gV).drop (min (max d.Cj 0) ((x.eL.al.map gV).length:Int)).toNat) .dm)=_;rw [m]
   .show gC.bg (b9.ax .i64 (((x.eL.al.map gV).drop (min (max d.Cj 0) ((x.eL.al.map gV).length:Int)).toNat).length:Nat))=_;rw [m,n]
   rintro ⟨k,b⟩ ⟨P,i,a⟩;dsimp only at P i a ⊢;refine gk ?_;refine ab (λh=>?_) λh=>?_
   .have l:k<L.length:=om;have W:(L.map gV)[k]? =some (gV L[k]):=by simp_all
    have r:=aY l;have j:=g L[k] (aI l);have Y:IntKind.i64.wrap ((k:Int)+1)=((k+1:Nat):Int):=by grind [fq]
    rw [r] at a;generalize L[k]=o at*;have U:=ao5 b i j;have u:=aaT i o;rw [Dz] at a;generalize Ck b o=z at*;obtain ⟨J,e⟩:=z;dsimp only at*;refine j5 ?_;refine ⟨λq=>?_,λq=>?_⟩
    .rw [ak (by simpa using q)] at a;rw [<-a]
     conv=>whnf
     rw [show (x.eL.al.map gV).length=x.eL.al.length from ap _];exact mR.fC _
    .rw [ai (by simpa using q)] at a
     conv=>whnf
     refine ⟨(k+1,J),⟨om,u,a⟩,by grind,⟨rfl,rfl,rfl,rfl,rfl,rfl,rfl,rfl,rfl,rfl,rfl,rfl,?_,af⟩⟩;exact ix
   .obtain rfl:k=L.length:=om;rw [cR] at a;have a:b=Dz d.pj L:=a;rw [<-a]
    conv=>whnf
    rw [show (x.eL.al.map gV).length=x.eL.al.length from ap _];exact mR.fC _
def vn (c:fG):Bool:=decide (c.fR.length<=1000) && (decide (c.kE.length<=1000) && decide (c.lS.length<=5000))
def KH (o:my):List b9:=[.ax .i64 o.vj, .ax .i64 o.nn.gD, .cp o.nn.fR, .cp o.nn.kE, .cp o.nn.lS, .ax .i64 o.nn.g7, .ax .i64 o.ym, .cp o.Ff]
def apc (o:my):b9:= .eN (KH o)
def xo (l:List my):List (List b9):=l.map KH
theorem S2 (l:List my):(xo l).length=l.length:=ap _
theorem S1 {l:List my} {k:Nat} (h:k<l.length):(xo l)[k]? =some (KH l[k]):=by
 grind [xo]
theorem apb {l:List fG} {k:Nat} (h:k<l.length):(l.map EK)[k]? =some (EK l[k]):=by
 simp_all
theorem apd (n:Bool) (l:List fG) (m:Nat) (o:l.length<=1048576):er prog 42 [.a8 n 5 (l.map EK) .dm, .ax .i64 m] (.eD (l.all vn && decide (l.length<=m))):=by
 have e:(l.map EK).length=l.length:=ap _;refine fS func42 ?_
 conv=>whnf
 refine iE.gY (λk:Nat=>[(.ct 0, .bg (.a8 n 5 (l.map EK) .dm)),(.ct 1, .bg (.ax .i64 m)),(.ct 5, .bg (.ax .i64 k))]) 0
  (λk=>k<=l.length/\(l.take k).all vn=true) (λk=>l.length - k) dd 0 ⟨Nat.zero_le _,rfl⟩ ⟨rfl,rfl,rfl,rfl,rfl,rfl,trivial⟩ ?_
 rintro k ⟨j,a⟩;refine gk ?_;rw [e];refine ab (λh=>?_) λh=>?_
 .have t:k<l.length:=om;have i:=apb t;have b:vn l[k]=false->l.all vn=false:=λg=>by
   grind
  have s:vn l[k]=true->(l.take (k+1)).all vn=true:=λg=>by
   grind [List.take_succ_eq_append_getElem]
  generalize l[k]=c at*;refine cx ?_;refine ab (λh=>?_) λh=>?_
  .rw [b (by grind [vn])]
   conv=>whnf
   rw [cC]
  .refine cx ?_;refine ab (λd=>?_) λd=>?_
   .rw [b (by unfold vn;grind)]
    conv=>whnf
    rw [cC]
   .refine cx ?_;refine ab (λf=>?_) λf=>?_
    .rw [b (by unfold vn;grind)]
     conv=>whnf
     rw [cC]
    .conv=>whnf
     refine ⟨k+1,⟨om,s (by grind [vn])⟩,by grind,⟨rfl,rfl,rfl,rfl,?_,rfl,ae⟩⟩;exact ix
 .obtain rfl:k=l.length:=om;rw [aN] at a;rw [a,bo]
  conv=>whnf
  simp_all
def zG (o:my):Bool:=vn o.nn && decide (o.Ff.length<=1000)
theorem ape (n:Bool) (l:List my) (m:Nat) (i:l.length<=9223372036854775807):er prog 20 [.a8 n 8 (xo l) .dm, .ax .i64 m] (.eD (l.all zG && decide (l.length<=m))):=by
 have e:=S2 l;refine fS func20 ?_
 conv=>whnf
 refine iE.gY (λk:Nat=>[(.ct 0, .bg (.a8 n 8 (xo l) .dm)),(.ct 1, .bg (.ax .i64 m)),(.ct 5, .bg (.ax .i64 k))]) 0
  (λk=>k<=l.length/\(l.take k).all zG=true) (λk=>l.length - k) dd 0 ⟨Nat.zero_le _,rfl⟩ ⟨rfl,rfl,rfl,rfl,rfl,rfl,trivial⟩ ?_
 rintro k ⟨f,a⟩;refine gk ?_;rw [e];refine ab (λh=>?_) λh=>?_
 .have t:k<l.length:=om;have g:=S1 t;have b:zG l[k]=false->l.all zG=false:=λc=>by
   grind
  have s:zG l[k]=true->(l.take (k+1)).all zG=true:=λc=>by
   grind [List.take_succ_eq_append_getElem]
  generalize l[k]=o at*;have F:=apd false [o.nn] 1 (by simp);rw [show ([o.nn].all vn && decide ([o.nn].length<=1))=vn o.nn by simp] at F;refine cx ?_;cases c:vn o.nn with
  |false=>
   rw [b (by grind [zG])];refine cx ?_;rw [cC]
  |true=>
   refine cx ?_;refine ab (λd=>?_) λd=>?_
   .rw [b (by grind [zG])]
    conv=>whnf
    rw [cC]
   .conv=>whnf
    refine ⟨k+1,⟨om,s (by grind [zG])⟩,by grind,⟨rfl,rfl,rfl,rfl,?_,rfl,ae⟩⟩;exact ix
 .obtain rfl:k=l.length:=om;rw [aN] at a;rw [a,bo]
  conv=>whnf
  simp_all
def Ia (l:List my):Bool:=l.all zG && decide (l.length<=80)
theorem S3 (n:Bool) (l:List my) (h:l.length<=9223372036854775807):er prog 8 [.a8 n 8 (xo l) .dm] (.eD (Ia l)):=by
 have F:=ape n l 80 h;refine ic func8 ?_;exact fu
theorem abW {T:Nat} (d:iQ) (h:iJ T d) (o:my) (m:T<=399000) (hp:o.Ff.length<=1000):er prog 16 [nA d,apc o] (.dn [nA (rn d o).1, .ax .i64 (rn d o).2]):=by
 have t:=h.kO.lm.pD;have q:=h.kO.tL;unfold rn
 by_cases a:o.vj=1
 .have j:=KF d o.nn om om;rw [ak a];obtain ⟨k,c,i,p⟩:=o;dsimp only at*;subst a;generalize mz d c=y at*;obtain ⟨l,n,e⟩:=y;refine ic func16 ?_;exact jf
 rw [ai a]
 by_cases b:o.vj=2
 .have j:=abV d h o.ym m;rw [ak b];obtain ⟨k,c,i,p⟩:=o;dsimp only at*;subst b;generalize rY d i=y at*;refine ic func16 ?_;exact jf
 rw [ai b]
 by_cases f:o.vj=3
 .have j:=ao7 d h;rw [ak f];obtain ⟨k,c,i,p⟩:=o;dsimp only at*;subst f;generalize zB d=y at*;obtain ⟨l,e⟩:=y;refine ic func16 ?_;exact jf
 rw [ai f]
 by_cases g:o.vj=4
 .have j:=abU d h o.Ff hp;rw [ak g];obtain ⟨k,c,i,p⟩:=o;dsimp only at*;subst g;generalize zA d p=y at*;obtain ⟨l,e⟩:=y;refine ic func16 ?_;exact jf
 rw [ai g];obtain ⟨k,c,i,p⟩:=o;dsimp only at*;refine ic func16 ?_
 conv=>whnf
 refine kD a ?_
 conv=>whnf
 refine kD b ?_
 conv=>whnf
 refine kD f ?_
 conv=>whnf
 refine kD g ?_;exact fu
theorem abX (n:Bool) (l:List my) {T:Nat} (d:iQ) (h:iJ T d) (p:∀ o∈l,wa o) (s:T+2*l.length<=399000):
  er prog 9 [nA d, .a8 n 8 (xo l) .dm] (nA (rm d l)):=by
 have f:=S2 l;refine ic func9 ?_
 conv=>whnf
 refine iE.gY (X:=Nat×iQ) (λy=>[(.ct 1, .bg (.a8 n 8 (xo l) .dm)),(.ct 2, .bg (.c8 0 0)),(.ct 4, .bg (.c8 1 0)),(.ct 5, .bg (.ax .i64 y.1)),(.ay 0, .dc 49 (Cq y.2)),(.ay 1, .dc 49 KG)]) 2
  (λy=>y.1<=l.length/\iJ (T+2*y.1) y.2/\rm y.2 (l.drop y.1)=rm d l) (λy=>l.length - y.1) dd (0,d) ⟨Nat.zero_le _,h,rfl⟩ ⟨rfl,rfl,rfl,rfl,rfl,rfl,rfl,rfl,rfl,rfl,rfl,rfl,trivial⟩ ?_
 rintro ⟨k,c⟩ ⟨m,e,a⟩;dsimp only at m e a ⊢;refine gk ?_;rw [f];refine ab (λh=>?_) λh=>?_
 .have t:k<l.length:=om;have j:=S1 t;have r:=aY t;have b:=p l[k] (aI t);rw [r] at a;generalize l[k]=o at*;have D:=abW c e o om b.aaX;have g:=Kx e b;have a:rm (rn c o).1 (l.drop (k+1))=rm d l:=a;generalize rn c o=z at*;obtain ⟨i,q⟩:=z
  conv=>whnf
  refine ⟨_,⟨om,j⟩,?_⟩
  conv=>whnf
  refine ⟨_,rfl,D,?_⟩
  conv=>whnf
  refine ⟨eI,?_⟩
  conv=>whnf
  refine ⟨(k+1,i),⟨by show k+1<=l.length;omega,g.rZ om,a⟩,by show l.length - (k+1)<l.length - k;omega,⟨rfl,rfl,rfl,rfl,rfl,rfl,?_,af⟩⟩;show gC.bg (b9.ax .i64 (IntKind.i64.wrap ((k:Int)+1)))=_;rw [fq om om];rfl
 .obtain rfl:k=l.length:=om;rw [cR] at a;have a:c=rm d l:=a;rw [<-a];exact fu
end Go.Proofs.YtffboamedcmpaaaGreatDoor
namespace Gw
theorem abZ {l:List eF} (hc:gU l=true) (hg:∀ n∈l,ni n):(jo l 0).length<=l.length:=by
 have h2:((jo l 0).map (·.iM)).Nodup:=by
  rw [dR,dO,dU];exact λi j hi hj hij=>(aba hc hg hj hij).2
 have:=xX (m:=l.map (·.eM)) h2 λq hq=>by
  obtain ⟨it,h1,rfl⟩:=aE.1 hq;obtain ⟨i,hi,rfl⟩:=bC h1;obtain ⟨n,A,hr⟩:=aa9 hc hg hi;have hf:=hr.aa7;unfold jN at hf;split at hf
  .cases hf
  .rename_i m hm;split at hf
   .rename_i hid;exact aE.2 ⟨m,bh hm,hid⟩
   .cases hf
 rwa [ap,ap] at this
end Gw
namespace Go.Proofs.YtffboamedcmpaaaGreatDoor
open Gw
open Go.Am
open Go.Proofs.Tryz Tryz
theorem S4 {l:List my} (h:Ia l=true):l.length<=80/\∀ o∈l,wa o:=by
 unfold Ia at h;simp only [az,aM] at h;refine ⟨h.2,λo a=>?_⟩;have:=bi.1 h.1 o a;unfold zG vn at this;simp only [az,aM] at this;exact ⟨this.1.1,this.1.2.1,this.1.2.2,this.2⟩
theorem abY {T:Nat} (d:iQ) (h:iJ T d):er prog 10 [nA d] (.a8 (decide (jo d.eG.ep.cy.ec.al 0=[])) 3 (mv (jo d.eG.ep.cy.ec.al 0)) .dm):=by
 have n:=AF h.kO.kI.lq;have f:=n.B3;have i:=MK d.eG.ep.cy.ec.gg d.eG.ep.cy.ec.al 0 n.xc om n.Hr;refine ic func10 ?_;exact fu
theorem N2 {T:Nat} (d:iQ) (h:iJ T d) (p:Int) (hp:0<=p/\p<=1000000) (x:T+2*(45*d.eG.bf.al.length*d.eG.bf.al.length)<=399000):
  er prog 14 [nA d, .ax .i64 p] (nA (sQ d p)):=by
 have t:=h.kO.lm.pD;have l:(d.eG.bf.al.map gx).length=d.eG.bf.al.length:=ap _;unfold sQ;generalize z:d.eG.bf.al.length=n at*;have m:45*n*n<=72000:=dQ (cz 45 t) t;have w:IntKind.i64.wrap (45*(n:Int))=45*(n:Int):=fq om om;have r:IntKind.i64.wrap (45*(n:Int)*(n:Int))=((45*n*n:Nat):Int):=by
  grind [fq]
 generalize v:45*n*n=K at*;refine ic func14 ?_
 conv=>whnf
 refine iE.gY (X:=Nat×iQ) (λy=>[(.ct 1, .bg (.ax .i64 p)),(.ct 2, .bg (.c8 0 0)),(.ct 4, .bg (.c8 1 0)),(.ct 5, .bg (.ax .i64 n)),(.ct 6, .bg (.ax .i64 y.1)),(.ay 0, .dc 49 (Cq y.2)),(.ay 1, .dc 49 KG)]) 2
  (λy=>y.1<=K/\iJ (T+2*y.1) y.2/\rX p (K - y.1) y.1 y.2=rX p K 0 d) (λy=>K - y.1) dd (0,d) ⟨ar _,h,rfl⟩ ⟨rfl,rfl,rfl,rfl,rfl,rfl,?_,af⟩ ?_
 .show gC.bg (b9.ax .i64 ((d.eG.bf.al.map gx).length:Nat))=_;rw [l]
 rintro ⟨k,D⟩ ⟨i,c,a⟩;dsimp only at i c a ⊢;have u:=Zj D.eG (by have:=c.kO.lm.pD;omega);refine gk ?_;rw [w,r];refine ab (λq=>?_) λq=>?_
 .have j:k<K:=om;obtain ⟨f,g⟩:∃ f,K - k=f+1:=⟨K - k - 1,om⟩;rw [g,rX] at a;have e:K - (k+1)=f:=om;have S:=abV D c (p+((k % 7:Nat):Int)) om;have o:=Ky c (p+((k % 7:Nat):Int));have s:IntKind.i64.wrap (p+((k % 7:Nat):Int))=p+((k % 7:Nat):Int):=fq om om;refine cx ?_;cases b:vL D.eG with
  |true=>
   rw [ak b] at a;rw [<-a];exact fu
  |false=>
   rw [ai (by rw [b];decide)] at a;refine cx ?_;rw [show (k:Int).tmod 7=((k % 7:Nat):Int) from rfl,s];refine fF.kc S rfl ?_
   conv=>whnf
   refine ⟨(k+1,_),⟨om,o.rZ om,by show rX p (K - (k+1)) (k+1) _=_;rw [e];exact a⟩,by simp_all,⟨rfl,rfl,rfl,rfl,rfl,rfl,rfl,rfl,?_,af⟩⟩;exact ix
 .obtain rfl:k=K:=om;rw [dT] at a;have a:D=rX p k 0 d:=a;rw [<-a];exact fu
end Go.Proofs.YtffboamedcmpaaaGreatDoor
namespace Gw
theorem adB (p):∀ (f:Nat) (i:Nat) {T:Nat} {d:iQ},iJ T d->iJ (T+2*f) (rX p f i d)
 |0,_,_,_,h=>h
 |f+1,i,T,d,h=>by
  rw [rX];split
  .exact h.rZ om
  .exact (adB p f (i+1) (Ky h _)).rZ om
theorem Ow {T d} (h:iJ T d) (p):iJ (T+2*(45*d.eG.bf.al.length*d.eG.bf.al.length)) (sQ d p):=adB p _ 0 h
def KX:=tU 1 60
def KY:=mz KX.1 ⟨2,[47,97],[],[],0⟩
def KZ:=mz KY.1 ⟨7,[47],[],[],0⟩
def Ov:=sQ KZ.1 0
def K0:=mz Ov ⟨12,[],[],[],0⟩
def yy:=sQ K0.1 0
def K1:=zA yy []
theorem K2:KX.2=0/\KY.2.2=0/\KZ.1.eG.bf.al.length=2/\K0.1.eG.bf.al.length=3/\yy.eG.bf.al.length=3/\
  (yy.eG.bf.al.all λt=>t.g8 && (decide (t.gu.nS.al.length<=1000) && decide (t.gu.qH.al.length<=1000)))=true/\
  ((yy.eG.bf.al.map (·.kf))[0]?.getD 0<=(yy.eG.bf.al.map (·.kf))[1]?.getD 0)/\((yy.eG.bf.al.map (·.kf))[1]?.getD 0<=(yy.eG.bf.al.map (·.kf))[2]?.getD 0)/\
  (yy.eG.bf.al.map λt=>t.gu.nS.al.length)[1]? =some 1/\vL yy.eG=true/\K1.2=0/\(jo K1.1.eG.ep.cy.ec.al 0).map (·.fM)=[[47,97]]:=by decide+kernel
theorem TA:iJ 0 KX.1:=NS dd K2.1
theorem TB:iJ 1 KY.1:=H4 TA ⟨2,[47,97],[],[],0⟩ dd dd dd
theorem TC:iJ 2 KZ.1:=H4 TB ⟨7,[47],[],[],0⟩ dd dd dd
theorem TD:iJ 362 Ov:=by
 have:=Ow TC 0;rw [K2.2.2.1] at this;exact this
theorem TE:iJ 363 K0.1:=H4 TD ⟨12,[],[],[],0⟩ dd dd dd
theorem TF:iJ 1173 yy:=by
 have:=Ow TE 0;rw [K2.2.2.2.1] at this;exact this
theorem adA:iJ 1173 K1.1:=aaY TF []
end Gw
namespace Go.Proofs.YtffboamedcmpaaaGreatDoor
open Gw
open Go.Am Go.ChangeShapes Go.WideShapes Go.ChangeAt Go.RowKit
open Go.Proofs.Tryz Tryz
theorem aq9 {H:Type} {enc:TypeId×Value->H} {W:World} {u:Nat} {cs:List Value} {y:DataW H×List MemPlace} (D:DataW.trod enc prog W 0 (λ_=>true) true u 73 cs=some y):
  ∃ (k:Int) (p s d:ByteArray) (n:Int),cs=[.int .i64 k, .string p, .string s, .string d, .int .i64 n]:=by
 obtain ⟨E,m,_,rfl,v,l,h⟩:=DataW.trod_struct underlying73 D;have v:cs.length=5:=v.trans eI
 match E,l,cs,v with
 |[w,x,z,A,B],_,[c,b,e,f,g],_=>
  have i:DataW.trod enc prog W 0 (λ_=>true) true m 3 (([c,b,e,f,g].drop 0).take (prog.cellsOf 3))=some w:=h 0 _ rfl;rw [show prog.cellsOf 3=1 by kernel_rfl] at i;have i:DataW.trod enc prog W 0 (λ_=>true) true m 3 [c]=some w:=i;have j:DataW.trod enc prog W 0 (λ_=>true) true m 9 (([c,b,e,f,g].drop 1).take (prog.cellsOf 9))=some x:=h 1 _ rfl;rw [show prog.cellsOf 9=1 by kernel_rfl] at j;have j:DataW.trod enc prog W 0 (λ_=>true) true m 9 [b]=some x:=j;have o:DataW.trod enc prog W 0 (λ_=>true) true m 9 (([c,b,e,f,g].drop 2).take (prog.cellsOf 9))=some z:=h 2 _ rfl;rw [show prog.cellsOf 9=1 by kernel_rfl] at o;have o:DataW.trod enc prog W 0 (λ_=>true) true m 9 [e]=some z:=o;have q:DataW.trod enc prog W 0 (λ_=>true) true m 9 (([c,b,e,f,g].drop 3).take (prog.cellsOf 9))=some A:=h 3 _ rfl;rw [show prog.cellsOf 9=1 by kernel_rfl] at q;have q:DataW.trod enc prog W 0 (λ_=>true) true m 9 [f]=some A:=q;have r:DataW.trod enc prog W 0 (λ_=>true) true m 3 (([c,b,e,f,g].drop 4).take (prog.cellsOf 3))=some B:=h 4 _ rfl;rw [show prog.cellsOf 3=1 by kernel_rfl] at r;have r:DataW.trod enc prog W 0 (λ_=>true) true m 3 [g]=some B:=r;obtain ⟨a,F,_,_⟩:=DataW.trod_int underlying3 i;obtain ⟨p,I,_,_⟩:=DataW.trod_string underlying9 j;obtain ⟨s,J,_,_⟩:=DataW.trod_string underlying9 o;obtain ⟨t,K,_,_⟩:=DataW.trod_string underlying9 q;grind [DataW.trod_int,underlying3]
theorem ara {H:Type} {enc:TypeId×Value->H} {W:World} {u:Nat} {cs:List Value} {y:DataW H×List MemPlace} (K:DataW.trod enc prog W 0 (λ_=>true) true u 80 cs=some y):
  ∃ (k J n pick:Int) (p s d i:ByteArray),cs=[.int .i64 k, .int .i64 J, .string p, .string s, .string d, .int .i64 n, .int .i64 pick, .string i]:=by
 obtain ⟨L,m,_,rfl,B,r,A⟩:=DataW.trod_struct underlying80 K;have B:cs.length=8:=B.trans eI
 match L,r,cs,B with
 |[D,E,F,I],_,[c,e,f,g,h,j,l,o],_=>
  have v:DataW.trod enc prog W 0 (λ_=>true) true m 3 (([c,e,f,g,h,j,l,o].drop 0).take (prog.cellsOf 3))=some D:=A 0 _ rfl;rw [show prog.cellsOf 3=1 by kernel_rfl] at v;have v:DataW.trod enc prog W 0 (λ_=>true) true m 3 [c]=some D:=v;have w:DataW.trod enc prog W 0 (λ_=>true) true m 73 (([c,e,f,g,h,j,l,o].drop 1).take (prog.cellsOf 73))=some E:=A 1 _ rfl;rw [show prog.cellsOf 73=5 by kernel_rfl] at w;have w:DataW.trod enc prog W 0 (λ_=>true) true m 73 [e,f,g,h,j]=some E:=w;have x:DataW.trod enc prog W 0 (λ_=>true) true m 3 (([c,e,f,g,h,j,l,o].drop 6).take (prog.cellsOf 3))=some F:=A 2 _ rfl;rw [show prog.cellsOf 3=1 by kernel_rfl] at x;have x:DataW.trod enc prog W 0 (λ_=>true) true m 3 [l]=some F:=x;have z:DataW.trod enc prog W 0 (λ_=>true) true m 9 (([c,e,f,g,h,j,l,o].drop 7).take (prog.cellsOf 9))=some I:=A 3 _ rfl;rw [show prog.cellsOf 9=1 by kernel_rfl] at z;have z:DataW.trod enc prog W 0 (λ_=>true) true m 9 [o]=some I:=z;obtain ⟨k,P,_,_⟩:=DataW.trod_int underlying3 v;obtain ⟨a,p,s,t,n,O⟩:=aq9 w;obtain ⟨b,N,_,_⟩:=DataW.trod_int underlying3 x;obtain ⟨q,Q,_,_⟩:=DataW.trod_string underlying9 z;simp_all
theorem aq8 {W:World} {k c n pick:Int} {p s d i:ByteArray}:∀ (j:Nat) (x:b9) (v:Value),(KH ⟨k,⟨c,p.data.toList,s.data.toList,d.data.toList,n⟩,pick,i.data.toList⟩)[j]? =some x->
  [Value.int .i64 k, .int .i64 c, .string p, .string s, .string d, .int .i64 n, .int .i64 pick, .string i][j]? =some v->gb W (B2 W) x v/\v.oneCell'=true
 |0,_,_,h,a=>by cases h;cases a;exact ⟨.kS _ _,rfl⟩
 |1,_,_,h,a=>by cases h;cases a;exact ⟨.kS _ _,rfl⟩
 |2,_,_,h,a=>by cases h;cases a;exact ⟨.lW rfl,rfl⟩
 |3,_,_,h,a=>by cases h;cases a;exact ⟨.lW rfl,rfl⟩
 |4,_,_,h,a=>by cases h;cases a;exact ⟨.lW rfl,rfl⟩
 |5,_,_,h,a=>by cases h;cases a;exact ⟨.kS _ _,rfl⟩
 |6,_,_,h,a=>by cases h;cases a;exact ⟨.kS _ _,rfl⟩
 |7,_,_,h,a=>by cases h;cases a;exact ⟨.lW rfl,rfl⟩
 |j+8,_,_,h,_=>by cases h
theorem adC {H:Type} {enc:TypeId×Value->H} {W:World} {base:Nat} {v:Value} {d:DataW H} {q:List MemPlace} (hval:Value.okWide prog W .any base 22 v) (hd:DataW.Trod enc prog W 0 (λ_=>true) true 22 v d q):
  ∃ (isNil:Bool) (l:List my),gb W (B2 W) (.a8 isNil 8 (xo l) .dm) v/\(isNil=true->l=[])/\l.length<=maxLen:=by
 obtain ⟨a0,len,cap,rfl⟩:=okWide_slice underlying22 hval;obtain ⟨fuel,hf⟩:=hd;obtain ⟨nil,l,h1,h2,h3,_⟩:=aiV (α:=my) underlying22 (sz:=8) eI dd KH (λ_=>True) (λn cs y hcs ht=>by
  obtain ⟨k,ck,n,pick,p,s,d,picks,rfl⟩:=ara ht;exact ⟨⟨k,⟨ck,p.data.toList,s.data.toList,d.data.toList,n⟩,pick,picks.data.toList⟩,trivial,rfl,aq8⟩) hf
 exact ⟨nil,l,h1,h2,h3⟩
end Go.Proofs.YtffboamedcmpaaaGreatDoor
