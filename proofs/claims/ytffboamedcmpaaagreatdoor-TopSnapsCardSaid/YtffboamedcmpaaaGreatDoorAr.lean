import Derived.Test.YtffboamedcmpaaaGreatDoorAq
set_option linter.all false
set_option maxHeartbeats 4000000
set_option maxRecDepth 100000
namespace Go.Proofs.YtffboamedcmpaaaGreatDoor
open Gw
open Go.Am
open Go.Proofs.Tryz Tryz
theorem Z2 {T:Nat} {m:fX} (h:kM T m) (e:T<=1000000):tF m:=
 ⟨h.lq,by have:=h.vg;omega,av h.AK dd,λs a=>by obtain ⟨g,c,d⟩:=h.zk s a;grind [AF],av h.B8 dd,λw b=>av (h.zm w b).1 dd⟩
theorem NA {l:List ft} {k:Nat} (n:k<l.length) {b:ft} {p y x s:List b9} (f:gx l[k]=p++(y++s)) (g:gx b=p++(x++s)) {i j:Nat} (h:i=k*18+p.length) (a:j=i+y.length):
  ((l.map gx).flatten).take i++x++((l.map gx).flatten).drop j=((l.set k b).map gx).flatten:=by
 subst a;subst h;have e:l=l.take k++l[k]::l.drop (k+1):=by simp_all
 have o:(((l.take k).map gx).flatten).length=k*18:=by grind [AI]
 have c:(l.map gx).flatten=(((l.take k).map gx).flatten++p)++(y++(s++((l.drop (k+1)).map gx).flatten)):=by
  grind
 have d:((l.set k b).map gx).flatten=(((l.take k).map gx).flatten++p)++(x++(s++((l.drop (k+1)).map gx).flatten)):=by
  grind
 have m:(((l.take k).map gx).flatten++p).length=k*18+p.length:=by grind
 grind [List.drop_left']
theorem amt (u:iX) (t:ft):(gl t u).fx=t.fx:=by
 grind [gl]
theorem R9 {L:List b9} {a b c d e:b9} {k:Nat} (h:k+5<=L.length):(L.take k++[a,b,c,d,e]++L.drop (k+5)).length=L.length:=by
 grind [List.length_cons]
theorem Z3 (l:List e7):kT (l.map gV).flatten=true:=AH (λ_=>rfl) l
theorem amu (a b:gp e7) (f:a.al=[]->a.ie=true) (l:a.al.length+b.al.length<=1000000):
  er prog 236 [(.a8 false 1 [[gE 7 gV a],[gE 7 gV b]] .dm)] (gE 7 gV ⟨(a.gj b.al).ie,(a.gj b.al).al⟩):=by
 have h:=aiZ a.gg b.gg (a.al.map gV) (b.al.map gV) (λe c=>by obtain ⟨z,_,rfl⟩:=aE.1 c;rfl) (λe c=>by obtain ⟨z,_,rfl⟩:=aE.1 c;rfl) (Z3 _) (Z3 _) (by grind);have e:gE 7 gV ⟨(a.gj b.al).ie,(a.gj b.al).al⟩= .a8 (a.al.map gV++b.al.map gV).isEmpty 7 (a.al.map gV++b.al.map gV) .dm:=by
  show b9.a8 ((a.ie && b.al.isEmpty) && (a.al++b.al).isEmpty) 7 ((a.al++b.al).map gV) .dm=_;rw [aU];refine congrArg (λq=>b9.a8 q 7 (a.al.map gV++b.al.map gV) .dm) ?_;cases d:a.al with
  |nil=>
   simp_all
  |cons x r=>simp
 rw [e];exact h
def sK (a:oM) (time:Int) (u:Nat) (t:ft):ft:={t with gu:=a,kf:=time,j8:=u}
theorem ams {l:List ft} {k:Nat} (hk:k<l.length) (a:oM) (time:Int) (up:Nat):
  List.take (k*18+9) (List.take (k*18+11) (List.take (k*18+13) (l.map gx).flatten++BY a++List.drop (k*18+13+5) (l.map gx).flatten)++[.ax .i64 time]++List.drop (k*18+11+1) (List.take (k*18+13) (l.map gx).flatten++BY a++List.drop (k*18+13+5) (l.map gx).flatten))++[.ax .i64 up]++
   List.drop (k*18+9+1) (List.take (k*18+11) (List.take (k*18+13) (l.map gx).flatten++BY a++List.drop (k*18+13+5) (l.map gx).flatten)++[.ax .i64 time]++List.drop (k*18+11+1) (List.take (k*18+13) (l.map gx).flatten++BY a++List.drop (k*18+13+5) (l.map gx).flatten))=((l.set k (sK a time up l[k])).map gx).flatten:=by
 have h1:=NA hk (b:={l[k] with gu:=a}) (p:=(gx l[k]).take 13) (y:=BY l[k].gu) (s:=[]) (x:=BY a) rfl rfl (i:=k*18+13) (j:=k*18+13+5) rfl rfl;have k1:k<(l.set k {l[k] with gu:=a}).length:=by simp_all
 have e1:(l.set k {l[k] with gu:=a})[k]'k1={l[k] with gu:=a}:=by simp_all
 have h2:=NA k1 (b:={l[k] with gu:=a,kf:=time}) (p:=(gx {l[k] with gu:=a}).take 11) (y:=[.ax .i64 l[k].kf]) (s:=(gx {l[k] with gu:=a}).drop 12) (x:=[.ax .i64 time]) (by rw [e1];rfl) rfl (i:=k*18+11) (j:=k*18+11+1) rfl rfl;rw [List.set_set] at h2;have k2:k<(l.set k {l[k] with gu:=a,kf:=time}).length:=by simp_all
 have e2:(l.set k {l[k] with gu:=a,kf:=time})[k]'k2={l[k] with gu:=a,kf:=time}:=by simp_all
 have h3:=NA k2 (b:=sK a time up l[k]) (p:=(gx {l[k] with gu:=a,kf:=time}).take 9) (y:=[.ax .i64 l[k].j8]) (s:=(gx {l[k] with gu:=a,kf:=time}).drop 10) (x:=[.ax .i64 up]) (by rw [e2];rfl) rfl (i:=k*18+9) (j:=k*18+9+1) rfl rfl;simp_all
theorem amr {T:Nat} (x:fb) (k:Nat) (u:iX) (hT:T<=400000) (hx:j4 T x) (hk:k<x.bf.al.length) (hu:u.kX=3)
  (hAn:fF prog 237 [.c8 16 0] (eJ (ll (Dp x k u) k u)) 32 (gP 32 (λr es=>r= .gO (.dn [])/\es=ll (vK (Dp x k u) k) k u))):fF prog 200 [.c8 16 0] (eJ (ll x k u)) 32
  (gP 32 (λr es=>r= .gO (.dn [])/\es=ll (od x k u) k u)):=by
 have hc:mW x k=x.bf.al[k].fx:=by
  grind [mW]
 have hth:=hx.lm.sJ _ (aI hk);have hD:=YY x.ep x.bf.al[k].fx (Z2 hx.kI om) (av hth.vT dd) (av hth.yg dd) (av hth.zr dd);have hdo:=Nt hx.kI x.bf.al[k].fx;have hops:=hx.xg;have hfew:=hx.kI.lq.zf;have hfl:=AI x.bf.al;have o0:0+(k:Int).toNat*18=k*18:=om;have hL5:=za (enc:=gx) (sz:=18) (λ_=>rfl) hk;rw [aml];unfold Dp at*;rw [hc] at hAn ⊢;change fF _ _ _ (eJ (ll (kA (iC _ k (sK (gA x.ep x.bf.al[k].fx).2.1 x.eZ (x.eL.gj (gA x.ep x.bf.al[k].fx).2.2.al).al.length)) k u) k u)) _ (gP 32 (λr es=>r= .gO (.dn [])/\es=ll (vK (kA (iC _ k (sK (gA x.ep x.bf.al[k].fx).2.1 x.eZ (x.eL.gj (gA x.ep x.bf.al[k].fx).2.2.al).al.length)) k u) k) k u)) at hAn;change fF _ _ _ _ _ (gP 32 (λr es=>r= .gO (.dn [])/\es=ll (if x.bf.al[k].fx.gD=13/\(gA x.ep x.bf.al[k].fx).2.1.qc=0 then vK (kA (iC _ k (sK (gA x.ep x.bf.al[k].fx).2.1 x.eZ (x.eL.gj (gA x.ep x.bf.al[k].fx).2.2.al).al.length)) k u) k else (kA (iC _ k (sK (gA x.ep x.bf.al[k].fx).2.1 x.eZ (x.eL.gj (gA x.ep x.bf.al[k].fx).2.2.al).al.length)) k u)) k u));generalize gA x.ep x.bf.al[k].fx=y at*;obtain ⟨m,a,ops⟩:=y;have hcnt:=hdo.EZ.HH;have hmf:=hdo.EZ.B6.zf;have han:=hdo.RU;dsimp only at*;have hC:=amu x.eL ops hx.yh om;have hthk:=Dq hx.lm om x.bf.al[k] (aI hk);obtain ⟨k',hk',hk2,hset⟩:=EX (l:=x.bf.al) (n:=k) (f:=sK a x.eZ (x.eL.gj ops.al).al.length) om om;obtain rfl:k=k':=om;have hX2:iC {x with ep:=m,eL:=⟨(x.eL.gj ops.al).ie,(x.eL.gj ops.al).al⟩} k (sK a x.eZ (x.eL.gj ops.al).al.length)={x with ep:=m,eL:=⟨(x.eL.gj ops.al).ie,(x.eL.gj ops.al).al⟩,bf:=⟨x.bf.ie,x.bf.al.set k (sK a x.eZ (x.eL.gj ops.al).al.length x.bf.al[k])⟩}:=by
  grind [iC]
 rw [hX2] at hAn ⊢;have hel:∀ h:k<(x.bf.al.set k (sK a x.eZ (x.eL.gj ops.al).al.length x.bf.al[k])).length,Nl ((x.bf.al.set k (sK a x.eZ (x.eL.gj ops.al).al.length x.bf.al[k]))[k]'h):=λh=>by
  rw [List.getElem_set_self];exact ⟨hthk.Ka,av han.1 dd,av han.2 dd,hthk.RF,hthk.RB⟩
 have hB:=Nm {x with ep:=m,eL:=⟨(x.eL.gj ops.al).ie,(x.eL.gj ops.al).al⟩,bf:=⟨x.bf.ie,x.bf.al.set k (sK a x.eZ (x.eL.gj ops.al).al.length x.bf.al[k])⟩} k u (by simp_all)
  (hel _) (.inr (.inr (.inl hu)))
 have hZ1:k<(kA {x with ep:=m,eL:=⟨(x.eL.gj ops.al).ie,(x.eL.gj ops.al).al⟩,bf:=⟨x.bf.ie,x.bf.al.set k (sK a x.eZ (x.eL.gj ops.al).al.length x.bf.al[k])⟩} k u).bf.al.length:=by
  show k<(jh (x.bf.al.set k _) k _).length;grind [HJ]
 have hZ2:((kA {x with ep:=m,eL:=⟨(x.eL.gj ops.al).ie,(x.eL.gj ops.al).al⟩,bf:=⟨x.bf.ie,x.bf.al.set k (sK a x.eZ (x.eL.gj ops.al).al.length x.bf.al[k])⟩} k u).bf.al[k]'hZ1).fx=x.bf.al[k].fx:=by
  have hm:(kA {x with ep:=m,eL:=⟨(x.eL.gj ops.al).ie,(x.eL.gj ops.al).al⟩,bf:=⟨x.bf.ie,x.bf.al.set k (sK a x.eZ (x.eL.gj ops.al).al.length x.bf.al[k])⟩} k u).bf.al.map (·.fx)=(x.bf.al.set k (sK a x.eZ (x.eL.gj ops.al).al.length x.bf.al[k])).map (·.fx):=by
   show (jh (x.bf.al.set k _) k _).map (·.fx)=_;grind [jh,Zo,List.map_set,amt]
  have:=congrArg (λl=>l[k]?) hm;simp only [bU,aj hZ1,di hk,bz] at this;exact jX this
 generalize kA {x with ep:=m,eL:=⟨(x.eL.gj ops.al).ie,(x.eL.gj ops.al).al⟩,bf:=⟨x.bf.ie,x.bf.al.set k (sK a x.eZ (x.eL.gj ops.al).al.length x.bf.al[k])⟩} k u=Z at*;have hL0:=Nj (enc:=gx) (sz:=18) (λ_=>rfl) hZ1 (j:=0) (x:= .ax .i64 (Z.bf.al[k]'hZ1).fx.gD) rfl;rw [hZ2] at hL0;have o00:0+(k:Int).toNat*18+0=k*18+0:=om;refine fz func200 ?_;refine cx ?_;rw [o0];refine cx ?_;have hQ:=Hs hL5 0 5 dd;refine cx ?_;refine ⟨av om (cE (R9 om).symm),?_⟩
 conv=>whnf
 refine ⟨av om (cE ((Zp (av om (cE (R9 om).symm))).trans (R9 om)).symm),?_⟩
 conv=>whnf
 refine fF.xS (es:=ll {x with ep:=m,eL:=⟨(x.eL.gj ops.al).ie,(x.eL.gj ops.al).al⟩,bf:=⟨x.bf.ie,x.bf.al.set k (sK a x.eZ (x.eL.gj ops.al).al.length x.bf.al[k])⟩} k u) (es':=ll Z k u) ⟨?_,rfl,?_,rfl,ae⟩ rfl rfl (yQ rfl rfl rfl) dd rfl rfl hB ?_
 .exact congrArg (λn=>gC.dc 235 (ri {x with ep:=m,eL:=⟨(x.eL.gj ops.al).ie,(x.eL.gj ops.al).al⟩} k u n)) (cF).symm
 .exact congrArg (gC.eY _) ((ams hk a x.eZ _).trans (by simp_all))
 refine cx ?_;rw [o0];refine ⟨_,hL0,?_⟩
 conv=>whnf
 refine ⟨λh1=>?_,λh1=>?_⟩
 .have h1:=eq_of_beq h1;refine cx ?_;refine ⟨λh2=>?_,λh2=>?_⟩
  .have h2:=eq_of_beq h2;rw [ak ⟨h1,h2⟩];exact fu
  .rw [ai (λq=>by simp_all)];exact fu
 .rw [ai (λq=>by simp_all)];exact fu
theorem amw (y:fb) (who:Int) (u:iX) (full:Bool) (l pad:List kF) (h:l.length<=1048576):fF prog 230 [.eP 43 0 2 l.length full, .eW 192 [] [.c8 32 0]] (eJ [(.ay 43, .eY 331 (((l++pad).map ja).flatten)),(.ay 16, .dc 235 (ri y who u y.bf.al.length)),(.ay 31, .eY 78 ((y.bf.al.map gx).flatten)),(.ay 32, .dc 231 [.c8 16 0])]) 44 (gP 44 (λx es=>x= .gO (.ax .i64 (k9 (λw=>decide (w.js=who)) l))/\es=[(.ay 43, .eY 331 (((l++pad).map ja).flatten)),(.ay 16, .dc 235 (ri y who u y.bf.al.length)),(.ay 31, .eY 78 ((y.bf.al.map gx).flatten)),(.ay 32, .dc 231 [.c8 16 0])])):=Dc func230 func192 h
theorem amv (y:fb) (who:Int) (u:iX) (full:Bool) (l:List kF) (b:l.length<=1048576):fF prog 193 [.eP 43 0 2 l.length full, .eW 192 [] [.c8 32 0]] (eJ [(.ay 43, .eY 331 (((l).map ja).flatten)),(.ay 16, .dc 235 (ri y who u y.bf.al.length)),(.ay 31, .eY 78 ((y.bf.al.map gx).flatten)),(.ay 32, .dc 231 [.c8 16 0])]) 44 (gP 44 (λx es=>x= .gO (.eP 43 0 2 (l.filter λa=>!(λw=>decide (w.js=who)) a).length full)/\es=[(.ay 43, .eY 331 (((l.filter λa=>!(λw=>decide (w.js=who)) a).map ja).flatten)),(.ay 16, .dc 235 (ri y who u y.bf.al.length)),(.ay 31, .eY 78 ((y.bf.al.map gx).flatten)),(.ay 32, .dc 231 [.c8 16 0])])):=by
 have h:=amw y who u full l [] b;rw [aH] at h;exact JV func193 func192 b h
end Go.Proofs.YtffboamedcmpaaaGreatDoor
namespace Go.Am
section
variable {P:Program} {σ:eK} {n:Nat}
theorem iE.amx {r:Option Nat} {nt y:Nat} {c:Code} {K:Exit->eK->Nat->Prop} (id:Nat) {m:TypeId} {cells cells':List b9} (p:σ (.ay id)= .eY m cells) (l:qV cells cells') (h:iE P r nt y c (fc σ (.ay id) (.eY m cells')) n K):iE P r nt y c σ n K:=by
 refine ⟨λb t a w D s=>h.nM b t a w D ?_⟩;obtain ⟨g,o,B,E,F⟩:=s;obtain ⟨q,d,_⟩:=o.iR id (by rw [p];rfl);obtain ⟨e,z,f,A,j,k⟩:=o.sY id m _ q p d;refine ⟨g,(o.ot (X:= .eY m cells') (by rw [p];rfl) d (oH.By q w) (λ_=>⟨e,z,f,by grind [l.zY],j,λi x v I H=>?_⟩)).1,B.uU (λi=>by trivial),E,F⟩;have u:i<cells.length:=by grind [l.zY]
 exact (l.Ge i _ x (aj u) I).ue _ _ _ (k i _ v (aj u) H)
theorem qV.Sa:∀ {a b c d:List b9},qV a b->qV c d->qV (a++c) (b++d)
 |_,_,_,_, .kv,h=>h
 |_,_,_,_, .fj x t,h=> .fj x (qV.Sa t h)
end
end Go.Am
namespace Go.Proofs.YtffboamedcmpaaaGreatDoor
open Gw
open Go.Am
open Go.Proofs.Tryz Tryz
theorem amy {P:Program} {q n:Nat} {f:FuncId} {args:List b9} {σ:eK} {rx:List Go.Am.fQ} {l c d i:Go.Am.fQ} {j k m o:gC} {res:b9} (h:qx P q f args σ n rx [(l,j),(c,k),(d,m),(i,o)] res) (I:c≠l) (J:d≠l) (K:i≠l) (E:c∈rx) (F:d∈rx) (H:i∈rx) (r:σ c=k) (s:σ d=m) (t:σ i=o):qx P q f args σ n rx [(l,j)] res:=
 ⟨h.D5,λa p b D g w v u x y z A B=>by
  have:=h.D6 a p b D g w v u x y z A B;have e:jP a [(l,j),(c,k),(d,m),(i,o)]=jP a [(l,j)]:=by
   show fc (fc (fc (fc a l j) c k) d m) i o=fc a l j;rw [EV ((g9 I).trans ((p c E).trans r)),EV ((g9 J).trans ((p d F).trans s)),EV ((g9 K).trans ((p i H).trans t))]
  simp_all⟩
theorem amB (l:List kF):kT (l.map ja).flatten=true:=AH (λ_=>rfl) l
abbrev Z4 (x:fb) (k:Int) (u:iX):List (Am.fQ×gC):=[(.ay 16, .dc 235 (ri x k u x.bf.al.length)),(.ay 31, .eY 78 ((x.bf.al.map gx).flatten)),(.ay 32, .dc 231 [.c8 16 0])]
theorem amA (x:fb) (k:Nat) (u:iX) (a:kF) (r:List kF) (J:x.fm.iI.al=a::r) (hl:(a::r).length<=1000000) (H:k<x.bf.al.length):fF prog 121 [.c8 16 0, .eD true] (eJ (ll x k u)) 32
  (gP 32 (λr es=>r= .gO (.dn [])/\es=ll (pA x k true) k u)):=by
 have N:((a::r).map ja).length=(a::r).length:=ap _;obtain ⟨o,c,⟨g,⟨A,W⟩⟩,d,q,v⟩:=x;dsimp only at J H;subst J;have E:rE prog 194 [.a8 (gp.gg ⟨A,a::r⟩) 2 ((a::r).map ja) .dm] 331 2 (a::r).length ((a::r).map ja).flatten:=by
  grind [gp.gg,QZ]
 have O:=amv ⟨o,c,⟨g,⟨A,a::r⟩⟩,d,q,v⟩ k u true (a::r) om;refine fF.Bm jy (fn:=f121) eI rfl eI rfl rfl ?_;refine j6 ?_;refine iE.F7 (iE.F7 (wO jy m8 _ _ _ _ ?_))
 conv=>whnf
 refine iE.F6 rfl ⟨λ_=>?_,λh=>absurd h dd⟩;refine j6 ?_;refine iE.Ad ?_;refine j6 ?_;refine ⟨0,_,_,_,rfl,qx.xT E rfl,rfl,?_⟩
 conv=>whnf
 refine ⟨0,_,_,_,rfl,amy (qx.J4 (m:=44) (res:= .eP 43 0 2 ((a::r).filter λw:kF=>!decide (w.js=(k:Int))).length true) (es:=(.ay 43, .eY 331 (((a::r).map ja).flatten))::Z4 ⟨o,c,⟨g,⟨A,a::r⟩⟩,d,q,v⟩ k u) (es':=(.ay 43, .eY 331 ((((a::r).filter λw:kF=>!decide (w.js=(k:Int))).map ja).flatten))::Z4 ⟨o,c,⟨g,⟨A,a::r⟩⟩,d,q,v⟩ k u) ⟨rfl,rfl,rfl,rfl,rfl,rfl,rfl,rfl,trivial⟩ rfl rfl rfl rfl rfl rfl O) (by intro e;cases e) (by intro e;cases e) (by intro e;cases e) (by simp) (by simp) (by simp) rfl rfl rfl,rfl,?_⟩;refine cx ?_;refine iE.PI ?_;refine iE.Rh 16 10 43 (((a::r).filter λw:kF=>!decide (w.js=(k:Int))).map ja) rfl rfl rfl rfl (ap _) (λel F=>by obtain ⟨z,_,rfl⟩:=aE.1 F;rfl) (amB _) rfl ?_;have Q:=AI d.al;have U:0+(k:Int).toNat*18+13=k*18+13:=om;obtain ⟨T,R,S,I⟩:=EX (l:=d.al) (n:=k) (f:=λt=>{t with gu:=iL 120}) om om;obtain rfl:k=T:=om;have Y:iC ⟨o,c,⟨g,gp.j7 ⟨A,a::r⟩ λw=>decide (w.js=(k:Int))⟩,d,q,v⟩ k (λt=>{t with gu:=iL 120})=⟨o,c,⟨g,gp.j7 ⟨A,a::r⟩ λw=>decide (w.js=(k:Int))⟩,⟨d.ie,d.al.set k {d.al[k] with gu:=iL 120}⟩,q,v⟩:=by
  grind [iC]
 have L:pA ⟨o,c,⟨g,⟨A,a::r⟩⟩,d,q,v⟩ k true=lK (iC ⟨o,c,⟨g,gp.j7 ⟨A,a::r⟩ λw=>decide (w.js=(k:Int))⟩,d,q,v⟩ k (λt=>{t with gu:=iL 120})) k:=rfl;rw [L,Y];have K:=RG ⟨o,c,⟨g,gp.j7 ⟨A,a::r⟩ λw=>decide (w.js=(k:Int))⟩,⟨d.ie,d.al.set k {d.al[k] with gu:=iL 120}⟩,q,v⟩ k u k;have B:gp.gg (gp.j7 ⟨A,a::r⟩ λw:kF=>decide (w.js=(k:Int)))=false:=by cases A<;>rfl
 generalize lK ⟨o,c,⟨g,gp.j7 ⟨A,a::r⟩ λw=>decide (w.js=(k:Int))⟩,⟨d.ie,d.al.set k {d.al[k] with gu:=iL 120}⟩,q,v⟩ k=Z at*;have D:k*18+13+5<=((d.al.map gx).flatten).length:=om;refine j6 ?_;refine ⟨⟨Int.natCast_nonneg k,by trivial⟩,?_⟩
 conv=>whnf
 rw [U];refine ⟨D,?_⟩;refine cx ?_;refine iE.amx 31 (cells':=((d.al.set k {d.al[k] with gu:=iL 120}).map gx).flatten) rfl ?_ ?_
 .rw [<-NA H (b:={d.al[k] with gu:=iL 120}) (p:=(gx d.al[k]).take 13) (y:=BY d.al[k].gu) (s:=[]) (x:=BY (iL 120)) rfl rfl (i:=k*18+13) (j:=k*18+13+5) rfl rfl];exact qV.Sa (qV.Sa (qV.IS _) (.fj (.fC _) (.fj (.fC _) (.fj (.fC _) (.fj (.fC _) (.fj (.kd _ _ _) .kv)))))) (qV.IS _)
 refine gk ?_;refine .inr ⟨eI,eI,?_⟩;refine fF.xS (es:=ll ⟨o,c,⟨g,gp.j7 ⟨A,a::r⟩ λw=>decide (w.js=(k:Int))⟩,⟨d.ie,d.al.set k {d.al[k] with gu:=iL 120}⟩,q,v⟩ k u) (es':=ll Z k u) ⟨?_,af⟩ rfl rfl (yQ rfl rfl rfl) dd rfl rfl K ?_
 .have X:gE 2 ja (gp.j7 ⟨A,a::r⟩ λw:kF=>decide (w.js=(k:Int)))= .a8 false 2 (((a::r).filter λw:kF=>!decide (w.js=(k:Int))).map ja) .dm:=by
   unfold gE;rw [B];rfl
  refine congrArg (gC.dc 235) ?_;unfold ri;simp_all
 exact fu
theorem amz (x:fb) (k:Nat) (u:iX) (d:x.fm.iI.al.length<=1000000):fF prog 121 [.c8 16 0, .eD false] (eJ (ll x k u)) 32
  (gP 32 (λr es=>r= .gO (.dn [])/\es=ll (pA x k false) k u)):=by
 have D:=ald x.fm x.eL.al.length d;have a:(x.eL.al.map gV).length=x.eL.al.length:=ap _;have c:(vJ x.fm x.eL.al.length).2.al.length<=x.fm.iI.al.length:=by
  show ((x.fm.iI.al.filter _).map _).length<=_;grind
 have K:pA x k false=(vJ x.fm x.eL.al.length).2.al.foldl lK {x with fm:=(vJ x.fm x.eL.al.length).1}:=rfl;rw [K];generalize vJ x.fm x.eL.al.length=y at*;obtain ⟨g,o⟩:=y;dsimp only at*;rw [<-a] at D;refine fz func121 ?_;refine cx ?_;have e:(o.al.map l7).length=o.al.length:=ap _;refine iE.gY (X:=Nat) (λj=>[(.ct 2, .bg (.c8 32 0)),(.ct 63, .bg (gE 1 l7 o)),(.ct 64, .bg (.ax .i64 o.al.length)),(.ct 65, .bg (.ax .i64 j)),
  (.ay 16, .dc 235 (ri ((o.al.take j).foldl lK {x with fm:=g}) k u ((o.al.take j).foldl lK {x with fm:=g}).bf.al.length)),(.ay 31, .eY 78 ((((o.al.take j).foldl lK {x with fm:=g}).bf.al.map gx).flatten)),(.ay 32, .dc 231 [.c8 16 0])]) 33
  (λj=>j<=o.al.length) (λj=>o.al.length - j) dd 0 (ar _) ⟨rfl,rfl,rfl,rfl,?_,af⟩ ?_
 .show gC.bg (b9.ax .i64 ((o.al.map l7).length:Nat))=_;rw [e]
 rintro j f;refine gk ?_;refine ab (λh=>?_) λh=>?_
 .have l:j<o.al.length:=om;have b:=pV l7 l;have w:IntKind.i64.wrap ((j:Int)+1)=((j+1:Nat):Int):=by grind [fq]
  have F:(o.al.take (j+1)).foldl lK {x with fm:=g}=lK ((o.al.take j).foldl lK {x with fm:=g}) o.al[j]:=by grind [List.take_succ_eq_append_getElem]
  have E:=RG ((o.al.take j).foldl lK {x with fm:=g}) k u o.al[j];generalize (o.al.take j).foldl lK {x with fm:=g}=Z at*;generalize o.al[j]=z at*
  conv=>whnf
  refine ⟨_,⟨om,b⟩,?_⟩
  conv=>whnf
  refine fF.xS (es:=ll Z k u) (es':=ll (lK Z z) k u) ⟨rfl,rfl,rfl,rfl,trivial⟩ rfl rfl (yQ rfl rfl rfl) dd rfl rfl E ?_
  conv=>whnf
  refine ⟨j+1,om,by grind,⟨rfl,rfl,rfl,rfl,rfl,rfl,?_,rfl,?_,rfl,?_,af⟩⟩
  .exact ix
  .rw [F];rfl
  .rw [F];rfl
 .obtain rfl:j=o.al.length:=om;rw [aN];exact fu
end Go.Proofs.YtffboamedcmpaaaGreatDoor
namespace Gw
def Ke (x:fb) (n:Nat):fb:=iC {x with fg:=(l6 x.fg n).1} n kY
theorem amF {T:Nat} {x:fb} (h:la T x) (n i:Nat):la T (((l6 x.fg n).2.al.take i).foldl lT (Ke x n)):=by
 have d:=h.zo;have e:=h.zn;have f:=h.rS;unfold Ke;obtain ⟨a,c⟩:=R1 x.fg n;generalize l6 x.fg n=y at*;obtain ⟨t,p⟩:=y;dsimp only at*;have b:la T (iC {x with fg:=t} n kY):=by
  refine E5 (x:={x with fg:=t}) ⟨h.pD,h.sJ,?_,?_,?_⟩ n _ ZV (λ_=>ar _) λ_=>ar _
  .grind
  .grind
  grind
 have q:lC pg (jh x.bf.al n kY)<=lC pg x.bf.al+0:=by
  unfold jh;split
  .exact aq _
  .exact E4 _ _ λ_ _=>ar _
 have g:lC pf (jh x.bf.al n kY)<=lC pf x.bf.al+0:=by
  unfold jh;split
  .exact aq _
  .exact E4 _ _ λ_ _=>ar _
 have j:(p.al.take i).length<=p.al.length:=by grind
 refine RY (p.al.take i) b.pD b.sJ ?_ ?_ b.rS
 .show lC pg (jh x.bf.al n kY)+_+t.fH.al.length<=T;omega
 .show lC pf (jh x.bf.al n kY)+_+t.fH.al.length<=T;omega
theorem amG (x:fb) (h:fK):(lT x h).bf.al.length=x.bf.al.length:=HJ _ _ _
theorem Z6:∀ (l:List fK) (x:fb),(l.foldl lT x).bf.al.length=x.bf.al.length
 |[],_=>rfl
 |h::l,x=>(Z6 l (lT x h)).trans (amG x h)
theorem amE (who:Int) (x:fb) (n:Nat):(nW who x n).bf.al.length=x.bf.al.length:=by
 unfold nW;split
 .rfl
 .split
  .split;rename_i t p _;exact (Z6 p.al (iC {x with fg:=t} n kY)).trans (show (jh x.bf.al n kY).length=_ from HJ _ _ _)
  .rfl
theorem Z5 (who:Int):∀ (l:List Nat) (x:fb),(l.foldl (nW who) x).bf.al.length=x.bf.al.length
 |[],_=>rfl
 |n::l,x=>(Z5 who l (nW who x n)).trans (amE who x n)
end Gw
namespace Go.Proofs.YtffboamedcmpaaaGreatDoor
open Gw
open Go.Am
open Go.Proofs.Tryz Tryz
theorem amD (c:fG) (hp:c.fR.length<=1048576):∃ (q:Bool) (els:List (List b9)),er prog 273 [yc c] (.dn [.a8 q 1 els .dm, .eD (rH c)]):=by
 have w:=Q8 c hp;unfold rH;cases a:jd c with
 |pR=>
  rw [a] at w;refine ⟨true,[],?_⟩;refine fS func273 ?_;exact jf
 |nf d=>
  rw [a] at w;refine ⟨true,[],?_⟩;refine fS func273 ?_;exact jf
 |ml s=>
  have l:=Ya a;have b:=MW s.gg (s.al.map nk) (λh=>by rw [gp.Af h];rfl) (by simp_all);rw [a] at w;refine ⟨s.gg,s.al.map nk,?_⟩;refine fS func273 ?_;exact jf
theorem amC {T:Nat} (x:fb) (k:Nat) (u:iX) (hT:T<=400000) (K:la T x):fF prog 237 [.c8 16 0] (eJ (ll x k u)) 32
  (gP 32 (λr es=>r= .gO (.dn [])/\es=ll (vK x k) k u)):=by
 have J:=K.pD;have U:vK x k=(List.range x.bf.al.length).foldl (nW k) x:=rfl;rw [U];refine fz func237 ?_
 conv=>whnf
 refine iE.gY (X:=Nat) (λj=>[(.ct 1, .bg (.c8 32 0)),(.ct 2, .bg (.eW 272 [] [.c8 32 0])),(.ct 14, .bg (.ax .i64 x.bf.al.length)),(.ct 15, .bg (.ax .i64 j)),
  (.ay 16, .dc 235 (ri ((List.range j).foldl (nW k) x) k u ((List.range j).foldl (nW k) x).bf.al.length)),(.ay 31, .eY 78 ((((List.range j).foldl (nW k) x).bf.al.map gx).flatten)),(.ay 32, .dc 231 [.c8 16 0])]) 33
  (λj=>j<=x.bf.al.length) (λj=>x.bf.al.length - j) dd 0 (Nat.zero_le _) ⟨rfl,rfl,rfl,rfl,rfl,rfl,rfl,rfl,rfl,rfl,rfl,rfl,rfl,rfl,trivial⟩ ?_
 rintro j hj;refine gk ?_;refine ab (λh=>?_) λh=>?_
 .have hlt:j<x.bf.al.length:=om;have w1:IntKind.i64.wrap ((j:Int)+1)=((j+1:Nat):Int):=by grind [fq]
  have F:(List.range (j+1)).foldl (nW k) x=nW k ((List.range j).foldl (nW k) x) j:=by grind [List.range_succ]
  have hZl:=Z5 k (List.range j) x;have d:=R5 k (List.range j) K;generalize (List.range j).foldl (nW k) x=Z at*;have b:j<Z.bf.al.length:=om;have A:=d.sJ _ (aI b);obtain ⟨vq,ve,hnm⟩:=amD Z.bf.al[j].fx (av A.vT dd);have hfl:=AI Z.bf.al;have o:0+(j:Int).toNat*18=j*18:=om;have L:0+(j:Int).toNat*18+7=j*18+7:=om;have R:=za (enc:=gx) (sz:=18) (λ_=>rfl) b;have hQ:=Hs R 0 5 dd;have B:=Nj (enc:=gx) (sz:=18) (λ_=>rfl) b (j:=7) (x:= .eD Z.bf.al[j].g8) rfl;have S:¬((j:Int)≠k/\rH Z.bf.al[j].fx=true/\Z.bf.al[j].g8=false)->nW k Z j=Z:=λH=>by
   grind [nW]
  have c:((j:Int)≠k/\rH Z.bf.al[j].fx=true/\Z.bf.al[j].g8=false)->nW k Z j=(l6 Z.fg j).2.al.foldl lT (Ke Z j):=λH=>by
   unfold nW;rw [aj b];dsimp only;rw [ak H];rfl
  generalize hwk:rH Z.bf.al[j].fx=wk at*;generalize hdn:Z.bf.al[j].g8=N at*
  by_cases a:(j:Int)=k
  .have S:=S λq=>q.1 a
   conv=>whnf
   refine fz func272 ?_;refine cx ?_;rw [o];refine cx ?_;refine ⟨λq=>?_,λ_=>?_⟩
   .rw [a] at q;simp at q
   refine kw ?_;refine ⟨j+1,om,by grind,⟨rfl,rfl,rfl,rfl,rfl,rfl,?_,rfl,?_,rfl,?_,af⟩⟩
   .exact ix
   .rw [F,S];rfl
   .rw [F,S];rfl
  cases wk with
  |false=>
   have S:=S λq=>by cases q.2.1
   conv=>whnf
   refine fz func272 ?_;refine cx ?_;rw [o];refine cx ?_;refine ⟨λ_=>?_,λq=>?_⟩
   .refine kw ?_;refine ⟨j+1,om,by grind,⟨rfl,rfl,rfl,rfl,rfl,rfl,?_,rfl,?_,rfl,?_,af⟩⟩
    .exact ix
    .rw [F,S];rfl
    .rw [F,S];rfl
   .exact absurd (by simpa using q) a
  |true=>
   cases N with
   |true=>
    have S:=S λq=>by cases q.2.2
    conv=>whnf
    refine fz func272 ?_;refine cx ?_;rw [o];refine cx ?_;refine ⟨λ_=>?_,λq=>absurd (by simpa using q) a⟩;refine cx ?_;rw [L];refine ⟨_,B,?_⟩;refine kw ?_;refine ⟨j+1,om,by grind,⟨rfl,rfl,rfl,rfl,rfl,rfl,?_,rfl,?_,rfl,?_,af⟩⟩
    .exact ix
    .rw [F,S];rfl
    .rw [F,S];rfl
   |false=>
    have c:=c ⟨a,rfl,rfl⟩;have hhl:=d.rS;have P:=akX Z.fg j om om;have e:=Dq d om Z.bf.al[j] (aI b);have O:=aiR Z.bf.al[j] e.Ka e.RE e.RD;have m:=λi=>amF d j i
    have hpl:(l6 Z.fg j).2.al.length<=400000:=by
     have:=(R1 Z.fg j).2;omega
    obtain ⟨j',hj',hj2,I⟩:=EX (l:=Z.bf.al) (n:=j) (f:=kY) om om;obtain rfl:j=j':=om;have w:Ke Z j={Z with fg:=(l6 Z.fg j).1,bf:=⟨Z.bf.ie,Z.bf.al.set j (kY Z.bf.al[j])⟩}:=by
     grind [Ke,iC]
    rw [w] at c m;generalize l6 Z.fg j=D at*;obtain ⟨t,p⟩:=D;dsimp only at*
    conv=>whnf
    refine fz func272 ?_;refine cx ?_;rw [o];refine cx ?_;refine ⟨λ_=>?_,λq=>absurd (by simpa using q) a⟩;refine cx ?_;rw [L];refine ⟨_,B,?_⟩;refine cx ?_;rw [o];refine gI ?_;rw [o];refine gI ?_;refine cx ?_;have y:({Z with fg:=t,bf:=⟨Z.bf.ie,Z.bf.al.set j (kY Z.bf.al[j])⟩}:fb).bf.al=Z.bf.al.set j (kY Z.bf.al[j]):=rfl;have W:ri ({Z with fg:=t,bf:=⟨Z.bf.ie,Z.bf.al.set j (kY Z.bf.al[j])⟩}:fb) k u Z.bf.al.length=ri ({Z with fg:=t,bf:=⟨Z.bf.ie,Z.bf.al.set j (kY Z.bf.al[j])⟩}:fb) k u ({Z with fg:=t,bf:=⟨Z.bf.ie,Z.bf.al.set j (kY Z.bf.al[j])⟩}:fb).bf.al.length:=congrArg (ri _ k u) (cF).symm;have v:(p.al.map fI).length=p.al.length:=ap _;have E:=RH b (kY Z.bf.al[j]);rw [<-y] at E;refine iE.gY (X:=Nat) (λi=>[(.ct 1, .bg (.c8 32 0)),(.ct 2, .bg (.eW 272 [] [.c8 32 0])),(.ct 14, .bg (.ax .i64 x.bf.al.length)),(.ct 15, .bg (.ax .i64 j)),(.ct 53, .bg (gE 2 fI p)),(.ct 54, .bg (.ax .i64 p.al.length)),(.ct 55, .bg (.ax .i64 i)),
     (.ay 16, .dc 235 (ri ((p.al.take i).foldl lT {Z with fg:=t,bf:=⟨Z.bf.ie,Z.bf.al.set j (kY Z.bf.al[j])⟩}) k u ((p.al.take i).foldl lT {Z with fg:=t,bf:=⟨Z.bf.ie,Z.bf.al.set j (kY Z.bf.al[j])⟩}).bf.al.length)),(.ay 31, .eY 78 ((((p.al.take i).foldl lT {Z with fg:=t,bf:=⟨Z.bf.ie,Z.bf.al.set j (kY Z.bf.al[j])⟩}).bf.al.map gx).flatten)),(.ay 32, .dc 231 [.c8 16 0])]) 33
     (λi=>i<=p.al.length) (λi=>p.al.length - i) dd 0 (ar _) ⟨rfl,rfl,rfl,rfl,rfl,rfl,rfl,rfl,rfl,rfl,?_,rfl,rfl,rfl,?_,rfl,?_,af⟩ ?_
    .show gC.bg (b9.ax .i64 ((p.al.map fI).length:Nat))=_;rw [v]
    .exact congrArg (gC.dc _) W
    .exact congrArg (gC.eY _) E
    rintro i hi;refine gk ?_;refine ab (λh=>?_) λh=>?_
    .have s:i<p.al.length:=om;have hg:=pV fI s;have wi:IntKind.i64.wrap ((i:Int)+1)=((i+1:Nat):Int):=by grind [fq]
     have g:(p.al.take (i+1)).foldl lT {Z with fg:=t,bf:=⟨Z.bf.ie,Z.bf.al.set j (kY Z.bf.al[j])⟩}=lT ((p.al.take i).foldl lT {Z with fg:=t,bf:=⟨Z.bf.ie,Z.bf.al.set j (kY Z.bf.al[j])⟩}) p.al[i]:=by grind [List.take_succ_eq_append_getElem]
     have Q:=Z1 ((p.al.take i).foldl lT {Z with fg:=t,bf:=⟨Z.bf.ie,Z.bf.al.set j (kY Z.bf.al[j])⟩}) k u p.al[i] (Dq (m i) om);generalize (p.al.take i).foldl lT {Z with fg:=t,bf:=⟨Z.bf.ie,Z.bf.al.set j (kY Z.bf.al[j])⟩}=Y at*;generalize p.al[i]=z at*
     conv=>whnf
     refine ⟨_,⟨om,hg⟩,?_⟩
     conv=>whnf
     refine fF.xS (es:=ll Y k u) (es':=ll (lT Y z) k u) ⟨rfl,rfl,rfl,rfl,trivial⟩ rfl rfl (yQ rfl rfl rfl) dd rfl rfl Q ?_
     conv=>whnf
     refine ⟨i+1,om,by grind,⟨rfl,rfl,rfl,rfl,rfl,rfl,rfl,rfl,rfl,rfl,rfl,rfl,?_,rfl,?_,rfl,?_,af⟩⟩
     .exact ix
     .rw [g];rfl
     .rw [g];rfl
    .obtain rfl:i=p.al.length:=om;rw [aN,<-c]
     conv=>whnf
     refine ⟨j+1,om,by grind,⟨rfl,rfl,rfl,rfl,rfl,rfl,?_,rfl,?_,rfl,?_,af⟩⟩
     .exact ix
     .rw [F];rfl
     .rw [F];rfl
 .obtain rfl:j=x.bf.al.length:=om;exact fu
end Go.Proofs.YtffboamedcmpaaaGreatDoor
namespace Gw
theorem Z9 (x:fb):∀ (l:List ft) (n:Nat) {z:Int},z∈mq x n l->∃ (k:Nat) (t:ft),z=((n+k:Nat):Int)/\l[k]? =some t/\oe x (n+k) t=true
 |[],_,_,h=>by cases h
 |t::l,n,z,h=>by
  have next:z∈mq x (n+1) l->∃ (k:Nat) (s:ft),z=((n+k:Nat):Int)/\(t::l)[k]? =some s/\oe x (n+k) s=true:=λq=>by
   obtain ⟨k,s,a,b,d⟩:=Z9 x l (n+1) q;exact ⟨k+1,s,by rw [a];omega,by simpa using b,by grind⟩
  unfold mq at h;split at h
  .rename_i c;rcases aK.1 h with h|h
   .exact ⟨0,t,h,rfl,c⟩
   .exact next h
  .exact next h
theorem amL {x:fb} {p:Int} {who:Int} {w:Bool} (h:pB x p=some (who,w)):who∈yY x/\w=mo x.fm who:=by
 unfold pB at h;cases c:yY x with
 |nil=>simp_all
 |cons a l=>
  rw [c] at h;dsimp only at h;have t:uy p (l.length+1)<(a::l).length:=by
   unfold uy;have b:(0:Int)<((l.length+1:Nat):Int):=om;have d:=cS (p.tmod ((l.length+1:Nat):Int)+((l.length+1:Nat):Int)) b;simp_all
  grind
theorem amM {x:fb} {p:Int} {who:Int} {w:Bool} (h:pB x p=some (who,w)):∃ k:Nat,who=k/\∃ f:k<x.bf.al.length,oe x k x.bf.al[k]=true/\w=mo x.fm k:=by
 obtain ⟨a,b⟩:=amL h;obtain ⟨k,t,e,c,d⟩:=Z9 x x.bf.al 0 a;grind
theorem amI (l:List eF) (t:ft) (c:fG):(C5 l t c).kX=1\/(C5 l t c).kX=3:=by
 grind [C5]
theorem amJ (l:List eF) (t:ft) (s:gp (List UInt8)):(x6 l t s).kX=1\/(x6 l t s).kX=2\/(x6 l t s).kX=3:=by
 grind [x6]
theorem amK (l:List eF) (t:ft) (h:t.gS=false):(oO l t).kX=1\/(oO l t).kX=2\/(oO l t).kX=3\/(oO l t).kX=4\/(oO l t).kX=5:=by
 grind [oO,amI,amJ]
end Gw
namespace Go.Proofs.YtffboamedcmpaaaGreatDoor
open Gw
open Go.Am
open Go.Proofs.Tryz Tryz
def Z8:rD:=[(0, .ax .i64 1, .eW 198 [] []),(1, .ax .i64 2, .eW 199 [] []),(2, .ax .i64 3, .eW 200 [] []),(3, .ax .i64 4, .eW 201 [] []),(4, .ax .i64 5, .eW 202 [] [])]
theorem amH:fF prog 123 [] (eJ []) 0 (gP 0 (λx e=>x= .wR 5 Z8/\e=[])):=by
 refine fz func123 ?_
 conv=>whnf
 refine qu.Ja rfl ?_
 conv=>whnf
 refine qu.pu (kt:=3) (et:=237) (d:= .int .i64) eI eI (.inr rfl) rfl rfl rfl rfl (qL rfl) none rfl ?_
 conv=>whnf
 refine qu.pu (kt:=3) (et:=237) (d:= .int .i64) eI eI (.inr rfl) rfl rfl rfl rfl (qL rfl) none rfl ?_
 conv=>whnf
 refine qu.pu (kt:=3) (et:=237) (d:= .int .i64) eI eI (.inr rfl) rfl rfl rfl rfl (qL rfl) none rfl ?_
 conv=>whnf
 refine qu.pu (kt:=3) (et:=237) (d:= .int .i64) eI eI (.inr rfl) rfl rfl rfl rfl (qL rfl) none rfl ?_
 conv=>whnf
 refine qu.pu (kt:=3) (et:=237) (d:= .int .i64) eI eI (.inr rfl) rfl rfl rfl rfl (qL rfl) none rfl ?_
 conv=>whnf
 exact ⟨_,_,⟨rfl,rfl⟩,rfl,⟨1,ar _,rfl,rfl⟩,ae⟩
theorem Z7 {σ:eK} (Y:fb) (n:Y.bf.al≠[]) (h:σ (.ay 31)= .eY 78 ((Y.bf.al.map gx).flatten)):
  Am.oI σ (.eN [gE 17 jB Y.ep.cy.fZ,gE 8 mD Y.ep.cy.ec, .ax .i64 Y.ep.jk, .ax .i64 Y.ep.ky,gE 2 mw Y.ep.iq,gE 4 jH Y.ep.iG, .ax .i64 Y.ep.jg,
   gE 2 fI Y.fg.iV,gE 2 fI Y.fg.fH, .ax .i64 Y.fm.mC,gE 2 ja Y.fm.iI, .eP 31 0 18 Y.bf.al.length true, .ax .i64 Y.eZ,gE 7 gV Y.eL]) (pU Y):=by
 have o:=Hh (enc:=gx) (sz:=18) (full:=true) (λ_=>rfl) (λ_=>rfl) h;have e:gE 18 gx Y.bf= .a8 false 18 (Y.bf.al.map gx) .dm:=by
  unfold gE;rw [show Y.bf.gg=false by unfold gp.gg;simp_all]
 rw [<-e] at o;refine BZ.Db ?_
 repeat (first|exact BZ.rf|refine BZ.lM (.qw rfl) ?_|fail "end")
 refine BZ.lM o ?_
 repeat (first|exact BZ.rf|refine BZ.lM (.qw rfl) ?_|fail "end")
theorem Kf {T:Nat} (x:fb) (p:Int) (full:Bool) (B:T<=400000) (h:j4 T x) (k:Nat) (g:k<x.bf.al.length) (hp:pB x p=some ((k:Int),false)) (b lk:Int) (w:oO x.ep.cy.ec.al x.bf.al[k]=⟨b,lk⟩) (f:FuncId)
  (i:uZ (.ax .i64 b) Z8=some (.eW f [] [])) (Y:fb) (n:Y.bf.al≠[])
  (c:fF prog f [.c8 16 0] (eJ (ll {x with eZ:=x.eZ+1} k ⟨b,lk⟩)) 32 (gP 32 (λr es=>r= .gO (.dn [])/\es=ll Y k ⟨b,lk⟩))):er prog 71 [pU x, .ax .i64 p, .eD full] (pU Y):=by
 have m:=h.lm.pD;have e:=h.lm.rS;have l:=h.uG;have v:=h.tL;have a:=Nk x p om om om;rw [hp] at a;have a:er prog 69 [pU x, .ax .i64 p] (.dn [.ax .i64 (k:Int), .eD false, .eD true]):=a;have t:=h.lm.sJ _ (aI g);have j:=Dq h.lm om x.bf.al[k] (aI g);have N:=ai8 x.ep.cy.ec.gg x.ep.cy.ec.al (ET h.kI.lq) (by have:=h.kI.lq.ER;omega) x.bf.al[k] (av t.vT dd) (av t.yg dd) j.Ka;rw [w] at N;have A:IntKind.i64.wrap (x.eZ+1)=x.eZ+1:=fq om om;have u:=AI x.bf.al;have L:=za (enc:=gx) (sz:=18) (λ_=>rfl) g;have y:0+(k:Int).toNat*18=k*18:=om;have o:(x.bf.al.map gx).length=x.bf.al.length:=ap _;have s:rE prog 74 [.a8 x.bf.gg 18 (x.bf.al.map gx) .dm] 78 18 x.bf.al.length (x.bf.al.map gx).flatten:=by
  have q:x.bf.gg=false:=by
   unfold gp.gg;grind
  grind [QY]
 refine er.Hy jy (fn:=f71) eI rfl eI rfl rfl ?_;refine j6 ?_;refine j6 ?_;refine cx ?_;refine j6 ?_;refine cx ?_;refine j6 ?_;refine j6 ?_;refine j6 ?_;refine fF.Bv s rfl ?_
 conv=>whnf
 refine j6 ?_;refine cx ?_;refine j6 ?_;refine cx ?_;rw [y];refine cx ?_;refine iE.Ad ?_;refine j6 ?_;refine ⟨0,_,_,_,rfl,qx.X6 amH,rfl,?_⟩
 conv=>whnf
 refine ⟨eI,eI,?_⟩;refine qu.Bw jy (kt:=3) (et:=237) (d:= .int .i64) eI eI rfl rfl eI rfl rfl (.inl rfl) rfl (qL rfl) (some (.eW f [] [])) i ?_
 conv=>whnf
 refine ⟨eI,?_⟩
 conv=>whnf
 refine fF.xS (es:=ll {x with eZ:=x.eZ+1} k ⟨b,lk⟩) (es':=ll Y k ⟨b,lk⟩) ⟨?_,af⟩ rfl rfl (yQ rfl rfl rfl) dd rfl rfl c ?_
 .exact congrArg (λz=>gC.dc 235 (ri {x with eZ:=z} k ⟨b,lk⟩ x.bf.al.length)) A
 conv=>whnf
 refine iE.PI ?_;refine gk ?_;exact Z7 Y n rfl
end Go.Proofs.YtffboamedcmpaaaGreatDoor
namespace Gw
def AN (x:Nat):Nat:=(x*2 % 4294967296)^^^(if x<2147483648 then 0 else 79764919)
def NB:Nat->Nat->Nat
 |0,x=>x
 |k+1,x=>AN (NB k x)
def Kg (n c:Nat):Nat:=NB 8 (n^^^(c*16777216))
def zt (n:Nat) (l:List UInt8):Nat:=l.foldl (λn c=>Kg n c.toNat) n
def vX (l:List UInt8):Nat:=zt 4294967295 l
def vW (n:Nat):List UInt8:=[UInt8.ofNat (n / 16777216),UInt8.ofNat (n / 65536),UInt8.ofNat (n / 256),UInt8.ofNat n]
def rj (l:List UInt8):List UInt8:=l++vW (vX l)
theorem Sb (x):AN x<4294967296:=by
 unfold AN;refine Nat.xor_lt_two_pow (n:=32) om ?_;split<;>omega
theorem amO {x} (h:x<2147483648):AN x=x*2 % 4294967296:=by simp [AN,h]
theorem amN {x} (h:¬x<2147483648):AN x=(x*2 % 4294967296)^^^79764919:=by simp [AN,h]
theorem aaa (n c):Kg n c<4294967296:=Sb _
theorem amQ (n l) (h:n<4294967296):zt n l<4294967296:=by
 induction l generalizing n with
 |nil=>exact h
 |cons c l i=>exact i _ (aaa _ _)
theorem aab (l):vX l<4294967296:=amQ _ _ om
theorem amP (n a b):zt n (a++b)=zt (zt n a) b:=by simp [zt]
theorem amR (n a c):zt n (a++[c])=Kg (zt n a) c.toNat:=by simp [zt]
theorem aau:∀ l n i m u,q8 n i l=some (m,u)->i<u/\u<=i+l.length
 |[],n,i,m,u,h=>by simp [q8] at h
 |c::l,n,i,m,u,h=>by
  rw [q8] at h;rw [aL];split at h
  .trivial
  .split at h
   .grind
   .have:=aau l _ _ _ _ h;omega
theorem am4 (l) {m u} (h:lI l=some (m,u)):0<u/\u<=l.length:=by
 have:=aau l 0 0 m u h;omega
def lr (l:Nat):Nat:=l % 250+1
def ny (l:Nat) (p:List UInt8):List UInt8:=nF [] (rj (nF (gh l) p))
def rT (m:Nat) (c:List UInt8):List UInt8:=UInt8.ofNat m::((c++List.replicate (14 - c.length) 0)++[UInt8.ofNat m])
def qj (b:List UInt8) (i:Nat):List UInt8:=(b.drop (14*i)).take 14
def sM (m:Nat) (b:List UInt8) (k:Nat):List UInt8:=(List.range k).flatMap λi=>rT m (qj b i)
theorem Sh (m b k):sM m b (k+1)=sM m b k++rT m (qj b k):=by
 grind [sM,List.range_succ]
theorem E7 (b i):(qj b i).length=min 14 (b.length - 14*i):=by grind [qj]
theorem Sj (m) {c} (h:c.length<=14):(rT m c).length=16:=by grind [rT]
theorem E8 (m b):∀ k,(sM m b k).length=16*k
 |0=>rfl
 |k+1=>by rw [Sh,au,E8 m b k,Sj m (by rw [E7];omega)];omega
def kR (b:List UInt8):Nat:=(b.length+13) / 14
def mX (l:Nat) (p:List UInt8):List UInt8:=sM (lr l) (ny l p) (kR (ny l p))
def oA (l:Int) (p:List UInt8):Bool:=decide (1<=l) && (decide (l<=1000000) && decide (p.length<=40000))
def AO (l:Int) (p:List UInt8):List UInt8:=if oA l p=true then mX l.toNat p else []
def AP (l:Int) (p:List UInt8):Int:=if oA l p=true then 0 else 130
def oR (s:List UInt8) (k:Nat):List UInt8:=(s.take (16*k+16)).drop (16*k)
def uH (c:List UInt8):List UInt8:=(c.take 15).drop 1
def xj (s b piece:List UInt8) (need:Nat):Bool×Nat:=
 if need=0 then (match lI piece with|none=>(true,0)|some (n,u)=>if s.length<n then (true,0) else (decide (u+n<=b.length),u+n)) else (decide (need<=b.length),need)
def AQ (s:List UInt8) (m:Nat):Nat->Nat->List UInt8->Nat->List UInt8×Nat
 |0,_,b,need=>(b,need)
 |f+1,k,b,need=>if 16*k+16<=s.length then
   (if ((oR s k).getD 0 0).toNat≠m\/((oR s k).getD 15 0).toNat≠m then (b,need) else
    if (xj s (b++uH (oR s k)) (uH (oR s k)) need).1=true then (b++uH (oR s k),(xj s (b++uH (oR s k)) (uH (oR s k)) need).2)
    else AQ s m f (k+1) (b++uH (oR s k)) (xj s (b++uH (oR s k)) (uH (oR s k)) need).2)
  else (b,need)
def zx (r:List UInt8×Nat):List UInt8:=if r.2=0\/r.1.length<r.2 then [] else r.1
def zw (s:List UInt8) (m:Nat):List UInt8:=zx (AQ s m (s.length+1) 0 [] 0)
theorem aan {s k} (h:16*k+16<=s.length):(oR s k).length=16:=by grind [oR]
theorem aag {c} (h:c.length=16):(uH c).length=14:=by grind [uH]
def vh (s:List UInt8):Option (List UInt8×List UInt8):=match lI s with
 |none=>none
 |some (n,u)=>if n+u<=s.length then some ((s.drop u).take n,s.drop (u+n)) else none
def Cd (s:List UInt8):Option (List UInt8):=if 4<=s.length/\vW (vX (s.take (s.length - 4)))=s.drop (s.length - 4) then some (s.take (s.length - 4)) else none
def xh (p s:List UInt8):Bool:=decide (p.length<=s.length) && decide (s.take p.length=p)
def HU (s:List UInt8) (l:Int) (p:List UInt8):Option (List UInt8×Nat):=
 if oA l p=true then (if xh (mX l.toNat p) s=true then some (p,(mX l.toNat p).length / 16) else none) else none
def Dt (s:List UInt8) (l:Int) (b:List UInt8):Option (List UInt8×Nat):=match lI b with
 |none=>none
 |some (_,u)=>match vh (b.drop u) with
  |none=>none
  |some (p,_)=>HU s l p
def zu (s:List UInt8) (l:Int) (x:List UInt8):Option (List UInt8×Nat):=match vh x with
 |none=>none
 |some (y,_)=>match Cd y with
  |none=>none
  |some b=>Dt s l b
def qk (s:List UInt8) (l:Int):Option (List UInt8×Nat):=
 if l<1\/1000000<l then none else zu s l (zw s (lr l.toNat))
theorem aas (s m):∀ f k b need,b.length<=s.length->b.length<=16*k->(AQ s m f k b need).1.length<=s.length
 |0,k,b,need,h,c=>h
 |f+1,k,b,need,h,c=>by
  rw [AQ];split
  .rename_i d;have e:=aag (aan d);have a:(b++uH (oR s k)).length<=s.length:=by grind
   split
   .exact h
   .split
    .exact a
    .exact aas s m f (k+1) _ _ a (by grind)
  .exact h
theorem am2 (s m):(zw s m).length<=s.length:=by
 grind [zw,zx,aas]
theorem aaq {s x y} (h:vh s=some (x,y)):x.length<=s.length:=by
 grind [vh]
theorem amW {s x} (h:Cd s=some x):x.length<=s.length:=by
 grind [Cd]
def E6:Nat->List UInt8->Int->List (List UInt8)->Nat->List (List UInt8)×Nat
 |0,_,_,acc,n=>(acc,n)
 |f+1,s,l,acc,n=>match qk (s.drop (16*n)) l with
  |none=>(acc,n)
  |some (p,k)=>E6 f s (l+1) (acc++[p]) (n+k)
def pW (s:List UInt8) (l:Int):List (List UInt8)×Nat:=E6 (s.length+1) s l [] 0
theorem E9 {s l p k} (h:qk s l=some (p,k)):oA l p=true/\xh (mX l.toNat p) s=true/\k=(mX l.toNat p).length / 16:=by
 unfold qk zu Dt HU at h;grind
theorem aad (n p):0<(ny n p).length:=by
 grind [ny,nF,gh]
theorem Kk {s l p k} (h:qk s l=some (p,k)):0<k/\16*k<=s.length:=by
 obtain ⟨_,a,rfl⟩:=E9 h;have b:=aad l.toNat p;unfold xh at a;rw [az,aM] at a;have e:(mX l.toNat p).length=16*kR (ny l.toNat p):=E8 _ _ _;have:0<kR (ny l.toNat p):=by unfold kR;omega
 omega
theorem Ki (b):b.length<=14*kR b/\14*kR b<=b.length+13:=by unfold kR;omega
theorem Sg (m b k):∀ N,k<N->∃ t,sM m b N=sM m b k++(rT m (qj b k)++t)
 |0,h=>absurd h (jZ _)
 |N+1,h=>by
  rw [Sh]
  by_cases e:k=N
  .simp_all
  .obtain ⟨t,a⟩:=Sg m b k N om;simp_all
theorem aai (n):0<lr n/\lr n<256:=by unfold lr;omega
theorem Se (n):(UInt8.ofNat (lr n)).toNat=lr n:=by have:=aai n;simp;omega
def qi (n:Nat) (p:List UInt8):List UInt8:=gh n++gh p.length++p
theorem ND (n p):ny n p=gh (rj (qi n p)).length++rj (qi n p):=by
 trivial
theorem Kj (l):(rj l).length=l.length+4:=by unfold rj vW;simp
theorem tM {n} (h:n<9223372036854775808):(gh n).length<=9:=by
 grind [C0,GL]
theorem Ds {l p}:oA l p=true↔1<=l/\l<=1000000/\p.length<=40000:=by
 grind [oA]
theorem Sd {a b} (h:xh a b=true):∃ r,b=a++r:=by
 unfold xh at h;rw [az,aM,aM] at h;exact ⟨b.drop a.length,by conv=>lhs;rw [<-bJ a.length b,h.2]⟩
theorem HQ (n p):(mX n p).length=16*kR (ny n p):=E8 _ _ _
theorem amU (n p):0<kR (ny n p):=by grind [aad,kR]
theorem aaf {n} (p r):((mX n p++r).getD 0 0).toNat=lr n:=by
 obtain ⟨t,h⟩:=Sg (lr n) (ny n p) 0 (kR (ny n p)) (amU n p);unfold mX;rw [h];exact Se n
theorem am0 (l):qk [] l=none:=by
 rcases h:qk [] l with _|⟨p,k⟩
 .rfl
 .have:=Kk h;grind
inductive Cc:List UInt8->Int->List (List UInt8)->Nat->Prop
 |HM {s:List UInt8} {lsn:Int}:qk s lsn=none->Cc s lsn [] 0
 |Kh {s:List UInt8} {lsn:Int} {p:List UInt8} {k:Nat} {l:List (List UInt8)} {m:Nat}:qk s lsn=some (p,k)->Cc (s.drop (16*k)) (lsn+1) l m->Cc s lsn (p::l) (k+m)
theorem aac:∀ f s a c n,s.length<f+n->∃ l m,Cc (s.drop (16*n)) a l m/\E6 f s a c n=(c++l,n+m)
 |0,s,a,c,n,h=>⟨[],0, .HM (by grind [List.drop_of_length_le,am0]),by simp [E6]⟩
 |f+1,s,a,c,n,h=>by
  rw [E6];rcases t:qk (s.drop (16*n)) a with _|⟨p,k⟩
  .exact ⟨[],0, .HM t,by simp⟩
  .have e:=Kk t;obtain ⟨l,m,b,d⟩:=aac f s (a+1) (c++[p]) (n+k) om;refine ⟨p::l,k+m, .Kh t (by grind [List.drop_drop]),?_⟩;grind
theorem Sc (s n):Cc s n (pW s n).1 (pW s n).2:=by
 obtain ⟨l,m,h,a⟩:=aac (s.length+1) s n [] 0 om;grind [pW]
def xi:List (List UInt8)->Int->List UInt8
 |[],_=>[]
 |p::l,n=>mX n.toNat p++xi l (n+1)
theorem aal:∀ l k n,xi (l++k) n=xi l n++xi k (n+l.length)
 |[],k,n=>by simp [xi]
 |p::l,k,n=>by
  rw [bP,xi,xi,aal l k (n+1),aA,aL,show n+1+(l.length:Int)=n+((l.length+1:Nat):Int) by omega]
structure lb where
 fN:Int
 nK:ByteArray
 gT:List (Int×ByteArray)
def zy (size:Int) (p:Int×ByteArray):Bool:=decide (0<=p.1) && (decide (p.1<size) && decide (p.2.size=16))
def jE (d:lb):Bool:=(decide (0<=d.fN) && (decide (d.fN<=65536) && decide ((d.nK.size:Int)=d.fN*16))) && d.gT.all (zy d.fN)
def rV (l:List UInt8) (i:Nat) (t:List UInt8):List UInt8:=l.take i++t++l.drop (i+t.length)
theorem NG (l i t) (h:i+t.length<=l.length):(rV l i t).length=l.length:=by simp [rV];omega
def tO (at_ n:Nat) (l:List UInt8) (p:Int×ByteArray):List UInt8:=if (at_:Int)<=p.1/\p.1<at_+n then rV l ((p.1.toNat - at_)*16) p.2.data.toList else l
def Fc (d:lb) (at_ n:Nat):List UInt8:=d.gT.foldl (tO at_ n) ((d.nK.data.toList.drop (at_*16)).take (n*16))
theorem ana (at_ n l p) (a:l.length=n*16) (hp:p.2.size=16):(tO at_ n l p).length=n*16:=by
 unfold tO;split
 .rename_i h;have:p.2.data.toList.length=16:=hp;rw [NG _ _ _ om,a]
 .exact a
theorem aay (at_ n:Nat) (s:List (Int×ByteArray)) (l:List UInt8) (h:l.length=n*16) (hp:∀ p∈s,p.2.size=16):(s.foldl (tO at_ n) l).length=n*16:=by
 induction s generalizing l with
 |nil=>exact h
 |cons p s i=>exact i _ (ana _ _ _ _ h (hp p (by simp))) (λq a=>hp q (by simp [a]))
theorem rk {d} (h:jE d=true):0<=d.fN/\d.fN<=65536/\(d.nK.size:Int)=d.fN*16/\∀ p∈d.gT,0<=p.1/\p.1<d.fN/\p.2.size=16:=by
 unfold jE at h;simp only [az,aM,bi] at h;refine ⟨h.1.1,h.1.2.1,h.1.2.2,λp a=>?_⟩;have:=h.2 p a;unfold zy at this;simp only [az,aM] at this;exact ⟨this.1,this.2.1,this.2.2⟩
def ql (size:Int):lb:=⟨min (max size 0) 65536,⟨(List.replicate ((min (max size 0) 65536).toNat*16) (0:UInt8)).toArray⟩,[]⟩
def kN (s:ByteArray):Nat:=(s.size+15) / 16
def zz (s:ByteArray):List UInt8:=s.data.toList++List.replicate (kN s*16 - s.data.toList.length) 0
def vY (s:ByteArray) (k:Nat):List UInt8:=s.data.toList.take (k*16)++List.replicate (kN s*16 - (s.data.toList.take (k*16)).length) 0
theorem Sq (s k):(vY s k).length=kN s*16:=by
 have h:s.data.toList.length=s.size:=rfl;unfold vY;rw [au,List.length_replicate,aT];unfold kN;omega
theorem ane (s):vY s 0=List.replicate (kN s*16) 0:=by simp [vY]
theorem NH (s):vY s (kN s)=zz s:=by
 have h:s.data.toList.length=s.size:=rfl;unfold vY zz;rw [bj (by unfold kN;omega)]
theorem anc (s k) (c:k<kN s):vY s (k+1)=(vY s k).take (k*16)++(s.data.toList.drop (k*16)).take 16++(vY s k).drop (k*16+((s.data.toList.drop (k*16)).take 16).length):=by
 have h:s.data.toList.length=s.size:=rfl;have d:k*16<s.data.toList.length:=by unfold kN at c;omega
 have a:(s.data.toList.take (k*16)).length=k*16:=by rw [aT];omega
 have b:s.data.toList.take ((k+1)*16)=s.data.toList.take (k*16)++(s.data.toList.drop (k*16)).take 16:=by
  rw [show (k+1)*16=k*16+16 from om,List.take_add]
 unfold vY;rw [a,b,au,a];rw [List.take_append_of_le_length (cE a.symm),bj (cE a)];congr 1;generalize (s.data.toList.drop (k*16)).take 16=t;rw [List.drop_append,bM (l:=s.data.toList.take (k*16)) om,bE,a,List.drop_replicate];congr 1;omega
theorem aaB (d:lb) (h:jE d=true) (at_ n:Nat) (b:(n:Int)<=d.fN - at_):(Fc d at_ n).length=n*16:=by
 have s:=rk h;have f:d.nK.data.toList.length=d.nK.size:=rfl;exact aay at_ n _ _ (by rw [aT,aV,f];omega) (λp a=>(s.2.2.2 p a).2.2)
def Kn (d:lb) (at_ n:Int):Bool:=jE d && (decide (0<=at_) && (decide (0<=n) && decide (n<=d.fN - at_)))
def uJ (d:lb) (at_ n:Int):List UInt8:=if Kn d at_ n=true then Fc d at_.toNat n.toNat else []
def Fb (d:lb) (at_ n:Int):Nat:=if Kn d at_ n=true then 0 else 121
def pX (d:lb):lb:=if jE d=true then ⟨d.fN,⟨(Fc d 0 d.fN.toNat).toArray⟩,[]⟩ else d
def Fa (p:ByteArray) (i:Nat):Nat:=if i<p.size then (p.data.toList.getD i 0).toNat % 3 else 0
def Km (l:List UInt8) (p:Int×ByteArray) (k:Nat):List UInt8:=if k=1 then rV l (p.1.toNat*16) p.2.data.toList else if k=2 then rV l (p.1.toNat*16) (p.2.data.toList.take 8) else l
def xk (p:ByteArray) (s:List (Int×ByteArray)) (k:Nat) (l:List UInt8):List UInt8:=(List.range k).foldl (λl i=>Km l (s.getD i (0,ByteArray.empty)) (Fa p i)) l
theorem Sn (p s k l):xk p s (k+1) l=Km (xk p s k l) (s.getD k (0,ByteArray.empty)) (Fa p k):=by
 unfold xk;rw [cM,bX];rfl
theorem am8 (l p k) (h:p.1.toNat*16+p.2.size<=l.length):(Km l p k).length=l.length:=by
 have s:p.2.data.toList.length=p.2.size:=rfl;unfold Km;split
 .rw [NG _ _ _ om]
 .split
  .rw [NG _ _ _ (by rw [aT];omega)]
  .rfl
theorem anb (l i t) (c:t.length=16) (h:i+16<=l.length):rV (rV l (i+8) (t.drop 8)) i (t.take 8)=rV l i t:=by
 have a:(t.drop 8).length=8:=by rw [aV];omega
 have b:(t.take 8).length=8:=by rw [aT];omega
 unfold rV;rw [a,b,c];have d:(l.take (i+8)).length=i+8:=by rw [aT];omega
 rw [aA (l.take (i+8)),List.take_append_of_le_length om,List.take_take,cj om];rw [cB om,bM (l:=l.take (i+8)) om,bE];rw [aA,aA,<-aA (t.take 8),bJ]
theorem Sm (p s k l) (h:∀ i,i<k->(s.getD i (0,ByteArray.empty)).1.toNat*16+(s.getD i (0,ByteArray.empty)).2.size<=l.length):(xk p s k l).length=l.length:=by
 induction k with
 |zero=>rfl
 |succ k a=>
  rw [Sn,am8 _ _ _ (by rw [a (λi b=>h i om)];exact h k om)];exact a (λi b=>h i om)
def nX (d:lb) (p:ByteArray):lb:=if jE d=true then ⟨d.fN,⟨(xk p d.gT d.gT.length d.nK.data.toList).toArray⟩,[]⟩ else d
def tP (at_:Int) (s:ByteArray) (k:Nat):List (Int×ByteArray):=(List.range k).map λi:Nat=>(at_+(i:Int),⟨(((zz s).drop (i*16)).take 16).toArray⟩)
theorem Su (at_ s k):(tP at_ s k).length=k:=by simp [tP]
theorem aaC (at_ s) (k:Nat):tP at_ s (k+1)=tP at_ s k++[(at_+(k:Int),⟨(((zz s).drop (k*16)).take 16).toArray⟩)]:=by
 unfold tP;rw [cM,aU];rfl
theorem aaA (s):(zz s).length=kN s*16:=by rw [<-NH,Sq]
def vZ (d:lb) (at_:Int) (s:ByteArray):Nat:=if jE d=false\/at_<0 then 121 else if d.fN - (kN s:Int)<at_ then 120 else 0
def oh (d:lb) (at_:Int) (s:ByteArray):lb:=if vZ d at_ s=0 then ⟨d.fN,d.nK,d.gT++tP at_ s (kN s)⟩ else d
theorem am5 (n:Nat) (h:n<=65536) (x) (b:x.size=n*16):jE ⟨(n:Int),x,[]⟩=true:=by
 unfold jE;have a:(x.size:Int)=(n:Int)*16:=om;simp [a];omega
theorem anh (d) (h:jE d=true) (a:Nat) (s):vZ d (a:Int) s=if d.fN - (kN s:Int)<(a:Int) then 120 else 0:=by
 unfold vZ;rw [ai (by rw [h];simp)]
def rU (n:Nat) (f:Nat->List UInt8):List UInt8:=(List.range n).flatMap f
theorem NF (n f):rU (n+1) f=rU n f++f n:=by simp [rU,cM]
theorem aaw (n f) (h:∀ i,i<n->(f i).length=16):(rU n f).length=n*16:=by
 induction n with
 |zero=>rfl
 |succ n a=>
  rw [NF,au,a (λi b=>h i om),h n om];omega
theorem Kl (n f) (a:∀ i,i<n->(f i).length=16) (j):(rU n f)[j]? =if j<n*16 then (f (j / 16))[j % 16]? else none:=by
 induction n with
 |zero=>simp [rU]
 |succ n b=>
  have l:=aaw n f (λi d=>a i om);have b:=b (λi d=>a i om);rw [NF]
  by_cases h:j<n*16
  .rw [aS om,b,ak h,ak om]
  .rw [aW om,l]
   by_cases c:j<(n+1)*16
   .rw [ak c,show j / 16=n from om,show j % 16=j - n*16 from by omega]
   .rw [ai c];exact bs (by rw [a n om];omega)
theorem aax (l n) (a:l.length=n*16):l=rU n (λi=>(l.drop (i*16)).take 16):=by
 have f:∀ i,i<n->((l.drop (i*16)).take 16).length=16:=λi b=>by rw [aT,aV,a];omega
 apply cY;intro j;rw [Kl _ _ f]
 by_cases h:j<n*16
 .rw [ak h,List.getElem?_take_of_lt om,br];congr 1;omega
 .rw [ai h];exact bs om
theorem NE {d} (c:jE d=true):d.nK.data.toList.length=d.fN.toNat*16:=by
 have h:=rk c;have:d.nK.data.toList.length=d.nK.size:=rfl;omega
theorem anj {a:Nat} {s k} (c:k<=kN s) {p} (hp:p∈tP (a:Int) s k):∃ j,j<k/\p.1=((a+j:Nat):Int)/\p.2.size=16:=by
 unfold tP at hp;obtain ⟨j,b,rfl⟩:=aE.1 hp;have h:j<k:=by simpa using b
 refine ⟨j,h,by simp,?_⟩;show (((zz s).drop (j*16)).take 16).toArray.size=16;rw [List.size_toArray,aT,aV,aaA];omega
theorem am6 {d} (c:jE d=true) (a:Nat) (s) (h:((a+kN s:Nat):Int)<=d.fN):jE ⟨d.fN,d.nK,d.gT++tP (a:Int) s (kN s)⟩=true:=by
 unfold jE at c ⊢;simp only [az,List.all_append] at c ⊢;refine ⟨c.1,c.2,?_⟩;rw [bi];intro p b;obtain ⟨j,g,e,f⟩:=anj (aq _) b;unfold zy;simp only [az,aM];omega
theorem ang {d} (c:jE d=true) (a n:Nat) (h:((a+n:Nat):Int)<=d.fN):uJ d (a:Int) (n:Int)=Fc d a n/\Fb d (a:Int) (n:Int)=0:=by
 have m:Kn d (a:Int) (n:Int)=true:=by
  unfold Kn;rw [c];simp only [bo,az,aM];omega
 exact ⟨by rw [uJ,ak m,aC,aC],by simp [Fb,m]⟩
theorem ani {d} {a:Nat} {s} (h:vZ d (a:Int) s=0):oh d (a:Int) s=⟨d.fN,d.nK,d.gT++tP (a:Int) s (kN s)⟩:=by rw [oh,ak h]
theorem Ss (d a s):(oh d a s).fN=d.fN:=by unfold oh;split<;>rfl
theorem Sr (d a s):(oh d a s).gT.length<=d.gT.length+kN s:=by
 unfold oh;split
 .rw [au,Su];exact aq _
 .omega
section
def jK (l:List UInt8):ByteArray:=⟨l.toArray⟩
theorem anp (l):(jK l).data.toList=l:=rfl
theorem Sx (l):(jK l).size=l.length:=rfl
structure kJ where
 fi:lb
 im:Nat
 NK:Nat
 hZ:Nat
 pi:Nat
 ls:Nat
 Kt:Nat
 gM:List (List UInt8)
 rW:Bool
 lD:Nat
 tQ:Nat
 rl:Nat
def H0:kJ:=⟨⟨0,⟨#[]⟩,[]⟩,0,0,0,0,0,0,[],false,0,0,0⟩
def kB (d:lb):Nat:=d.fN.toNat / 4
def tS (d:lb) (seq:Nat):Nat:=if seq % 2=1 then kB d else 0
def lN (d:lb):Nat:=2*kB d
def yk (n:Nat):List UInt8:=List.replicate (n*16) 0
def lE (base:Nat) (st:List UInt8):List UInt8:=nF (gh base) st
def NN (t:List UInt8):Option (Nat×List UInt8):=match lI t with
 |none=>none
 |some (b,u)=>match vh (t.drop u) with
  |none=>none
  |some (st,rest)=>if rest=[]/\1<=b/\b<=1000001 then some (b,st) else none
def AT (s:List UInt8) (seq:Nat):Option (Nat×List UInt8):=match qk s (seq:Int) with
 |none=>none
 |some (t,_)=>NN t
def vi (s:List UInt8) (o:Nat):Option (Nat×Nat×List UInt8):=match s with
 |[]=>none
 |c::_=>if 2<=c.toNat/\c.toNat<=201/\(c.toNat - 1) % 2=o then (match AT s (c.toNat - 1) with|none=>none|some (b,st)=>some (c.toNat - 1,b,st)) else none
def NL (x y:Option (Nat×Nat×List UInt8)):Option (Nat×Nat×List UInt8):=match x,y with
 |none,y=>y
 |some x,none=>some x
 |some x,some y=>if x.1<y.1 then some y else some x
def Ch (d:lb):Option (Nat×Nat×List UInt8):=NL (vi (uJ d 0 (kB d)) 0) (vi (uJ d (kB d) (kB d)) 1)
def nz (seq base:Nat) (st:List UInt8):List UInt8:=mX seq (lE base st)
def tR (size:Int):kJ×Nat:=
 if kB (ql size)<(nz 1 1 []).length / 16 then (H0,120)
 else (⟨pX (oh (ql size) (tS (ql size) 1) (jK (nz 1 1 []))),1,1,1,lN (ql size),0,0,[],false,0,0,0⟩,0)
def lV (w:kJ):kJ:=if w.rW=true then {w with fi:=pX w.fi,rW:=false} else w
def sO (w:kJ) (p:List UInt8):kJ×Nat×Nat:=
 if 40000<p.length\/1000000<w.hZ then (w,0,130) else ({w with gM:=w.gM++[p],hZ:=w.hZ+1},w.hZ,0)
def sP (w:kJ):List UInt8:=xi w.gM ((w.ls+1:Nat):Int)
def ol (w:kJ):kJ×Nat:=
 if w.lD≠0 then (w,140)
 else if w.fi.fN - (w.pi:Int)<((sP w).length / 16:Nat) then (w,120)
 else if w.gM=[] then (w,0)
 else ({lV w with fi:=oh (lV w).fi w.pi (jK (sP w)),pi:=w.pi+(sP w).length / 16,ls:=w.hZ - 1,gM:=[]},0)
def oB (w:kJ):kJ:=
 if w.lD=0 then {w with fi:=pX w.fi,rW:=false,Kt:=w.ls}
 else {w with fi:=pX w.fi,rW:=false,lD:=2,Kt:=max w.ls (w.tQ - 1)}
def nL (w:kJ) (st:List UInt8):kJ×Nat:=
 if w.lD≠0 then (w,140)
 else if 200<=w.im then (w,193)
 else if kB w.fi<(nz (w.im+1) w.hZ st).length / 16 then (w,120)
 else ({lV w with fi:=oh (lV w).fi (tS w.fi (w.im+1)) (jK (nz (w.im+1) w.hZ st)),lD:=1,tQ:=w.hZ,rl:=w.gM.length},0)
def qN (w:kJ):kJ×Nat:=
 if w.lD≠2 then (w,140)
 else ({w with im:=w.im+1,NK:=w.tQ,pi:=lN w.fi,ls:=max w.ls (w.tQ - 1),gM:=w.gM.drop w.rl,fi:=oh w.fi (lN w.fi) (jK (yk (w.fi.fN.toNat - lN w.fi))),rW:=true,lD:=0,tQ:=0,rl:=0},0)
structure aaG where
 yj:kJ
 Cg:List UInt8
 ph:List (List UInt8)
 Cf:Nat
def pE (d:lb):List UInt8:=uJ d (lN d) (d.fN - lN d)
def NP (d:lb) (seq base:Nat) (st:List UInt8):aaG:=
 ⟨⟨oh (oh d ((lN d+(pW (pE d) base).2:Nat):Int) (jK (yk (d.fN.toNat - (lN d+(pW (pE d) base).2))))) (tS d (seq+1)) (jK (yk (kB d))),
  seq,base,base+(pW (pE d) base).1.length,lN d+(pW (pE d) base).2,base+(pW (pE d) base).1.length - 1,base+(pW (pE d) base).1.length - 1,[],true,0,0,0⟩,st,(pW (pE d) base).1,0⟩
def mY (d:lb):aaG:=if jE d=false then ⟨H0,[],[],140⟩ else match Ch d with
 |none=>⟨H0,[],[],140⟩
 |some (seq,base,st)=>NP d seq base st
theorem NQ {d} (c:jE d=true) (a n:Nat) (h:((a+n:Nat):Int)<=d.fN):(uJ d (a:Int) (n:Int)).length=16*n:=by
 rw [(ang c a n h).1,aaB d c _ _ om];omega
theorem aaJ {d:lb} (h:jE d=true) (l:List UInt8) (f:l.length=d.nK.size):jE ⟨d.fN,⟨l.toArray⟩,[]⟩=true:=by
 obtain ⟨a,b,c,_⟩:=rk h;have e:(⟨l.toArray⟩:ByteArray).size=l.length:=rfl;grind [jE]
theorem aaK {d:lb} (h:jE d=true) (p:ByteArray):jE (nX d p)=true/\(nX d p).fN=d.fN/\(nX d p).gT=[]:=by
 have s:=rk h;have f:=NE h;unfold nX;rw [ak h];refine ⟨aaJ h _ ?_,rfl,rfl⟩;rw [Sm _ _ _ _ (λi a=>?_)]
 .rfl
 grind
theorem NM {d:lb} (h:jE d=true):jE (pX d)=true/\(pX d).gT=[]/\(pX d).fN=d.fN:=by
 have s:=rk h;unfold pX;rw [ak h];exact ⟨aaJ h _ (by grind [aaB]),rfl,rfl⟩
theorem Ci {d} (c:jE d=true) (a k:Nat) (s) (b:s.length=16*k) (h:((a+k:Nat):Int)<=d.fN):
  vZ d (a:Int) (jK s)=0/\(oh d (a:Int) (jK s)).fN=d.fN/\jE (oh d (a:Int) (jK s))=true/\(oh d (a:Int) (jK s)).gT.length=d.gT.length+k:=by
 have m:kN (jK s)=k:=by unfold kN;rw [Sx];omega
 have e:vZ d (a:Int) (jK s)=0:=by grind [anh]
 rw [ani e];exact ⟨e,rfl,am6 c a (jK s) (by rw [m];exact h),by grind [Su]⟩
def AS (q b:Nat) (st:List UInt8):Nat:=kR (ny q (lE b st))
def v7:List (List UInt8)->Nat->Nat
 |[],_=>0
 |p::l,n=>kR (ny n p)+v7 l (n+1)
theorem aaM:∀ l (n:Nat),(xi l (n:Int)).length=16*v7 l n
 |[],_=>rfl
 |p::l,n=>by
  have h:=aaM l (n+1);grind [xi,HQ,v7]
theorem NO {b st} (h:b<=1000001) (s:st.length<=1000):(lE b st).length<=1100:=by
 have a:=tM (n:=b) om;have h:=tM (n:=st.length) om;grind [lE,nF]
theorem aaL {q b:Nat} {st} (h:1<=q) (a:q<=201) (c:b<=1000001) (s:st.length<=1000):oA (q:Int) (lE b st)=true:=by
 grind [NO,Ds]
theorem Ku (q b st):(nz q b st).length=16*AS q b st:=HQ _ _
theorem aaQ {s} {q:Nat} {x} (h:AT s q=some x):∃ p k,qk s (q:Int)=some (p,k)/\NN p=some x:=by
 grind [AT]
theorem Sz {s o q b st}:vi s o=some (q,b,st)↔1<=q/\q<=200/\q % 2=o/\AT s q=some (b,st):=by
 constructor
 .intro h;unfold vi at h;grind
 .rintro ⟨g,i,j,f⟩;obtain ⟨p,k,d,_⟩:=aaQ f;obtain ⟨r,e⟩:=Sd (E9 d).2.1;have m:=aaf p r (n:=q);rw [aC] at e;rw [<-e] at m;have a:=(Kk d)
  match s,a with
  |[],a=>simp at a;omega
  |c::s,_=>
   have l:c.toNat=q+1:=by have:c.toNat=lr q:=m;unfold lr at this;omega
   unfold vi;simp_all
structure nm (w:kJ):Prop where
 uK:jE w.fi=true
 Du:w.fi.fN<=1000
 Sv:1<=w.im
 NI:w.im<=200
 aaD:1<=w.NK
 xl:w.hZ=w.ls+1+w.gM.length
 Ce:w.hZ<=1000001
 Kr:(w.pi:Int)<=w.fi.fN
 HW:∀ p∈w.gM,p.length<=200
 AR:w.lD≠0->w.im<200/\w.tQ=w.ls+1+w.rl/\w.rl<=w.gM.length
variable {w:kJ}
theorem nm.Ks (h:nm w):0<=w.fi.fN:=(rk h.uK).1
theorem Kv (d q):tS d q+kB d<=lN d:=by grind [tS,lN]
theorem Fe (d):lN d<=d.fN.toNat:=by unfold lN kB;omega
theorem nm.ank (h:nm w) {p} (hp:p.length<=200):nm (sO w p).1:=by
 unfold sO;split
 .exact h
 .exact {h with
   xl:=by grind [h.xl]
   Ce:=by simp only;omega
   HW:=λq a=>by
    rcases aF.1 a with a|a
    .exact h.HW q a
    simp_all
   AR:=λm=>by have:=h.AR m;grind}
theorem nm.Kq (h:nm w) {d} (b:jE d=true) (a:d.fN=w.fi.fN) (q):nm {w with fi:=d,rW:=q}:=
 {h with uK:=b,Du:=(by show d.fN<=_;rw [a];exact h.Du),Kr:=(by show _<=d.fN;rw [a];exact h.Kr)}
theorem nm.Sw (h:nm w):nm (lV w)/\(lV w).fi.fN=w.fi.fN:=by
 obtain ⟨a,_,c⟩:=NM h.uK;unfold lV;split
 .exact ⟨h.Kq a c _,c⟩
 .exact ⟨h,rfl⟩
theorem nm.NJ (h:nm w):nm (oB w):=by
 obtain ⟨a,_,c⟩:=NM h.uK;have b:=h.Kq a c false;unfold oB;split
 .exact {b with}
 .rename_i m;exact {b with AR:=λ_=>h.AR m}
theorem Dv (n):(yk n).length=16*n:=by grind [yk]
theorem aaP (w):(sP w).length=16*v7 w.gM (w.ls+1):=aaM _ _
theorem nm.aaF (h:nm w):nm (ol w).1:=by
 obtain ⟨s,z⟩:=h.Sw;have l:=aaP w;have e:(lV w).lD=w.lD/\(lV w).hZ=w.hZ:=by grind [lV]
 unfold ol;split
 .exact h
 split
 .exact h
 split
 .exact h
 obtain ⟨_,b,a,_⟩:=Ci s.uK w.pi _ (sP w) l om;exact {s.Kq a b (lV w).rW with
  xl:=(by grind [h.xl])
  Kr:=(by show _<=(oh _ _ _).fN;rw [b];simp only;omega)
  HW:=(by simp)
  AR:=(by grind)}
theorem nm.aaE (h:nm w) (s:List UInt8):nm (nL w s).1:=by
 obtain ⟨a,z⟩:=h.Sw;have l:=Ku (w.im+1) w.hZ s;have e:(lV w).gM=w.gM/\(lV w).hZ=w.hZ/\(lV w).im=w.im:=by grind [lV]
 have d:=h.Ks;have f:=Kv w.fi (w.im+1);have g:=Fe w.fi;unfold nL;split
 .exact h
 split
 .exact h
 split
 .exact h
 obtain ⟨_,b,c,_⟩:=Ci a.uK (tS w.fi (w.im+1)) _ (nz (w.im+1) w.hZ s) l om;exact {a.Kq c b (lV w).rW with
  AR:=(by grind [a.xl])}
theorem nm.ann (h:nm w):nm (qN w).1:=by
 have d:=h.Ks;have e:=Fe w.fi;unfold qN;split
 .exact h
 obtain ⟨m,f,g⟩:=h.AR om;obtain ⟨_,b,a,_⟩:=Ci h.uK (lN w.fi) _ (yk (w.fi.fN.toNat - lN w.fi)) (Dv _) om;exact {h.Kq a b true with
  Sv:=(by simp only;omega)
  NI:=(by simp only;omega)
  aaD:=(by simp only;omega)
  xl:=(by have:=h.xl;simp only [aV];omega)
  Kr:=(by show _<=(oh _ _ _).fN;rw [b];simp only;omega)
  HW:=(λp c=>h.HW p (cV c))
  AR:=(by grind)}
theorem anq {size} (s:size<=1000) (h:(tR size).2=0):nm (tR size).1/\(tR size).1.gM=[]/\(tR size).1.fi.fN=max size 0/\(tR size).1.fi.gT=[]:=by
 unfold tR at h ⊢;split at h
 .cases h
 rename_i r;rw [ai r];have o:(ql size).fN=max size 0:=by grind [ql]
 have f:jE (ql size)=true:=by
  obtain ⟨n,a⟩:∃ n:Nat,max size 0=(n:Int):=⟨(max size 0).toNat,om⟩;unfold ql jE;rw [a];have e:∀ k:Nat,(⟨(List.replicate k (0:UInt8)).toArray⟩:ByteArray).size=k:=λk=>by show ((List.replicate k (0:UInt8)).toArray).size=k;simp
  grind
 have l:=Ku 1 1 [];have j:=Kv (ql size) 1;have m:=Fe (ql size);obtain ⟨_,g,b,_⟩:=Ci f (tS (ql size) 1) _ (nz 1 1 []) l om;obtain ⟨c,d,i⟩:=NM b;refine ⟨⟨c,?_,aq 1,(by show 1<=200;decide),aq 1,rfl,(by show 1<=1000001;decide),?_,by simp,by simp⟩,rfl,?_,d⟩
 .show (pX _).fN<=_;omega
 .show _<=(pX _).fN;simp only;omega
 .show (pX _).fN=_;omega
theorem aaN {d} (h:jE d=true):(pE d).length=16*(d.fN.toNat - lN d):=by
 have a:=(rk h).1;have:=Fe d;unfold pE;rw [show d.fN - (lN d:Int)=((d.fN.toNat - lN d:Nat):Int) by omega];grind [NQ]
theorem aaH {s n l m} (h:Cc s n l m):16*m<=s.length/\l.length<=m/\(∀ p∈l,p.length<=40000)/\(n<=1000001->n+l.length<=1000001):=by
 induction h with
 |HM e=>simp_all
 | @Kh s n p k l m e _ i=>
  have:=Kk e;have:=Ds.1 (E9 e).1;grind
theorem anv {s n p k} (h:qk s n=some (p,k)):p.length<=s.length:=by
 obtain ⟨r,rfl⟩:=Sd (E9 h).2.1;have:=HQ n.toNat p;have:=Ki (ny n.toNat p);have:p.length<=(ny n.toNat p).length:=by grind [ny,nF,rj]
 grind
theorem anu {s q b st} (h:AT s q=some (b,st)):1<=b/\b<=1000001/\st.length<=s.length:=by
 obtain ⟨p,k,c,a⟩:=aaQ h;have d:=anv c;unfold NN at a;split at a
 .cases a
 split at a
 .cases a
 rename_i e;split at a
 .rename_i f;cases a;have:=aaq e;grind
 .cases a
theorem aaI {d} (c:jE d=true) {q b st} (h:Ch d=some (q,b,st)):1<=q/\q<=200/\1<=b/\b<=1000001/\st.length<=16*kB d:=by
 have e:=(rk c).1;have f:=Fe d;have k:∀ (a:Nat) o,a+kB d<=lN d->vi (uJ d (a:Int) (kB d)) o=some (q,b,st)->1<=q/\q<=200/\1<=b/\b<=1000001/\st.length<=16*kB d:=λa o g s=>by
  have:=NQ c a (kB d) om;obtain ⟨l,m,_,p⟩:=Sz.1 s;have n:=anu p;omega
 have i:=k 0 0 (by unfold lN;omega);have j:=k (kB d) 1 (by unfold lN;omega);unfold Ch NL at h;grind
theorem anr (d):(mY d).Cf=0\/(mY d).Cf=140:=by
 unfold mY;split
 .exact .inr rfl
 split
 .exact .inr rfl
 .exact .inl rfl
theorem ant {d} (I:d.fN<=1000) (o:d.gT=[]) (h:(mY d).Cf=0):nm (mY d).yj/\(mY d).yj.gM=[]/\(mY d).yj.fi.fN=d.fN/\(mY d).yj.fi.gT.length<=2000/\(mY d).Cg.length<=16*kB d/\(mY d).ph.length<=d.fN.toNat/\∀ p∈(mY d).ph,p.length<=40000:=by
 unfold mY at h ⊢;split at h
 .cases h
 rename_i c;have c:jE d=true:=by simpa using c
 rw [ai (by rw [c];decide)];cases f:Ch d with
 |none=>rw [f] at h;cases h
 |some x=>
 obtain ⟨q,b,s⟩:=x;obtain ⟨r,t,j,z,u⟩:=aaI c f;obtain ⟨g,v,i,a⟩:=aaH (Sc (pE d) (b:Int));have a:=a om;have E:=(rk c).1;have F:=Kv d (q+1);have H:=Fe d;rw [aaN c] at g;simp only [NP];generalize pW (pE d) b=y at*;obtain ⟨R,m⟩:=y;dsimp only at*;obtain ⟨_,A,k,l⟩:=Ci c (lN d+m) _ (yk (d.fN.toNat - (lN d+m))) (Dv _) om;obtain ⟨_,B,n,D⟩:=Ci k (tS d (q+1)) _ (yk (kB d)) (Dv _) om;rw [o,cv] at l;have e:kB d=d.fN.toNat / 4:=rfl;refine ⟨⟨n,?_,r,t,j,?_,?_,?_,by simp,by simp⟩,trivial,om,om,u,om,i⟩
 .simp only;omega
 .simp only [cv];omega
 .simp only;omega
 .simp only;omega
theorem aaO (w):(lV w).fi.gT.length<=w.fi.gT.length:=by
 grind [lV,pX]
theorem Sy (s):kN (jK s)=(s.length+15) / 16:=rfl
theorem nm.anm (h:nm w):(ol w).1.fi.gT.length<=w.fi.gT.length+2000:=by
 have m:=h.Du;have s:=aaO w;have b:=Sr (lV w).fi w.pi (jK (sP w));grind [Sy,ol]
theorem nm.anl (h:nm w) (p):(nL w p).1.fi.gT.length<=w.fi.gT.length+2000:=by
 have m:=h.Du;have s:=aaO w;have z:kB w.fi=w.fi.fN.toNat / 4:=rfl;have b:=Sr (lV w).fi (tS w.fi (w.im+1)) (jK (nz (w.im+1) w.hZ p));grind [Sy,nL]
theorem nm.ano (h:nm w):(qN w).1.fi.gT.length<=w.fi.gT.length+2000:=by
 have s:=h.Du;have b:=Sr w.fi (lN w.fi) (jK (yk (w.fi.fN.toNat - lN w.fi)));grind [Sy,Dv,qN]
end
end Gw
