import Derived.Test.YtffboamedcmpaaaGreatDoorAo
set_option linter.all false
set_option maxHeartbeats 4000000
set_option maxRecDepth 100000
namespace Go.Proofs.YtffboamedcmpaaaGreatDoor
open Gw
open Go.Am
open Go.Proofs.Tryz Tryz
theorem EW {p q:Prop} {f:FuncId} {fn:Func} (hf:prog.funcs[f]? =some fn) (h:q) (e:(prog.funcs[f]? =some fn)->BD q->p:=by
 intro hf h;refine ic hf ?_
 conv=>whnf
 refine fF.CR ?_;refine fz func265 ?_
 conv=>whnf
 refine ⟨0,_,_,_,rfl,(by first|exact qx.Bx (MV _) rfl|exact qx.xT (hpa (Nat.succ_pos _)) rfl),rfl,?_⟩
 conv=>whnf
 refine ⟨0,_,_,_,rfl,(by first|exact qx.Bx (MV _) rfl|exact qx.xT (hpc (Nat.succ_pos _)) rfl),rfl,?_⟩;refine qD ?_;exact h.1):p:=e hf ⟨h⟩
theorem Ze {l:List fK} (b:fK):(l++[b]).map fI=l.map fI++[fI b]:=aU
theorem akV (q:Bool) (v:fK):er prog 297 [.a8 q 2 [] .dm, .eN (fI v)] (.ax .i64 (-1)):=by
 refine er.Uu jy m8 (fn:=f297) eI rfl eI rfl rfl ?_
 conv=>whnf
 refine iE.gY (X:=Unit) (λ_=>[(.ct 7, .bg (.ax .i64 0)),(.ct 8, .bg (.ax .i64 0))]) 1 (λ_=>True) (λ_=>0) dd () trivial ⟨rfl,rfl,rfl,rfl,trivial⟩ ?_;rintro ⟨⟩ _;refine gk ?_;exact jf
theorem Y9 {σ:eK} (x:vR) (a:σ (.ay 9)= .eY 370 (((x.qM++x.J6).map fI).flatten)) (h:σ (.ay 12)= .eY 370 (((x.rR++x.J7).map fI).flatten)):
  Am.oI σ (.eN [.eP 9 0 2 x.qM.length true, .eP 12 0 2 x.rR.length true]) (km ⟨.mS x.qM, .mS x.rR⟩):=
 BZ.Db (.lM (QV (enc:=fI) (λ_=>rfl) (λ_=>rfl) a) (.lM (QV (enc:=fI) (λ_=>rfl) (λ_=>rfl) h) .rf))
theorem akR (d q:Bool) (a c:fK) (b l:List fK) (th lk:Int):km (kl ⟨⟨d,a::b⟩,⟨q,c::l⟩⟩ th lk).1=km ⟨.mS (sH th lk ⟨a::b,[],c::l,[]⟩).1.qM, .mS (sH th lk ⟨a::b,[],c::l,[]⟩).1.rR⟩/\
  (kl ⟨⟨d,a::b⟩,⟨q,c::l⟩⟩ th lk).2=(sH th lk ⟨a::b,[],c::l,[]⟩).2:=by
 have e:km ⟨⟨d,a::b⟩,⟨q,c::l⟩⟩=km ⟨.mS (a::b), .mS (c::l)⟩:=by
  unfold km y8;rw [xb,xb];rfl
 have f:∀ h,km ⟨h,⟨q,c::l⟩⟩=km ⟨h, .mS (c::l)⟩:=λh=>by
  unfold km y8;rw [xb];rfl
 unfold kl sH;dsimp only;cases (a::b).any λh=>decide (h=(⟨lk,th⟩:fK)) with
 |false=>exact ⟨e,rfl⟩
 |true=>
  dsimp only;cases (c::l).find? λw=>decide (w.gf=lk) with
  |none=>exact ⟨f _,rfl⟩
  |some n=>exact ⟨rfl,rfl⟩
def tG (th lk:Int) (l:List fK):(List fK×List fK)×Option Int:=
 match l.any λh=>decide (h=⟨lk,th⟩) with
 |false=>((l,[]),none)
 |true=>((mV (λh=>decide (h=⟨lk,th⟩)) l,[]),none)
def Hx (th lk:Int) (l hp:List fK):List fK:=match l.any λh=>decide (h=⟨lk,th⟩) with
 |false=>hp
 |true=>yf::hp
def J8 (w:Bool) (h hp:List fK):List (Am.fQ×gC):=[(.ay 9, .eY 370 (((h++hp).map fI).flatten)),(.ay 15, .dc 415 [.eP 9 0 2 h.length true, .a8 w 2 [] .fW])]
theorem Za {σ:eK} {w:Bool} {h hp:List fK} (a:σ (.ay 9)= .eY 370 (((h++hp).map fI).flatten)):
  Am.oI σ (.eN [.eP 9 0 2 h.length true, .a8 w 2 [] .fW]) (km ⟨.mS h,⟨w,[]⟩⟩):=by
 unfold km y8;rw [Hg];exact BZ.Db (.lM (QV (enc:=fI) (λ_=>rfl) (λ_=>rfl) a) (.lM (.qw (v:= .a8 w 2 [] .fW) rfl) .rf))
theorem akS (q w:Bool) (a:fK) (l:List fK) (th lk:Int):km (kl ⟨⟨q,a::l⟩,⟨w,[]⟩⟩ th lk).1=km ⟨.mS (tG th lk (a::l)).1.1,⟨w,[]⟩⟩/\
  (kl ⟨⟨q,a::l⟩,⟨w,[]⟩⟩ th lk).2=(tG th lk (a::l)).2:=by
 have e:km ⟨⟨q,a::l⟩,⟨w,[]⟩⟩=km ⟨.mS (a::l),⟨w,[]⟩⟩:=by
  unfold km y8;rw [xb];rfl
 unfold kl tG;dsimp only;cases (a::l).any λh=>decide (h=(⟨lk,th⟩:fK)) with
 |false=>exact ⟨e,rfl⟩
 |true=>exact ⟨rfl,rfl⟩
theorem Zc (w:Bool) (l hp:List fK) (th lk:Int) (g:l.length<=1048576):fF prog 270 [.c8 15 0, .ax .i64 th, .ax .i64 lk] (eJ (J8 w l hp)) 16
  (gP 16 (λr es=>r= .gO (Na (tG th lk l).2)/\es=J8 w (tG th lk l).1.1 (Hx th lk l hp))):=by
 have q:=Y5 true l hp ⟨lk,th⟩ g;refine fF.wM jy m8 (fn:=f270) eI rfl eI rfl rfl ?_
 conv=>whnf
 refine .inr ⟨eI,eI,?_⟩;refine j5 ?_;rcases EP (λh:fK=>decide (h=⟨lk,th⟩)) l with ⟨c,o⟩|⟨i,t,c,o,b⟩
 .unfold tG Hx;rw [Y1 o,c];refine cx ?_;exact ⟨_,_,⟨rfl,rfl⟩,rfl,⟨rfl,rfl⟩,af⟩
 obtain ⟨j,a,s,e,f,u,m⟩:=M9 t o b;have n:=Y2 (p:=λh:fK=>decide (h=⟨lk,th⟩)) t b;have d:=Y4 j s hp a (by rw [<-e];exact g);have x:=aiu lk w [] (ar _);have k:IntKind.i64.wrap ((i:Int)+1)=((j.length+1:Nat):Int):=by rw [fq om om,f];rfl
 rw [<-e] at d;rw [f] at d k;unfold tG Hx;rw [n,c];dsimp only;rw [m];clear q n c;refine j5 ?_;rw [k];refine j5 ?_;rw [show k9 (λh:fK=>decide (h.gf=lk)) []=-1 from rfl];refine cx ?_;exact ⟨_,_,⟨rfl,rfl⟩,rfl,⟨rfl,rfl⟩,af⟩
theorem akU (t th:Int) (l pad:List fK) (a:l.length<=1048576):fF prog 268 [.eP 11 0 2 l.length true, .eW 267 [] [.c8 20 0]]
  (eJ [(.ay 11, .eY 370 (((l++pad).map fI).flatten)),(.ay 20, .dc 370 [.ax .i64 t, .ax .i64 th])]) 21
  (gP 21 (λx es=>x= .gO (.eD (l.any λh=>decide (h=⟨t,th⟩)))/\es=[(.ay 11, .eY 370 (((l++pad).map fI).flatten)),(.ay 20, .dc 370 [.ax .i64 t, .ax .i64 th])])):=by
 have i:=ais t th true l pad a;refine fF.wM jy m8 (fn:=f268) eI rfl eI rfl rfl ?_;refine j5 ?_;refine ⟨_,_,⟨rfl,rfl⟩,rfl,⟨?_,rfl⟩,af⟩;show b9.eD (decide (0<=k9 (λh=>decide (h=(⟨t,th⟩:fK))) l))=b9.eD _;rw [XL]
theorem akT (q:Bool) (t th:Int):fF prog 268 [.a8 q 2 [] .fW, .eW 267 [] [.c8 20 0]]
  (eJ [(.ay 20, .dc 370 [.ax .i64 t, .ax .i64 th])]) 21
  (gP 21 (λx es=>x= .gO (.eD false)/\es=[(.ay 20, .dc 370 [.ax .i64 t, .ax .i64 th])])):=by
 have i:=air t th q [] (ar _);refine fF.wM jy m8 (fn:=f268) eI rfl eI rfl rfl ?_;refine j5 ?_;rw [show k9 (λh:fK=>decide (h=⟨t,th⟩)) []=-1 from rfl]
 conv=>whnf
 exact ⟨_,_,⟨rfl,rfl⟩,rfl,⟨rfl,rfl⟩,af⟩
theorem akY (t:kz) (th lk:Int) (hh:t.iV.al.length<=1048576) (hw:t.fH.al.length<=1048576):er prog 234 [km t, .ax .i64 th, .ax .i64 lk] (.dn [km (kl t th lk).1, .ax .i64 ((kl t th lk).2.getD 0), .eD (kl t th lk).2.isSome]):=by
 obtain ⟨⟨hq,hl⟩,⟨wq,wl⟩⟩:=t;dsimp only at*;have hpa:=λh=>Dd (hl.map fI) h (by rw [ap];exact hh)
 have hpc:=λh=>Dd (wl.map fI) h (by rw [ap];exact hw)
 rw [ap] at hpa hpc;rcases hl with _|⟨a,hl⟩
 .rw [show kl ⟨⟨hq,[]⟩,⟨wq,wl⟩⟩ th lk=(⟨⟨hq,[]⟩,⟨wq,wl⟩⟩,none) from rfl];have h0:=λq=>akV q ⟨lk,th⟩
  rcases wl with _|⟨c,wl⟩<;>cases hq<;>cases wq
  all_goals
   refine EW func234 ?_;refine fz func270 ?_
   conv=>whnf
   refine ⟨_,rfl,h0 _,?_⟩;refine qD ?_
   first|exact mR.fC _|exact Hk
 .rcases wl with _|⟨c,wl⟩
  .have hf:=Zc wq (a::hl) [] th lk hh;have hb:=akS hq wq a hl th lk;rw [hb.1,hb.2];generalize Hx th lk (a::hl) []=yp at*;generalize tG th lk (a::hl)=y at*;obtain ⟨⟨yl,y2⟩,o⟩:=y;unfold J8 at hf;rw [aH] at hf;cases hq<;>cases wq
   all_goals
    refine EW func234 ?_;cases o<;>(conv=>whnf)<;>exact BZ.B0 (.lM (Za rfl) (.MU rfl (.MU rfl .rf)))
  .have hf:=Y3 ⟨a::hl,[],c::wl,[]⟩ th lk hh hw;have hb:=akR hq wq a c hl wl th lk;rw [hb.1,hb.2];generalize sH th lk ⟨a::hl,[],c::wl,[]⟩=y at*;obtain ⟨⟨yl,yp,zl,zp⟩,o⟩:=y;unfold Hv at hf;rw [aH,aH] at hf;cases hq<;>cases wq
   all_goals
    refine EW func234 ?_;cases o<;>(conv=>whnf)<;>exact BZ.B0 (.lM (Y9 ⟨yl,yp,zl,zp⟩ rfl rfl) (.MU rfl (.MU rfl .rf)))
theorem akW (t:kz) (th lk:Int) (hh:t.iV.al.length<=1048576) (hw:t.fH.al.length<=1048576):er prog 232 [km t, .ax .i64 th, .ax .i64 lk] (.dn [km (pc t th lk).1, .eD (pc t th lk).2]):=by
 have hH:=akz t lk hh;obtain ⟨⟨hq,hl⟩,⟨wq,wl⟩⟩:=t;dsimp only at*;have hy:=akU lk th wl [] hw;rw [aH] at hy;have h0:=akT wq lk th;unfold pc gp.lR;generalize yW ⟨⟨hq,hl⟩,⟨wq,wl⟩⟩ lk=o at*;generalize hn:(wl.any λw=>decide (w=(⟨lk,th⟩:fK)))=n at*;have hpa:=λh=>Dd (hl.map fI) h (by rw [ap];exact hh)
 have hpc:=λh=>Dd (wl.map fI) h (by rw [ap];exact hw)
 rw [ap] at hpa hpc;have e:∀ (h w:gp fK),km ⟨h,w⟩= .eN [.a8 h.gg 2 (h.al.map fI) .dm, .a8 w.gg 2 (w.al.map fI) .dm]:=λ_ _=>rfl
 rcases o with _|z
 .dsimp only;rw [e ⟨false,hl++_⟩];dsimp only;rw [Ze];rcases hl with _|⟨a,hl⟩<;>rcases wl with _|⟨c,wl⟩<;>cases hq<;>cases wq
  all_goals
   refine EW func232 ?_
   first
    |refine ⟨ji (show (1:Nat)<=4294967296 by decide) dd,?_⟩
     refine qD ?_
     first|exact mR.fC _|exact Hk
    |refine ⟨List.map fI _,⟨ap _,λel he=>by obtain ⟨x,_,rfl⟩:=aE.1 he;rfl,rfl,AH (λ_=>rfl) _,ji (by rw [ap];exact av (dF hh) dd) dd⟩,?_⟩
     refine qD ?_
     first|exact mR.fC _|exact Hk
 .dsimp only;have hb:(z==th)=decide (z=th):=rfl
  by_cases hz:z=th
  .rw [aO hz] at hb;rw [ak hz];clear hz hy h0;rcases hl with _|⟨a,hl⟩<;>rcases wl with _|⟨c,wl⟩<;>cases hq<;>cases wq
   all_goals
    refine EW func232 ?_;refine VU hb ?_;refine qD ?_
    first|exact mR.fC _|exact Hk
  .rw [aJ hz] at hb;have e2:∀ b,km ⟨⟨hq,hl⟩,⟨false,wl++[b]⟩⟩= .eN [.a8 (gp.gg ⟨hq,hl⟩) 2 (hl.map fI) .dm, .a8 false 2 (wl.map fI++[fI b]) .dm]:=λb=>by rw [e];dsimp only;rw [Ze];rfl
   rw [ai hz];cases n with
   |true=>
    rcases wl with _|⟨c,wl⟩
    .cases hn
    rcases hl with _|⟨a,hl⟩<;>cases hq<;>cases wq
    all_goals
     refine EW func232 ?_;refine PZ hb ?_;refine qD ?_
     first|exact mR.fC _|exact Hk
   |false=>
    rw [ai dd];dsimp only;rw [e2];rcases wl with _|⟨c,wl⟩<;>rcases hl with _|⟨a,hl⟩<;>cases hq<;>cases wq
    all_goals
     refine EW func232 ?_;refine PZ hb ?_;refine qD ?_
     first
      |refine ⟨ji (show (1:Nat)<=4294967296 by decide) dd,?_⟩
      |refine ⟨List.map fI _,⟨ap _,λel he=>by obtain ⟨x,_,rfl⟩:=aE.1 he;rfl,rfl,AH (λ_=>rfl) _,ji (by rw [ap];exact av (dF hw) dd) dd⟩,?_⟩
     refine qD ?_
     first|exact mR.fC _|exact Hk
theorem Rv {α:Type} (sz:Nat) (enc:α->List b9) (s:gp α) (h:s.gg=false):gE sz enc s= .a8 false sz (s.al.map enc) .dm:=by unfold gE;rw [h]
structure Nh (t:kz) (x:vR):Prop where
 Y8:t.iV.al=x.qM
 Ru:t.fH.al=x.rR
 akM:t.iV.gg=false
 Y7:t.fH.gg=false
theorem Nh.akL {t:kz} {x:vR} (h:Nh t x):km t=km ⟨.mS x.qM, .mS x.rR⟩:=by
 unfold km y8;rw [Rv _ _ _ h.akM,Rv _ _ _ h.Y7,h.Y8,h.Ru];rfl
theorem Nh.Y6 {t:kz} {x:vR} (h:Nh t x) (th lk:Int):Nh (kl t th lk).1 (sH th lk x).1/\(kl t th lk).2=(sH th lk x).2:=by
 unfold kl sH;rw [h.Y8,h.Ru];cases x.qM.any λh=>decide (h=(⟨lk,th⟩:fK)) with
 |false=>exact ⟨h,rfl⟩
 |true=>
  dsimp only;cases x.rR.find? λw=>decide (w.gf=lk) with
  |none=>exact ⟨⟨rfl,h.Ru,rfl,h.Y7⟩,rfl⟩
  |some n=>exact ⟨⟨rfl,rfl,rfl,rfl⟩,rfl⟩
theorem Ni {α:Type} (p:α->Bool):∀ l:List α,(mV p l).length<=l.length/\(l.any p=true->(mV p l).length+1=l.length)
 |[]=>⟨aq _,λh=>by cases h⟩
 |a::l=>by
  unfold mV;have:=Ni p l;split
  .exact ⟨by simp,λ_=>rfl⟩
  .rename_i b;refine ⟨by simpa using this.1,λh=>?_⟩;rw [List.any_cons,cq] at h;rcases h with h|h
   .exact absurd h b
   .simpa using this.2 h
theorem Zb (th lk:Int) (x:vR):(sH th lk x).1.qM.length<=x.qM.length/\(sH th lk x).1.rR.length<=x.rR.length:=by
 unfold sH;cases h:x.qM.any λh=>decide (h=(⟨lk,th⟩:fK)) with
 |false=>exact ⟨aq _,aq _⟩
 |true=>
  dsimp only;have a:=(Ni _ _).2 h;cases x.rR.find? λw=>decide (w.gf=lk) with
  |none=>exact ⟨by show (mV _ x.qM).length<=_;omega,aq _⟩
  |some n=>exact ⟨by show (mV _ x.qM++[n]).length<=_;rw [au];simp only [aL,cv];omega,(Ni _ _).1⟩
structure Dg (th:Int) (t0:kz) (held:List fK) (N:Nat) (k:Nat) (x:vR) (p:gp fK):Prop where
 akC:k<=held.length
 Nf:∃ t,(held.take k).foldl (nV th) (t0, .g6)=(t,p)/\Nh t x
 Nb:x.qM.length<=N
 Nc:x.rR.length<=N
 Nd:p.al.length<=k
theorem Dg.akE {th:Int} {t0:kz} {l:List fK} {N k:Nat} {x:vR} {p:gp fK} (h:Dg th t0 l N k x p) (a:k<l.length) (n:¬l[k].ig=th):Dg th t0 l N (k+1) x p:=by
 obtain ⟨t,e,m⟩:=h.Nf;refine ⟨a,⟨t,?_,m⟩,h.Nb,h.Nc,c9 h.Nd⟩;rw [aD a,bX,e];exact ai n
theorem Dg.akD {th:Int} {t0:kz} {l:List fK} {N k:Nat} {x y:vR} {p:gp fK} (h:Dg th t0 l N k x p) (a:k<l.length) (f:l[k].ig=th) (g:sH th l[k].gf x=(y, .none)):Dg th t0 l N (k+1) y p:=by
 obtain ⟨t,e,m⟩:=h.Nf;have b:=m.Y6 th l[k].gf;have c:=Zb th l[k].gf x;rw [g] at b c;refine ⟨a,⟨(kl t th l[k].gf).1,?_,b.1⟩,av c.1 h.Nb,av c.2 h.Nc,c9 h.Nd⟩;rw [aD a,bX,e];show nV th (t,p) l[k]=_;unfold nV;rw [ak f];have d:=b.2;generalize kl t th l[k].gf=r at d ⊢;obtain ⟨i,j⟩:=r;cases d;rfl
theorem Dg.akF {th:Int} {t0:kz} {l:List fK} {N k:Nat} {x y:vR} {p:gp fK} {z:Int} (h:Dg th t0 l N k x p) (a:k<l.length) (f:l[k].ig=th) (g:sH th l[k].gf x=(y, .some z)):Dg th t0 l N (k+1) y (p.lR ⟨l[k].gf,z⟩):=by
 obtain ⟨t,e,m⟩:=h.Nf;have b:=m.Y6 th l[k].gf;have c:=Zb th l[k].gf x;rw [g] at b c;refine ⟨a,⟨(kl t th l[k].gf).1,?_,b.1⟩,av c.1 h.Nb,av c.2 h.Nc,by unfold gp.lR;rw [au];exact dF h.Nd⟩;rw [aD a,bX,e];show nV th (t,p) l[k]=_;unfold nV;rw [ak f];have d:=b.2;generalize kl t th l[k].gf=r at d ⊢;obtain ⟨i,j⟩:=r;cases d;rfl
theorem Dg.akG (th:Int) (q b:Bool) (a c:fK) (h l:List fK) (d:(a::h).length<=1048576) (e:(c::l).length<=1048576):Dg th ⟨⟨q,a::h⟩,gp.j7 ⟨b,c::l⟩ λw=>decide (w.ig=th)⟩ (a::h) 1048576 0 ⟨a::h,[],(c::l).filter λw=>!decide (w.ig=th),[]⟩ .g6:=by
 refine ⟨ar _,⟨_,rfl,rfl,rfl,?_,?_⟩,d,av (bn _ _) e,ar _⟩
 .cases q<;>rfl
 .cases b<;>rfl
structure Hw (th:Int) (t0:kz) (held:List fK) (wq:Bool) (k:Nat) (x:List fK):Prop where
 akH:k<=held.length
 Ng:∃ t,(held.take k).foldl (nV th) (t0, .g6)=(t, .g6)/\t.iV.al=x/\t.iV.gg=false/\t.fH=⟨wq,[]⟩
 Rt:x.length<=1048576
theorem Hw.akK (th:Int) (b q:Bool) (a:fK) (h:List fK) (c:(a::h).length<=1048576):Hw th ⟨⟨b,a::h⟩,gp.j7 ⟨q,[]⟩ λw=>decide (w.ig=th)⟩ (a::h) q 0 (a::h):=by
 refine ⟨ar _,⟨_,rfl,rfl,?_,?_⟩,c⟩
 .cases b<;>rfl
 .cases q<;>rfl
theorem Zd {t:kz} {x:List fK} {w:Bool} (a:t.iV.al=x) (c:t.iV.gg=false) (b:t.fH=⟨w,[]⟩) (th lk:Int):
  (kl t th lk).1.iV.al=(tG th lk x).1.1/\(kl t th lk).1.iV.gg=false/\(kl t th lk).1.fH=⟨w,[]⟩/\(kl t th lk).2=none/\(tG th lk x).2=none/\(tG th lk x).1.1.length<=x.length:=by
 unfold kl tG;rw [a,b];cases x.any λh=>decide (h=(⟨lk,th⟩:fK)) with
 |false=>exact ⟨a,c,b,rfl,rfl,aq _⟩
 |true=>exact ⟨rfl,rfl,rfl,rfl,rfl,(Ni _ _).1⟩
theorem Hw.akJ {th:Int} {t0:kz} {l:List fK} {w:Bool} {k:Nat} {x:List fK} (h:Hw th t0 l w k x) (a:k<l.length) (n:¬l[k].ig=th):Hw th t0 l w (k+1) x:=by
 obtain ⟨t,e,m⟩:=h.Ng;refine ⟨a,⟨t,?_,m⟩,h.Rt⟩;rw [aD a,bX,e];exact ai n
theorem Hw.akI {th:Int} {t0:kz} {l:List fK} {w:Bool} {k:Nat} {x:List fK} (h:Hw th t0 l w k x) (a:k<l.length) (i:l[k].ig=th):Hw th t0 l w (k+1) (tG th l[k].gf x).1.1:=by
 obtain ⟨t,e,m,j,n⟩:=h.Ng;obtain ⟨b,c,d,f,o,g⟩:=Zd m j n th l[k].gf;refine ⟨a,⟨(kl t th l[k].gf).1,?_,b,c,d⟩,av g h.Rt⟩;rw [aD a,bX,e];show nV th (t, .g6) l[k]=_;unfold nV;rw [ak i];generalize kl t th l[k].gf=r at f ⊢;obtain ⟨p,q⟩:=r;cases f;rfl
theorem akN (q w:Bool) (th:Int):er prog 274 [km ⟨⟨q,[]⟩,⟨w,[]⟩⟩, .ax .i64 th] (.dn [km (l6 ⟨⟨q,[]⟩,⟨w,[]⟩⟩ th).1,gE 2 fI (l6 ⟨⟨q,[]⟩,⟨w,[]⟩⟩ th).2]):=by
 have t:km ⟨⟨q,[]⟩,⟨w,[]⟩⟩= .eN [.a8 q 2 [] .dm, .a8 w 2 [] .dm]:=by
  unfold km y8;rw [Hg,Hg]
 rw [t];refine er.Gd jy m8 (fn:=f274) eI rfl eI rfl rfl ?_
 conv=>whnf
 refine fF.CR ?_;refine fF.wM jy m8 (fn:=f265) eI rfl eI rfl rfl ?_
 conv=>whnf
 refine ⟨0,_,_,_,rfl,qx.Bx (MV q) rfl,rfl,?_⟩
 conv=>whnf
 refine ⟨0,_,_,_,rfl,qx.Bx (MV w) rfl,rfl,?_⟩;refine cx ?_;refine fF.wM jy m8 (fn:=f300) eI rfl eI rfl rfl ?_
 conv=>whnf
 refine fF.L8 (es:=[(.ay 1, .dc 3 [.ax .i64 th])]) ⟨rfl,rfl,trivial⟩ rfl dd rfl rfl (XU th w [] (Nat.zero_le _)) ?_;rw [show k9 (λh:fK=>decide (h.ig=th)) []=-1 from rfl];refine cx ?_;refine iE.gY (X:=Unit) (λ_=>[(.ct 4, .bg (.c8 2 0)),(.ay 2, .dc 34 [.a8 true 1 [] .fW, .a8 true 1 [] .fW]),(.ct 6, .bg (.c8 15 0)),(.ct 8, .bg (.a8 true 1 [] .fW)),(.ct 30, .bg (.ax .i64 0)),(.ct 31, .bg (.ax .i64 0)),(.ay 15, .dc 415 [.a8 q 2 [] .fW, .a8 w 2 [] .fW])]) 16 (λ_=>True) (λ_=>0) dd () trivial ⟨rfl,rfl,rfl,rfl,rfl,rfl,rfl,rfl,rfl,rfl,rfl,rfl,rfl,rfl,trivial⟩ ?_;rintro ⟨⟩ _;refine gk ?_;refine cx ?_;rw [show km (l6 ⟨⟨q,[]⟩,⟨w,[]⟩⟩ th).1= .eN [.a8 q 2 [] .dm, .a8 w 2 [] .dm] from by cases w<;>cases q<;>rfl];exact .qA (.fj (mR.fC _) (.fj (mR.kd _ _ _) .kv))
theorem akO (h q:Bool) (c:fK) (w:List fK) (b:(c::w).length<=1048576) (th:Int):er prog 274 [km ⟨⟨h,[]⟩,⟨q,c::w⟩⟩, .ax .i64 th] (.dn [km (l6 ⟨⟨h,[]⟩,⟨q,c::w⟩⟩ th).1,gE 2 fI (l6 ⟨⟨h,[]⟩,⟨q,c::w⟩⟩ th).2]):=by
 have t:km ⟨⟨h,[]⟩,⟨q,c::w⟩⟩= .eN [.a8 h 2 [] .dm, .a8 false 2 ((c::w).map fI) .dm]:=by
  unfold km y8;rw [Hg,xb]
 rw [t];have d:=XV th true (c::w) b;refine er.Gd jy m8 (fn:=f274) eI rfl eI rfl rfl ?_
 conv=>whnf
 refine fF.CR ?_;refine fF.wM jy m8 (fn:=f265) eI rfl eI rfl rfl ?_
 conv=>whnf
 refine ⟨0,_,_,_,rfl,qx.Bx (MV h) rfl,rfl,?_⟩
 conv=>whnf
 have p:=Dd ((c::w).map fI) (dh _) (by rw [ap];exact b);rw [ap] at p;refine ⟨0,_,_,_,rfl,qx.xT p rfl,rfl,?_⟩;refine cx ?_;refine fF.xS (es:=[(.ay 12, .eY 370 (((c::w).map fI).flatten)),(.ay 1, .dc 3 [.ax .i64 th])]) (es':=[(.ay 12, .eY 370 ((((c::w).filter λa=>!decide (a.ig=th)).map fI).flatten)),(.ay 1, .dc 3 [.ax .i64 th])]) ⟨rfl,rfl,rfl,rfl,trivial⟩ rfl rfl (yQ rfl rfl rfl) (m:=16) dd rfl rfl (res:= .eP 12 0 2 ((c::w).filter λa=>!decide (a.ig=th)).length true) ?_ ?_
 .exact d
 conv=>whnf
 refine iE.gY (X:=Unit) (λ_=>[(.ct 4, .bg (.c8 2 0)),(.ay 2, .dc 34 [.a8 true 1 [] .fW, .a8 true 1 [] .fW]),(.ct 6, .bg (.c8 15 0)),(.ct 8, .bg (.a8 true 1 [] .fW)),(.ct 30, .bg (.ax .i64 0)),(.ct 31, .bg (.ax .i64 0)),(.ay 12, .eY 370 ((((c::w).filter λa=>!decide (a.ig=th)).map fI).flatten)),(.ay 15, .dc 415 [.a8 h 2 [] .fW, .eP 12 0 2 ((c::w).filter λa=>!decide (a.ig=th)).length true])]) 16 (λ_=>True) (λ_=>0) dd () trivial ⟨rfl,rfl,rfl,rfl,rfl,rfl,rfl,rfl,rfl,rfl,rfl,rfl,rfl,rfl,rfl,rfl,trivial⟩ ?_;rintro ⟨⟩ _;refine gk ?_;refine cx ?_;rw [show km (l6 ⟨⟨h,[]⟩,⟨q,c::w⟩⟩ th).1= .eN [.a8 h 2 [] .dm, .a8 false 2 (((c::w).filter λa=>!decide (a.ig=th)).map fI) .dm] from by cases q<;>cases h<;>rfl];exact BZ.B0 (.lM (BZ.Db (.lM (.qw (v:= .a8 h 2 [] .fW) rfl) (.lM (Hh (enc:=fI) (λ_=>rfl) (λ_=>rfl) rfl) .rf))) (.lM (.LF (.qw (v:= .a8 true 1 [] .fW) rfl) (mR.kd _ _ _)) .rf))
theorem akP (f c:Bool) (a:fK) (l:List fK) (z:(a::l).length<=1048576) (th:Int):er prog 274 [km ⟨⟨f,a::l⟩,⟨c,[]⟩⟩, .ax .i64 th] (.dn [km (l6 ⟨⟨f,a::l⟩,⟨c,[]⟩⟩ th).1,gE 2 fI (l6 ⟨⟨f,a::l⟩,⟨c,[]⟩⟩ th).2]):=by
 have H:km ⟨⟨f,a::l⟩,⟨c,[]⟩⟩= .eN [.a8 false 2 ((a::l).map fI) .dm, .a8 c 2 [] .dm]:=by
  unfold km y8;rw [xb,Hg]
 rw [H];refine er.Gd jy m8 (fn:=f274) eI rfl eI rfl rfl ?_
 conv=>whnf
 refine fF.CR ?_;refine fF.wM jy m8 (fn:=f265) eI rfl eI rfl rfl ?_
 conv=>whnf
 have g:=Dd ((a::l).map fI) (dh _) (by rw [ap];exact z);rw [ap] at g;refine ⟨0,_,_,_,rfl,qx.xT g rfl,rfl,?_⟩
 conv=>whnf
 refine ⟨0,_,_,_,rfl,qx.Bx (MV c) rfl,rfl,?_⟩;refine cx ?_;refine fF.wM jy m8 (fn:=f300) eI rfl eI rfl rfl ?_
 conv=>whnf
 refine fF.L8 (es:=[(.ay 1, .dc 3 [.ax .i64 th])]) ⟨rfl,rfl,trivial⟩ rfl dd rfl rfl (XU th c [] (Nat.zero_le _)) ?_;rw [show k9 (λh:fK=>decide (h.ig=th)) []=-1 from rfl];refine cx ?_;have j:((a::l).map fI).length=(a::l).length:=ap _;refine iE.gY (X:=Nat×List fK×List fK) (λs=>[(.ct 4, .bg (.c8 2 0)),(.ay 2, .dc 34 [.a8 true 1 [] .fW, .a8 true 1 [] .fW]),(.ct 3, .bg (.c8 1 0)),(.ct 6, .bg (.c8 15 0)),(.ct 7, .bg (.eW 270 [.c8 15 0] [])),(.ct 8, .bg (.a8 true 1 [] .fW)),(.ct 29, .bg (.a8 false 2 ((a::l).map fI) .dm)),(.ct 30, .bg (.ax .i64 (a::l).length)),(.ct 31, .bg (.ax .i64 s.1)),(.ay 1, .dc 3 [.ax .i64 th]),
   (.ay 9, .eY 370 (((s.2.1++s.2.2).map fI).flatten)),(.ay 15, .dc 415 [.eP 9 0 2 s.2.1.length true, .a8 c 2 [] .fW])]) 16
  (λs=>Hw th ⟨⟨f,a::l⟩,gp.j7 ⟨c,[]⟩ λw=>decide (w.ig=th)⟩ (a::l) c s.1 s.2.1) (λs=>(a::l).length - s.1) dd (0,a::l,[]) ?_ ⟨rfl,rfl,rfl,rfl,rfl,rfl,rfl,rfl,rfl,rfl,rfl,rfl,rfl,rfl,?_,rfl,rfl,rfl,rfl,rfl,?_,af⟩ ?_
 .exact Hw.akK th f c a l z
 .show gC.bg (b9.ax .i64 (((a::l).map fI).length:Nat))=_;rw [j]
 .show gC.eY _ _=gC.eY _ _;rw [aH]
 rintro ⟨k,y,p⟩ I;dsimp only at I ⊢;have K:=I.akH;have x:=I.Rt;refine gk ?_;refine ab (λh=>?_) λh=>?_
 .have d:k<(a::l).length:=om;have J:=pV fI d;have i:=λq=>I.akJ d q
  have n:=λq=>I.akI d q
  have L:IntKind.i64.wrap ((k:Int)+1)=((k+1:Nat):Int):=by rw [fq om om];rfl
  generalize (a::l)[k]=b at*;refine cx ?_;refine ⟨λh=>?_,λh=>?_⟩
  .have h:¬b.ig=th:=by simpa using h
   conv=>whnf
   refine ⟨(k+1,y,p),i h,by show (a::l).length - (k+1)<(a::l).length - k;omega,rfl,rfl,rfl,rfl,rfl,rfl,rfl,rfl,rfl,rfl,rfl,rfl,rfl,rfl,rfl,rfl,?_,af⟩;exact ix
  .have h:b.ig=th:=by simpa using h
   have E:=Zc c y p th b.gf x;have F:=n h;have A:(tG th b.gf y).2=none:=by
    obtain ⟨t,e,o,r,u⟩:=I.Ng;exact (Zd o r u th b.gf).2.2.2.2.1
   conv=>whnf
   refine fF.xS (es:=J8 c y p) (es':=J8 c (tG th b.gf y).1.1 (Hx th b.gf y p)) (res:=Na (tG th b.gf y).2) (m:=16) ⟨rfl,rfl,rfl,rfl,trivial⟩ rfl rfl (yQ rfl rfl rfl) dd rfl rfl ?_ ?_
   .exact E
   rw [A]
   conv=>whnf
   refine ⟨(k+1,(tG th b.gf y).1.1,Hx th b.gf y p),F,by show (a::l).length - (k+1)<(a::l).length - k;omega,rfl,rfl,rfl,rfl,rfl,rfl,rfl,rfl,rfl,rfl,rfl,rfl,rfl,rfl,rfl,rfl,?_,af⟩;exact ix
 .obtain rfl:k=(a::l).length:=om;obtain ⟨t,e,o,r,u⟩:=I.Ng;rw [aN] at e;have B:l6 ⟨⟨f,a::l⟩,⟨c,[]⟩⟩ th=(t, .g6):=e;have D:km t=km ⟨.mS y,⟨c,[]⟩⟩:=by
   unfold km y8;rw [Rv _ _ _ r,o,u];rfl
  rw [B];dsimp only;rw [D]
  conv=>whnf
  exact BZ.B0 (.lM (Za (hp:=p) rfl) (.lM (.LF (.qw (v:= .a8 true 1 [] .fW) rfl) (mR.kd _ _ _)) .rf))
theorem akQ (i A:Bool) (a:fK) (l:List fK) (Q:(a::l).length<=1048576) (c:fK) (d:List fK) (N:(c::d).length<=1048576) (th:Int):er prog 274 [km ⟨⟨i,a::l⟩,⟨A,c::d⟩⟩, .ax .i64 th] (.dn [km (l6 ⟨⟨i,a::l⟩,⟨A,c::d⟩⟩ th).1,gE 2 fI (l6 ⟨⟨i,a::l⟩,⟨A,c::d⟩⟩ th).2]):=by
 have T:km ⟨⟨i,a::l⟩,⟨A,c::d⟩⟩= .eN [.a8 false 2 ((a::l).map fI) .dm, .a8 false 2 ((c::d).map fI) .dm]:=by
  unfold km y8;rw [xb,xb]
 rw [T];have E:=XV th true (c::d) N;refine er.Gd jy m8 (fn:=f274) eI rfl eI rfl rfl ?_
 conv=>whnf
 refine fF.CR ?_;refine fF.wM jy m8 (fn:=f265) eI rfl eI rfl rfl ?_
 conv=>whnf
 have B:=Dd ((a::l).map fI) (dh _) (by rw [ap];exact Q);rw [ap] at B;refine ⟨0,_,_,_,rfl,qx.xT B rfl,rfl,?_⟩
 conv=>whnf
 have D:=Dd ((c::d).map fI) (dh _) (by rw [ap];exact N);rw [ap] at D;refine ⟨0,_,_,_,rfl,qx.xT D rfl,rfl,?_⟩;refine cx ?_;refine fF.xS (es:=[(.ay 12, .eY 370 (((c::d).map fI).flatten)),(.ay 1, .dc 3 [.ax .i64 th])]) (es':=[(.ay 12, .eY 370 ((((c::d).filter λa=>!decide (a.ig=th)).map fI).flatten)),(.ay 1, .dc 3 [.ax .i64 th])]) ⟨rfl,rfl,rfl,rfl,trivial⟩ rfl rfl (yQ rfl rfl rfl) (m:=16) dd rfl rfl (res:= .eP 12 0 2 ((c::d).filter λa=>!decide (a.ig=th)).length true) ?_ ?_
 .exact E
 conv=>whnf
 refine iE.CI 8 370 2 rfl rfl (.inr rfl) ?_;have F:((a::l).map fI).length=(a::l).length:=ap _;refine iE.gY (X:=Nat×vR×gp fK) (λs=>[(.ct 4, .bg (.c8 2 0)),(.ay 2, .dc 34 [.a8 true 1 [] .fW, .a8 true 1 [] .fW]),(.ct 3, .bg (.c8 1 0)),(.ct 6, .bg (.c8 15 0)),(.ct 7, .bg (.eW 270 [.c8 15 0] [])),(.ct 8, .bg (.a8 s.2.2.gg 2 (s.2.2.al.map fI) (.je 37))),(.eT 37, .eU 370 2 s.2.2.al.length),(.ct 29, .bg (.a8 false 2 ((a::l).map fI) .dm)),(.ct 30, .bg (.ax .i64 (a::l).length)),(.ct 31, .bg (.ax .i64 s.1)),(.ay 1, .dc 3 [.ax .i64 th]),
   (.ay 9, .eY 370 (((s.2.1.qM++s.2.1.J6).map fI).flatten)),(.ay 12, .eY 370 (((s.2.1.rR++s.2.1.J7).map fI).flatten)),(.ay 15, .dc 415 [.eP 9 0 2 s.2.1.qM.length true, .eP 12 0 2 s.2.1.rR.length true])]) 38
  (λs=>Dg th ⟨⟨i,a::l⟩,gp.j7 ⟨A,c::d⟩ λw=>decide (w.ig=th)⟩ (a::l) 1048576 s.1 s.2.1 s.2.2) (λs=>(a::l).length - s.1) dd (0,⟨a::l,[],(c::d).filter λw=>!decide (w.ig=th),[]⟩, .g6) ?_ ⟨rfl,rfl,rfl,rfl,rfl,rfl,rfl,rfl,rfl,rfl,rfl,rfl,rfl,rfl,rfl,rfl,?_,rfl,rfl,rfl,rfl,rfl,?_,rfl,?_,af⟩ ?_
 .exact Dg.akG th i A a c l d Q N
 .show gC.bg (b9.ax .i64 (((a::l).map fI).length:Nat))=_;rw [F]
 .show gC.eY _ _=gC.eY _ _;rw [aH]
 .show gC.eY _ _=gC.eY _ _;rw [aH]
 rintro ⟨k,x,p⟩ I;dsimp only at I ⊢;have Y:=I.akC;have O:=I.Nb;have P:=I.Nc;have U:=I.Nd;refine gk ?_;refine ab (λh=>?_) λh=>?_
 .have f:k<(a::l).length:=om;have W:=pV fI f;have j:=λq=>I.akE f q
  have n:=λq y=>I.akD (y:=y) f q
  have u:=λq y z=>I.akF (y:=y) (z:=z) f q
  have Z:IntKind.i64.wrap ((k:Int)+1)=((k+1:Nat):Int):=by rw [fq om om];rfl
  generalize (a::l)[k]=b at*;refine cx ?_;refine ⟨λh=>?_,λh=>?_⟩
  .have h:¬b.ig=th:=by simpa using h
   conv=>whnf
   refine ⟨(k+1,x,p),j h,by show (a::l).length - (k+1)<(a::l).length - k;omega,rfl,rfl,rfl,rfl,rfl,rfl,rfl,rfl,rfl,rfl,rfl,rfl,rfl,rfl,rfl,rfl,rfl,rfl,?_,af⟩;exact ix
  .have h:b.ig=th:=by simpa using h
   have R:=Y3 x th b.gf O P;have H:=n h;have L:=u h;generalize sH th b.gf x=r at*;obtain ⟨y,o⟩:=r
   conv=>whnf
   refine fF.xS (es:=Hv x) (es':=Hv y) (res:=Na o) (m:=16) ⟨rfl,rfl,rfl,rfl,rfl,rfl,trivial⟩ rfl rfl (yQ rfl rfl rfl) dd rfl rfl ?_ ?_
   .exact R
   cases o with
   |none=>
    have H:=H y rfl
    conv=>whnf
    refine ⟨(k+1,y,p),H,by show (a::l).length - (k+1)<(a::l).length - k;omega,rfl,rfl,rfl,rfl,rfl,rfl,rfl,rfl,rfl,rfl,rfl,rfl,rfl,rfl,rfl,rfl,rfl,rfl,?_,af⟩;exact ix
   |some z=>
    have L:=L y z rfl;have g:(p.al.map fI).length=p.al.length:=ap _;have J:(p.al++[(⟨b.gf,z⟩:fK)]).map fI=p.al.map fI++[fI ⟨b.gf,z⟩]:=aU;have K:(p.al++[(⟨b.gf,z⟩:fK)]).length=p.al.length+1:=by rw [au];rfl
    conv=>whnf
    refine ⟨⟨g.symm,ji (by rw [g];show p.al.length+1<=_;omega) dd⟩,?_⟩
    conv=>whnf
    refine ⟨(k+1,y,p.lR ⟨b.gf,z⟩),L,by show (a::l).length - (k+1)<(a::l).length - k;omega,rfl,rfl,rfl,rfl,rfl,rfl,rfl,rfl,rfl,rfl,?_,rfl,?_,rfl,rfl,rfl,rfl,rfl,?_,af⟩
    .show gC.bg (b9.a8 (p.gg && false) 2 (p.al.map fI++[fI ⟨b.gf,z⟩]) (.je 37))=gC.bg (b9.a8 (false && _) 2 ((p.al++[(⟨b.gf,z⟩:fK)]).map fI) (.je 37));rw [J,cf,cC]
    .show gC.eU _ 2 ((p.al.map fI).length+1)=gC.eU _ 2 (p.al++[(⟨b.gf,z⟩:fK)]).length;rw [g,K]
    .exact ix
 .obtain rfl:k=(a::l).length:=om;obtain ⟨t,e,S⟩:=I.Nf;rw [aN] at e;have E:l6 ⟨⟨i,a::l⟩,⟨A,c::d⟩⟩ th=(t,p):=e;rw [E];dsimp only;rw [S.akL]
  conv=>whnf
  exact BZ.B0 (.lM (Y9 x rfl rfl) (.lM (.qw (v:= .a8 p.gg 2 (p.al.map fI) (.je 37)) rfl) .rf))
theorem akX (t:kz) (th:Int) (d:t.iV.al.length<=1048576) (e:t.fH.al.length<=1048576):er prog 274 [km t, .ax .i64 th] (.dn [km (l6 t th).1,gE 2 fI (l6 t th).2]):=by
 obtain ⟨⟨q,h⟩,⟨b,w⟩⟩:=t;cases h with
 |nil=>
  cases w with
  |nil=>exact akN q b th
  |cons c w=>exact akO q b c w e th
 |cons a h=>
  cases w with
  |nil=>exact akP q b a h d th
  |cons c w=>exact akQ q b a h d c w e th
end Go.Proofs.YtffboamedcmpaaaGreatDoor
namespace Gw
section
variable {α β:Type} {enc:α->List β} {sz:Nat}
theorem akZ {mem es:List β} {k n j:Nat} {x:β} (h:(mem.drop k).take n=es) (a:es[j]? =some x):mem[k+j]? =some x:=by
 subst h;rw [bq] at a
 by_cases b:j<n
 .rw [ak b,br] at a;exact a
 .rw [ai b] at a;cases a
theorem ak0 {A B p s:List β} {y x:β}:(A++((p++y::s)++B)).take (A.length+p.length)++[x]++(A++((p++y::s)++B)).drop (A.length+p.length+1)=A++((p++x::s)++B):=by
 have e:(A++((p++y::s)++B))=(A++p)++(y::(s++B)):=by simp only [aA,bP]
 have h:(A++p).length=A.length+p.length:=au;rw [e,cg h,<-h,<-cD,dK rfl];simp only [aA,bP,bE,List.drop_succ_cons,List.drop_zero]
theorem J9 (n:∀ a,(enc a).length=sz) {l:List α} {i k:Nat} (h:i<l.length) {b:α} {p s:List β} {y x:β} (f:enc l[i]=p++y::s) (g:enc b=p++x::s) (j:k=i*sz+p.length):
  ((l.map enc).flatten).take k++[x]++((l.map enc).flatten).drop (k+1)=((l.set i b).map enc).flatten:=by
 subst j;have e:l=l.take i++l[i]::l.drop (i+1):=by rw [<-aY h,bJ]
 have m:(((l.take i).map enc).flatten).length=i*sz:=by rw [tE n,aT,cj (cU h)]
 have c:(l.map enc).flatten=((l.take i).map enc).flatten++(enc l[i]++((l.drop (i+1)).map enc).flatten):=by
  conv=>lhs;rw [e,JR,He]
 have d:((l.set i b).map enc).flatten=((l.take i).map enc).flatten++(enc b++((l.drop (i+1)).map enc).flatten):=by
  rw [List.set_eq_take_append_cons_drop,ak h,JR,He]
 rw [c,d,f,g,<-m];exact ak0
theorem Nj (s:∀ a,(enc a).length=sz) {l:List α} {i j:Nat} (h:i<l.length) {x:β} (b:(enc l[i])[j]? =some x):((l.map enc).flatten)[i*sz+j]? =some x:=akZ (za s h) b
end
end Gw
namespace Go.Proofs.YtffboamedcmpaaaGreatDoor
open Gw
open Go.Am
open Go.Proofs.Tryz Tryz
theorem Rw {α:Type} {enc:α->List b9} {s:gp α} (h:s.gg=true):s.al.map enc=[]:=by rw [gp.Af h];rfl
theorem Zf (g:py) (th:Int) (h:g.iI.al.length<=1048576):er prog 120 [qh g, .ax .i64 th] (.eD (mo g th)):=by
 have i:=akx th g.iI.gg g.iI.al h;unfold mo;refine fS func120 ?_;exact jf
def Rx (m:Int) (x:kF):Int:=max m x.pz
theorem ak6 (g:py) (f:g.iI.al.length<=1048576):er prog 189 [qh g] (.dn [.ax .i64 (((ED g).map (·.1)).getD 0), .ax .i64 (((ED g).map (·.2)).getD 0), .eD (ED g).isSome]):=by
 obtain ⟨e,⟨q,l⟩⟩:=g;cases l with
 |nil=>
  refine fS func189 ?_
  conv=>whnf
  refine ⟨λ_=>?_,λh=>absurd (show false=true from h.symm) dd⟩;exact fu
 |cons a l=>
  have c:((a::l).map ja).length=(a::l).length:=ap _;dsimp only at f;rw [show ED ⟨e,⟨q,a::l⟩⟩=some (a.js,(a::l).foldl Rx a.pz) from rfl];refine fS func189 ?_
  conv=>whnf
  refine ⟨λh=>?_,λ_=>?_⟩
  .have h:((((a::l).map ja).length:Int)==0)=true:=h;rw [c] at h;exact absurd (eq_of_beq h) (by trivial)
  conv=>whnf
  refine ⟨_,⟨dd,rfl⟩,?_⟩
  conv=>whnf
  refine iE.gY (X:=Nat) (λk=>[(.ct 5, .bg (.ax .i64 (((a::l).take k).foldl Rx a.pz))),(.ct 18, .bg (gE 2 ja ⟨q,a::l⟩)),(.ct 19, .bg (.ax .i64 (a::l).length)),(.ct 20, .bg (.ax .i64 k)),(.ay 0, .dc 37 (EL ⟨e,⟨q,a::l⟩⟩)),(.ct 1, .bg (.c8 0 0))]) 1
   (λk=>k<=(a::l).length) (λk=>(a::l).length - k) dd 0 (ar _) ⟨rfl,rfl,rfl,rfl,?_,af⟩ ?_
  .show gC.bg (b9.ax .i64 (((a::l).map ja).length:Nat))=_;rw [c]
  rintro k i;refine gk ?_;refine ab (λh=>?_) λh=>?_
  .have t:k<(a::l).length:=om;have d:=pV ja t;have j:=aD t;have w:IntKind.i64.wrap ((k:Int)+1)=((k+1:Nat):Int):=by grind [fq]
   generalize x:(a::l)[k]=b at*
   conv=>whnf
   refine ⟨_,⟨om,d⟩,?_⟩
   conv=>whnf
   refine ⟨k+1,om,by grind,⟨?_,rfl,rfl,rfl,rfl,rfl,?_,af⟩⟩
   .show gC.bg (b9.ax .i64 _)=gC.bg (b9.ax .i64 (((a::l).take (k+1)).foldl Rx a.pz));rw [j,bX];rfl
   .exact ix
  .obtain rfl:k=(a::l).length:=om;rw [aN]
   conv=>whnf
   refine ⟨_,⟨dd,rfl⟩,?_⟩;exact fu
theorem ak4 (q:Bool) (kept:Int) (l:List kF) (w:kF):qh ⟨kept,gp.lR ⟨q,l⟩ w⟩= .eN [.ax .i64 kept, .a8 false 2 (l.map ja++[ja w]) .dm]:=by
 unfold qh EL gE gp.lR gp.gg;simp_all
theorem ak7 (g:py) (th upto:Int) (b:g.iI.al.length<=1048576) (a:upto<=g.mC):er prog 238 [qh g, .ax .i64 th, .ax .i64 upto] (.dn [qh g, .eD true]):=by
 obtain ⟨k,⟨q,l⟩⟩:=g;dsimp only at*;have c:=aim (gp.gg ⟨q,l⟩) (l.map ja) (Rw (s:=⟨q,l⟩)) (by simp_all);refine ic func238 ?_;refine cx ?_;refine ⟨λ_=>?_,λh=>absurd a (ag h)⟩;exact fu
theorem ak8 (g:py) (th upto:Int) (f:g.iI.al.length<=1000000) (h:¬upto<=g.mC) (d:mo g th=false):er prog 238 [qh g, .ax .i64 th, .ax .i64 upto] (.dn [qh ⟨g.mC,g.iI.lR ⟨th,upto⟩⟩, .eD false]):=by
 obtain ⟨k,⟨q,l⟩⟩:=g;dsimp only at*;have b:k9 (λw:kF=>decide (w.js=th)) l=-1:=by
  grind [mo,QP]
 rw [ak4];cases l with
 |nil=>
  have i:=akw th q [] (ar _);rw [show qh ⟨k,⟨q,[]⟩⟩= .eN [.ax .i64 k, .a8 q 2 [] .dm] from by unfold qh EL;rw [Hg]];refine ic func238 ?_
  conv=>whnf
  refine fF.L9 (ail q) rfl ?_
  conv=>whnf
  refine kD h ?_;refine j5 ?_;rw [b];refine cx ?_;refine ⟨ji (cO rfl) dd,?_⟩
  conv=>whnf
  cases q with
  |true=>exact mR.fC _
  |false=>exact mR.fC _
 |cons a l=>
  have i:=Y0 th true (a::l) [] om;have p:=QZ ((a::l).map ja) (dh _) (by grind);rw [ap] at p;rw [b,aH] at i;rw [show qh ⟨k,⟨q,a::l⟩⟩= .eN [.ax .i64 k, .a8 false 2 ((a::l).map ja) .dm] from by unfold qh EL;rw [xb]];refine ic func238 ?_
  conv=>whnf
  refine fF.Bv p rfl ?_
  conv=>whnf
  refine kD h ?_;refine j5 ?_;refine ⟨(a::l).map ja,⟨ap _,λc e=>?_,rfl,AH (λ_=>rfl) _,ji (by grind) dd⟩,?_⟩
  .obtain ⟨x,_,rfl⟩:=aE.1 e;rfl
  exact fu
theorem Zg (th upto:Int):∀ (l:List kF) {i:Nat} (c:i<l.length),(∀ a∈l.take i,decide (a.js=th)=false)->decide (l[i].js=th)=true->
  EE th upto l=l.set i ⟨l[i].js,max l[i].pz upto⟩
 |a::l,0,_,_,h=>by
  have h:=ah h;exact ak h
 |a::l,i+1,c,n,h=>by
  have d:=ag (n a (by simp));refine (ai d).trans ?_;exact congrArg (a::·) (Zg th upto l (Nat.lt_of_succ_lt_succ c) (λb e=>n b (by simp [e])) h)
theorem ak5 {σ:eK} {l:List kF} {i:Nat} {b:kF} {m:List b9} (S:m=((l.set i b).map ja).flatten) (h:σ (.ay 6)= .eY 331 m):Am.oI σ (.eP 6 0 2 l.length true) (.a8 false 2 ((l.set i b).map ja) .dm):=by
 subst S;have a:=Hh (enc:=ja) (sz:=2) (full:=true) (λ_=>rfl) (λ_=>rfl) h;simp_all
theorem ak9 (g:py) (th upto:Int) (B:g.iI.al.length<=1000000) (z:¬upto<=g.mC) (d:mo g th=true):er prog 238 [qh g, .ax .i64 th, .ax .i64 upto] (.dn [qh ⟨g.mC,⟨g.iI.ie,EE th upto g.iI.al⟩⟩, .eD false]):=by
 obtain ⟨e,⟨q,l⟩⟩:=g;unfold mo at d;dsimp only at*;obtain ⟨a,c,rfl⟩:∃ a c,l=a::c:=by
  cases l with
  |nil=>cases d
  |cons a c=>simp_all
 have o:=Y0 th true (a::c) [] om;have r:=QZ ((a::c).map ja) (dh _) (by grind);rw [ap] at r;rw [show qh ⟨e,⟨q,a::c⟩⟩= .eN [.ax .i64 e, .a8 false 2 ((a::c).map ja) .dm] from by unfold qh EL;rw [xb]];rcases EP (λw:kF=>decide (w.js=th)) (a::c) with ⟨m,n⟩|⟨i,h,m,n,f⟩
 .rw [bD] at d;obtain ⟨x,t,y⟩:=d;rw [n x t] at y;cases y
 rw [m] at o;rw [Zg th upto (a::c) h n f];refine ic func238 ?_
 conv=>whnf
 refine fF.Bv r rfl ?_
 conv=>whnf
 refine kD z ?_
 conv=>whnf
 rw [aH] at o;refine j5 ?_;have L:=Nj (enc:=ja) (sz:=2) (λ_=>rfl) h (j:=1) rfl;have R:=EN (enc:=ja) (sz:=2) (λ_=>rfl) h;have S:=J9 (enc:=ja) (sz:=2) (λ_=>rfl) h (b:=⟨(a::c)[i].js,max (a::c)[i].pz upto⟩) (p:=[.ax .i64 (a::c)[i].js]) (s:=[]) rfl rfl (k:=i*2+1) rfl;generalize t:(a::c)[i]=b at*;have u:0+(i:Int).toNat*2=i*2:=om;refine cx ?_;rw [u];refine ⟨_,L,?_⟩;refine cx ?_;rw [u];refine cx ?_;have A:qh ⟨e,⟨q,(a::c).set i ⟨b.js,max b.pz upto⟩⟩⟩= .eN [.ax .i64 e, .a8 false 2 (((a::c).set i ⟨b.js,max b.pz upto⟩).map ja) .dm]:=by
  unfold qh EL;cases i with
  |zero=>grind [xb]
  |succ j=>grind [xb]
 rw [A];exact BZ.B0 (.lM (BZ.Db (.lM (.qw (v:= .ax .i64 e) rfl) (.lM (ak5 S rfl) .rf))) (.lM (.qw (v:= .fD) rfl) .rf))
end Go.Proofs.YtffboamedcmpaaaGreatDoor
namespace Go.Am
open Go.RowKit Go.Proofs
section
variable {P:Program} {T:iw} {σ:eK}
theorem iE.alc {r:Option Nat} {nt lo n m:Nat} {c:Code} {K:Exit->eK->Nat->Prop} {es:List (fQ×gC)} (k f id:Nat) {q0 q1:Bool} {sz:Nat} {l els:List (List b9)} {R bt:TypeId} (he:oJ σ m es) (h0:lo<=m) (hsafe:Ep es=true)
  (hs:σ (.ay k)= .dc R [.a8 q0 sz l (.hJ f), .a8 q1 sz els (.hJ id)]) (hkm:k<m) (hrow0:σ (.eT f)= .eU bt sz l.length) (hrow:σ (.eT id)= .eU bt sz els.length) (hid0:f<m) (hne0:f≠id) (hid:lo<=id) (hne:els≠[])
  (hels0:∀ O∈l,∀ x∈O,qB x=true) (hels:∀ O∈els,∀ x∈O,qB x=true)
  (h:iE P r nt lo c (eJ ((.ay k, .dc R [.a8 q0 sz l (.hJ f), .eP m 0 sz els.length true])::(.ay m, .eY bt els.flatten)::(.eT f, .eU bt sz l.length)::es)) (m+1) K):iE P r nt lo c σ n K:=by
 refine ⟨λb t a w hl hsim=>h.nM b t a w hl ?_⟩;obtain ⟨g,H,hf,hE,hn⟩:=hsim;obtain ⟨q1',q2⟩:=PX hsafe;obtain ⟨ck,hk1,hk2,hk3,hk4⟩:=H.iR k (by rw [hs];rfl);obtain ⟨Q,ak1,ak2,ak3⟩:=H.sc k R _ ck hs hk1;have ak2':Q.length=2:=ak2;obtain ⟨v0,v1,rfl⟩:∃ v0 v1,Q=[v0,v1]:=by
  match Q,ak2' with
  |[a,b],_=>simp_all
 have hslot:=ak3 1 _ v1 rfl rfl;have hslot0:=ak3 0 _ v0 rfl rfl;obtain ⟨ad,cap,hv,hp,ht⟩:=hslot.nq;obtain ⟨bk,N,t1,t2,t3⟩:=ht;obtain ⟨bk',r1,r2⟩:=H.ln id bt sz els.length hrow;rw [r1] at t1;obtain ⟨e1,e2⟩:bk'=bk/\els.length=N:=by simp_all
 subst e1 e2;have hpos:0<els.length:=cm.2 hne;rcases t3 rfl with ⟨_,e⟩|⟨c1,bt',rfl,rfl,hshape⟩
 .omega
 obtain ⟨a1,a2,a3,a4,a5,arr,z,a6,a7⟩:=r2 c1 rfl;obtain ⟨bk0,s1,s2⟩:=H.ln f bt sz l.length hrow0;have hbk0:∀ c,bk0=some c->c≠c1:=λc hc e=>by
  grind
 have hnew:∀ o,¬t.DY.fP c1 o:=by
  rcases hE.zQ id c1 _ r1 with ⟨N0,e⟩|e
  .have:=t.IG id _ e;omega
  .exact e
 let J:gX:=⟨λk o=>g.fP k o/\k≠c1,λi=>if i=m then some c1 else if i<m then g.fk i else none,λi=>if i<m/\i≠id then g.gF i else none⟩
 have I:∀ i k,i<m->g.fk i=some k->J.fk i=some k:=λi k hi s=>by grind
 have A:∀ i k,J.fk i=some k->(i=m/\k=c1)\/(i<m/\g.fk i=some k):=λi k s=>by
  grind
 have row0:J.gF f=some (bk0,l.length):=by grind
 let d:eK:=eJ ((.ay k, .dc R [.a8 q0 sz l (.hJ f), .eP m 0 sz els.length true])::(.ay m, .eY bt els.flatten)::(.eT f, .eU bt sz l.length)::es)
 have sk:d (.ay k)= .dc R [.a8 q0 sz l (.hJ f), .eP m 0 sz els.length true]:=by simp only [d,eJ];rw [lX]
 have sm:d (.ay m)= .eY bt els.flatten:=by simp only [d,eJ];grind [g9,lX]
 have sb:∀ i,i≠m->i≠k->d (.ay i)=eJ es (.ay i):=λi hi B=>by simp only [d,eJ];rw [g9 (by grind),g9 (by grind),g9 (by intro e;cases e)]
 have sr0:d (.eT f)= .eU bt sz l.length:=by simp only [d,eJ];grind [g9,lX]
 have sr:∀ i,i≠f->d (.eT i)= .fB:=λi hi=>by simp only [d,eJ];grind [g9]
 have sbk:∀ i,eJ es (.ay i)≠ .fB->eJ es (.ay i)=σ (.ay i)/\i<m/\yM m (σ (.ay i))=true:=λi hne=>by
  rcases he.xJ (.ay i) with E|⟨E,h2,h3⟩
  .exact absurd E hne
  .exact ⟨E,ki h2,h3⟩
 have isb:∀ i,(eJ es (.ay i)).jb=true->eJ es (.ay i)≠ .fB:=λi hl e=>by rw [e] at hl;cases hl
 have S:∀ i,i≠m->(d (.ay i)).jb=true->(σ (.ay i)).jb=true/\i<m:=λi u hl=>by
  by_cases B:i=k
  .subst B;exact ⟨by rw [hs];rfl,hkm⟩
  grind
 have harr:arr.length=cap*sz:=by
  grind [World.shape?]
 cases hp with
 |mG vals hnil hc hsz ha hone hrep=>
 have hcells:∀ (p:Nat) (x:b9) (v:Value),els.flatten[p]? =some x->arr[p]? =some v->gb w J.fP x v:=λp x v D hv=>by
  obtain ⟨O,f1,f2,f3⟩:=FV sz els hsz p x D;obtain ⟨blk,base,g1',g2',g3'⟩:=ha _ O _ x f1 f2;cases g1';rw [bZ,f3] at g3';have hcv:w.cell? ⟨c1,p,none⟩=some v:=by grind [ru]
  rw [hcv] at g3';cases g3';exact (hrep _ O _ x f1 f2).GB (hels O (bh f1) x (bh f2))
 have W:eH w J (.a8 q0 sz l (.hJ f)) v0:=by
  obtain ⟨ad0,cap0,hv0,hp0,ht0⟩:=hslot0.nq;obtain ⟨bk0',N0,y1,y2,y3⟩:=ht0;rw [s1] at y1;obtain ⟨e1,e2⟩:bk0=bk0'/\l.length=N0:=by grind
  subst e1 e2;rw [hv0];refine .m7 ?_ ⟨bk0,_,row0,y2,y3⟩;cases hp0 with
  |mG vals0 hnil0 hc0 hsz0 ha0 hone0 W=>
   refine .mG vals0 hnil0 hc0 hsz0 (λi O j x E h2=>?_) hone0 (λi O j x E h2=>(W i O j x E h2).GB (hels0 O (bh E) x (bh h2)));obtain ⟨blk,base,g1',g2',g3'⟩:=ha0 i O j x E h2;grind
 refine ⟨J,fl.qs H.jF (λk o s=>H.lv k o s.1) (λk o s=>⟨H.pq k o s,λe=>by subst e;rcases a1 with a1|a1;exact absurd (b.Ox _ o s) om;exact b.TG _ o s a1⟩) (λk o s hlt D=>H.oE k o s.1 hlt D) (λi k s=>?_) (λi x D=>?_) (λi k s=>?_) (λi k N s=>?_)
  (λi hl=>?_) (λi k' hl s=>?_) (λi j k hi hj B hjk=>?_) (λi Y k' hY s=>?_) (λi t' sz' N hs'=>?_),⟨hf.qU,hf.sg,λi hi=>?_⟩,⟨⟨λk o s=>?_,λi k s=>?_,λi bk N U=>?_,λi k N U=>?_⟩,hE.wA,hE.yz,hE.wy⟩,om⟩
 .grind
 .grind
 .rcases A i k s with ⟨_,e⟩|⟨_,e⟩
  .rw [e];exact a2
  .exact H.ko i k e
 .simp only [J] at s;split at s
  .exact H.mc i k N s
  .cases s
 .by_cases u:i=m
  .grind
  .obtain ⟨Z,u2⟩:=S i u hl;obtain ⟨k,v1,v2,v3,v4⟩:=H.iR i Z;grind
 .by_cases u:i=m
  .subst u;rcases A i k' s with ⟨_,e⟩|⟨e,_⟩
   .subst e;show qP w J k' (d (.ay i));rw [sm];exact ⟨arr,z,a6,by rw [pK sz els hsz,harr];exact bI _ hc,a7,hcells⟩
   .omega
  .by_cases B:i=k
   .subst B;rcases A i k' s with ⟨e,_⟩|⟨_,F⟩
    .exact absurd e u
    rw [hk1] at F;cases F;show qP w J ck (d (.ay i));rw [sk];refine ⟨[v0,v1],ak1,rfl,λp x v D hv'=>?_⟩
    match p,D,hv' with
    |0,D,hv'=>grind
    |1,D,hv'=>
     cases D;cases hv';rw [hv];exact .oV (by simp [J]) (λ_=>rfl) rfl hc (λ_=>⟨rfl,rfl,bt',hshape⟩)
    |p+2,D,_=>simp at D
   .have hl':(eJ es (.ay i)).jb=true:=by grind
    obtain ⟨Z,u2,u3⟩:=sbk i (isb i hl');rcases A i k' s with ⟨e,_⟩|⟨_,F⟩
    .exact absurd e u
    show qP w J k' (d (.ay i));rw [sb i u B];have L:=H.po F;have y:=q1' (.ay i);rw [Z] at y ⊢;cases D:σ (.ay i) with
    |dc t' cells=>
     rw [D] at L y u3;obtain ⟨arr',w1,w2,w3⟩:=L;exact ⟨arr',w1,w2,λj x v E h2=>(w3 j x v E h2).Me (BC y j x E) (qX u3 j x E) I⟩
    |mP s' pos=>rw [D] at L;exact L
    |iD X=>
     rw [D] at L y u3;cases X with
     |jq clock es'=>cases y
     |sZ k' since seen last=>
      obtain ⟨q,w1,w2⟩:=L;exact ⟨q,I _ _ (ki u3) w1,w2⟩
    |eY _ _=>rw [D] at y;cases y
    |kn=>rw [D] at y;cases y
    |_=>trivial
 .by_cases u:i=m
  .grind
  .obtain ⟨Z,u2⟩:=S i u hi;rcases A i k B with ⟨e,_⟩|⟨_,F⟩
   .exact absurd e u
   by_cases hjm:j=m
   .grind
   .obtain ⟨v1,v2⟩:=S j hjm hj;rcases A j k hjk with ⟨e,_⟩|⟨_,hk''⟩
    .exact absurd e hjm
    exact H.np i j k Z v1 F hk''
 .by_cases u:i=m
  .grind
  .have hY:d (.ay i)= .kh Y:=hY
   by_cases B:i=k
   .grind
   rw [sb i u B] at hY;obtain ⟨Z,_,_⟩:=sbk i (by rw [hY];simp);rcases A i k' s with ⟨e,_⟩|⟨_,F⟩
   .exact absurd e u
   exact H.pJ i Y k' (by grind) F
 .grind
 .show eH w J (jx d i) _;have e:d (.ct i)=eJ es (.ct i):=by trivial
  unfold jx;rw [e];rcases he.xJ (.ct i) with E|⟨E,_,h3⟩
  .rw [E];exact .nY
  .have U:=hf.oW i hi;have y:=q1' (.ct i);unfold jx at U;rw [E] at y ⊢;cases D:σ (.ct i) with
   |bg x=>rw [D] at U h3 y;exact U.Me y h3 I
   |_=>exact .nY
 .obtain ⟨Z,u2⟩:=hE.jC k o s;grind
 .obtain ⟨Z,u2⟩:=hE.oT i k s;exact ⟨I i k (by have:=t.OG i k s;omega) Z,u2⟩
 .have E:=t.IG i _ U;obtain ⟨bk',N',Z,u2,u3⟩:=hE.zR i bk N U;grind
 .simp only [J] at U;split at U
  .exact hE.zQ i k N U
  .cases U
theorem qu.ala {o:Oper} {n:Nat} {K:b9->eK->Nat->Prop} {t0 e:TypeId} (E:P.underlying t0=some (.slice e)) {d:Call} (D:o.op= .call d) (m:d.callee= .builtin .clear) (t:d.argTypes[0]? =some t0) {x:Operand} (s:d.args=#[x])
  {q:Bool} {sz:Nat} {tk:yC} (F:eR σ x= .a8 q sz [] tk) (B:K (.dn []) σ (n+1)):qu P o σ n K:=by
 refine ⟨λb g a w h j=>?_⟩;have r:=j x (by grind [Op.operands,Call.operands]);rw [F] at r;obtain ⟨p,c,z,_,_⟩:=r.nq;have k:∀ {l:World},(Builtin.clear_ d.argTypes o.type #[a.eval x]).run P w= .ok (.tuple #[]) l->(execOp a.eval o).run P w= .ok (.value (.tuple #[])) l:=by
  intro l J;obtain ⟨y,L,N,H,f,u⟩:=o;grind [xK,builtin,Sem.run_bind,Result.andThen_ok,Sem.run_pure]
 have I:(Builtin.clear_ d.argTypes o.type #[a.eval x]).run P w= .ok (.tuple #[]) w:=by
  cases p<;>simp [Builtin.clear_,t,z,run_underlying E,Result.andThen]
 exact ⟨.value (.tuple #[]), .tuple #[],w, .dn [],σ,n+1,g,k I, .inl rfl,B,aZ n, .nR (vs:=[]) rfl (λi x v A=>by simp at A),h.uV (aZ n),iN.uO _ _⟩
theorem er.Hy (a:jc P T) {f:FuncId} {fn:Func} {c:Code} (d:P.funcs[f]? =some fn) (b:fn.body=some c) (n:(fn.name== "runtime.NumGoroutine")=false) {args:List b9} {res:b9} (l:Nat.ble args.length fn.ntmps=true) (r:pN fn.ntmps fn.results.toList=true)
  (h:iE P none fn.ntmps 0 c (sj args) 0 (Bt mR T fn res)):er P f args res:=
 er.Uw (λ_ _ h=>h) a d b n l r h
theorem iE.alb {r:Option Nat} {nt o n:Nat} {c:Code} {K:Exit->eK->Nat->Prop} (k j:Nat) {bt:TypeId} {cells cells':List b9} (x:σ (.ay k)= .dc bt cells) (f:cells.set j .ga=cells') (h:iE P r nt o c (fc σ (.ay k) (.dc bt cells')) n K):iE P r nt o c σ n K:=by
 subst f;refine ⟨λb t a w q s=>h.nM b t a w q ?_⟩;obtain ⟨g,p,m,E,u⟩:=s;refine ⟨g,p.M0 x (cF) (λi y v e z=>?_),m.uU (λi=>by trivial),E,u⟩
 by_cases d:i=j
 .subst d;have l:i<(cells.set i .ga).length:=(aB.1 e).1;rw [cF] at l;rw [di l] at e;cases e;exact .nY
 grind
end
end Go.Am
namespace Go.Proofs.YtffboamedcmpaaaGreatDoor
open Gw
open Go.Am
open Go.Proofs.Tryz Tryz
def tH (M:Int) (l:List kF):List kF:=l.filter λw=>!decide (w.pz<=M)
def tI (M:Int) (l:List kF):List kF:=l.filter λw=>decide (w.pz<=M)
def Ry (M:Int) (q:Bool) (l:List kF) (k:Nat):List (Am.fQ×gC):=[(.ay 0, .dc 37 [.ax .i64 M,gE 2 ja ⟨q,l⟩]),(.ay 1, .dc 37 [.ax .i64 0, .a8 true 1 [] .fW]),
 (.ay 9, .dc 373 [.a8 (tH M (l.take k)).isEmpty 2 ((tH M (l.take k)).map ja) (.hJ 16), .a8 (tI M (l.take k)).isEmpty 2 ((tI M (l.take k)).map ja) (.hJ 17)]),(.eT 16, .eU 331 2 (tH M (l.take k)).length),(.eT 17, .eU 331 2 (tI M (l.take k)).length)]
def xe (B:List kF) (j:Nat):List Int:=(B.take j).map (·.js)++List.replicate (B.length - j) 0
theorem alf {B:List kF} {j:Nat} (h:j<=B.length):(xe B j).length=B.length:=by
 grind [xe]
theorem alg {B:List kF} {j:Nat} (h:j<B.length):(xe B j).set j B[j].js=xe B (j+1):=by
 unfold xe;have a:((B.take j).map (·.js)).length=j:=by grind
 rw [List.set_append_right _ _ (by omega),a,dT,aD h,aU,aA];rw [show B.length - j=(B.length - (j+1))+1 by omega,List.replicate_succ,List.set_cons_zero];rfl
theorem alh (B:List kF):jM B.length [.ax .i64 0]=((xe B 0).map l7).flatten:=by
 unfold xe jM;rw [List.take_zero,cJ,bE,Nat.sub_zero,List.map_replicate];rfl
theorem ale (B:List kF):xe B B.length=B.map (·.js):=by
 grind [xe]
theorem Zh {σ:eK} {B:List kF} (h:σ (.ay 22)= .eY 3 (((xe B B.length).map l7).flatten)):Am.oI σ (.eP 22 0 1 B.length true) (gE 1 l7 (.mS (B.map (·.js)))):=by
 have a:=Hh (enc:=l7) (sz:=1) (full:=true) (λ_=>rfl) (λ_=>rfl) h;rw [ale,ap] at a;exact a
theorem ald (g:py) (kept:Int) (P:g.iI.al.length<=1000000):er prog 196 [qh g, .ax .i64 kept] (.dn [qh (vJ g kept).1,gE 1 l7 (vJ g kept).2]):=by
 obtain ⟨c,⟨q,l⟩⟩:=g;have D:(l.map ja).length=l.length:=ap _;dsimp only at P;refine er.Hy jy (fn:=f196) eI rfl eI rfl rfl ?_;refine j6 ?_;refine j6 ?_;refine j6 ?_;refine j6 ?_;refine j6 ?_;refine iE.Q9 9 0 331 2 rfl rfl rfl ?_;refine iE.Q9 9 1 331 2 rfl rfl rfl ?_;refine iE.gY (X:=Nat) (λk=>(.ct 2, .bg (.c8 0 0))::(.ct 4, .bg (.c8 1 0))::(.ct 6, .bg (.c8 9 0))::(.ct 7, .bg (.eW 231 [] [.c8 0 0, .c8 9 0]))::(.ct 20, .bg (gE 2 ja ⟨q,l⟩))::(.ct 21, .bg (.ax .i64 l.length))::(.ct 22, .bg (.ax .i64 k))::Ry (max c kept) q l k) 18
  (λk=>k<=l.length) (λk=>l.length - k) dd 0 (ar _) ⟨rfl,rfl,rfl,rfl,rfl,rfl,rfl,rfl,rfl,rfl,?_,rfl,rfl,rfl,?_,af⟩ ?_
 .show gC.bg (b9.ax .i64 ((l.map ja).length:Nat))=_;rw [D]
 .rfl
 rintro k hk;refine gk ?_;refine ⟨λh=>?_,λh=>?_⟩
 .have h:=ah h;have t:k<l.length:=om;have hg:=pV ja t;have J:=aD t;have W:IntKind.i64.wrap ((k:Int)+1)=((k+1:Nat):Int):=by grind [fq]
  have r:∀ a:kF,tH (max c kept) (l.take k++[a])=tH (max c kept) (l.take k)++(if a.pz<=max c kept then [] else [a]):=λa=>by
   unfold tH;grind
  have u:∀ a:kF,tI (max c kept) (l.take k++[a])=tI (max c kept) (l.take k)++(if a.pz<=max c kept then [a] else []):=λa=>by
   unfold tI;grind
  have f:=r l[k];have n:=u l[k];clear r u;rw [<-J] at f n;have F:(tH (max c kept) (l.take k)).length<=k:=av (bn _ _) (by simp_all);have H:(tI (max c kept) (l.take k)).length<=k:=av (bn _ _) (by simp_all);generalize d:l[k]=b at*;unfold Ry;generalize tH (max c kept) (l.take k)=A at*;generalize tI (max c kept) (l.take k)=B at*;refine cx ?_;refine fz func231 ?_
  conv=>whnf
  refine ab (λh=>?_) λh=>?_
  .conv=>whnf
   rw [ak h,aH] at f;rw [ak h] at n;refine ⟨⟨dd,dd⟩,?_⟩
   conv=>whnf
   refine ⟨⟨(ap _).symm,ji (by grind) dd⟩,?_⟩
   conv=>whnf
   refine ⟨⟨dd,dd⟩,?_⟩
   conv=>whnf
   refine ⟨eI,?_⟩
   conv=>whnf
   refine ⟨k+1,om,by grind,⟨rfl,rfl,rfl,rfl,rfl,rfl,rfl,rfl,rfl,rfl,rfl,rfl,?_,rfl,rfl,rfl,rfl,rfl,?_,rfl,?_,rfl,?_,rfl,ae⟩⟩
   .exact ix
   .show gC.dc _ [.a8 A.isEmpty 2 (A.map ja) (.hJ 16),_]=gC.dc _ [.a8 (tH (max c kept) (l.take (k+1))).isEmpty 2 ((tH (max c kept) (l.take (k+1))).map ja) (.hJ 16), .a8 (tI (max c kept) (l.take (k+1))).isEmpty 2 ((tI (max c kept) (l.take (k+1))).map ja) (.hJ 17)];rw [f,n,aU];cases B with
    |nil=>rfl
    |cons x o=>rfl
   .show gC.eU _ 2 A.length=gC.eU _ 2 (tH (max c kept) (l.take (k+1))).length;rw [f]
   .show gC.eU _ 2 _=gC.eU _ 2 (tI (max c kept) (l.take (k+1))).length;simp_all
  .conv=>whnf
   rw [ai h] at f;rw [ai h,aH] at n;refine ⟨⟨dd,dd⟩,?_⟩
   conv=>whnf
   refine ⟨⟨(ap _).symm,ji (by grind) dd⟩,?_⟩
   conv=>whnf
   refine ⟨⟨dd,dd⟩,?_⟩
   conv=>whnf
   refine ⟨eI,?_⟩
   conv=>whnf
   refine ⟨k+1,om,by grind,⟨rfl,rfl,rfl,rfl,rfl,rfl,rfl,rfl,rfl,rfl,rfl,rfl,?_,rfl,rfl,rfl,rfl,rfl,?_,rfl,?_,rfl,?_,rfl,ae⟩⟩
   .exact ix
   .show gC.dc _ [_, .a8 B.isEmpty 2 (B.map ja) (.hJ 17)]=gC.dc _ [.a8 (tH (max c kept) (l.take (k+1))).isEmpty 2 ((tH (max c kept) (l.take (k+1))).map ja) (.hJ 16), .a8 (tI (max c kept) (l.take (k+1))).isEmpty 2 ((tI (max c kept) (l.take (k+1))).map ja) (.hJ 17)];rw [f,n,aU];cases A with
    |nil=>rfl
    |cons x Y=>rfl
   .show gC.eU _ 2 _=gC.eU _ 2 (tH (max c kept) (l.take (k+1))).length;simp_all
   .show gC.eU _ 2 B.length=gC.eU _ 2 (tI (max c kept) (l.take (k+1))).length;rw [n]
 have h:=ag h;obtain rfl:k=l.length:=om;have I:vJ ⟨c,⟨q,l⟩⟩ kept=(⟨max c kept,⟨true,tH (max c kept) l⟩⟩, .mS ((tI (max c kept) l).map (·.js))):=rfl;have F:(tH (max c kept) l).length<=l.length:=bn _ _;have H:(tI (max c kept) l).length<=l.length:=bn _ _;rw [I];unfold Ry;rw [aN];generalize tH (max c kept) l=A at*;generalize tI (max c kept) l=B at*;have z:(B.map ja).length=B.length:=ap _
 conv=>whnf
 refine iE.alb 0 1 (cells':=[.ax .i64 (max c kept), .ga]) rfl rfl ?_;cases B with
 |nil=>
  refine gk ?_;refine ⟨⟨dd,dd⟩,?_⟩
  conv=>whnf
  refine ⟨⟨dd,rfl,ji (cO rfl) dd⟩,?_⟩
  conv=>whnf
  refine ⟨⟨dd,dd⟩,?_⟩
  conv=>whnf
  refine iE.gY (X:=Unit) (λ_=>[(.ct 2, .bg (.c8 0 0)),(.ct 4, .bg (.c8 1 0)),(.ct 6, .bg (.c8 9 0)),(.ct 10, .bg (.eP 22 0 1 0 true)),(.ct 36, .bg (.ax .i64 0)),(.ct 37, .bg (.ax .i64 0)),(.ay 0, .dc 37 [.ax .i64 (max c kept), .ga]),(.ay 1, .dc 37 [.ax .i64 0, .a8 true 1 [] .fW]),
   (.ay 9, .dc 373 [.a8 A.isEmpty 2 (A.map ja) (.hJ 16), .a8 true 2 [] (.hJ 17)]),(.eT 16, .eU 331 2 A.length),(.eT 17, .eU 331 2 0),(.ay 22, .eY 3 [])]) 23 (λ_=>True) (λ_=>0) dd () trivial ⟨rfl,rfl,rfl,rfl,rfl,rfl,rfl,rfl,rfl,rfl,rfl,rfl,rfl,rfl,rfl,rfl,rfl,rfl,rfl,rfl,rfl,rfl,rfl,rfl,trivial⟩ ?_
  rintro ⟨⟩ _;refine gk ?_;refine kw ?_;refine ⟨⟨dd,dd⟩,?_⟩
  conv=>whnf
  refine qu.ala (t0:=35) (e:=331) eI rfl rfl rfl rfl rfl ?_
  conv=>whnf
  refine ⟨⟨dd,dd⟩,?_⟩
  conv=>whnf
  exact BZ.B0 (.lM (BZ.Db (.lM (.qw (v:= .ax .i64 (max c kept)) rfl) (.lM (.qw (v:= .a8 A.isEmpty 2 (A.map ja) (.hJ 16)) rfl) .rf))) (.lM (Zh (B:=[]) rfl) .rf))
 |cons b o=>
  refine iE.alc (m:=18) (bt:=331) 9 16 17 (es:=[(.ct 2, .bg (.c8 0 0)),(.ct 4, .bg (.c8 1 0)),(.ct 6, .bg (.c8 9 0)),(.ay 0, .dc 37 [.ax .i64 (max c kept), .ga]),(.ay 1, .dc 37 [.ax .i64 0, .a8 true 1 [] .fW])]) ⟨rfl,rfl,rfl,rfl,rfl,rfl,rfl,rfl,rfl,rfl,trivial⟩ (Nat.zero_le _) rfl rfl dd ?_ ?_ dd dd (Nat.zero_le _) (by simp) (λK w x d=>?_) (λK w x d=>?_) ?_
  .show gC.eU _ 2 A.length=gC.eU _ 2 (A.map ja).length;simp_all
  .show gC.eU _ 2 (b::o).length=gC.eU _ 2 ((b::o).map ja).length;simp_all
  .obtain ⟨a,_,rfl⟩:=aE.1 w;rcases aK.1 d with rfl|d
   .rfl
   .rw [aw.1 d];rfl
  .obtain ⟨a,_,rfl⟩:=aE.1 w;rcases aK.1 d with rfl|d
   .rfl
   .rw [aw.1 d];rfl
  rw [z];refine gk ?_;refine ⟨⟨dd,dd⟩,?_⟩
  conv=>whnf
  refine ⟨⟨om,rfl,ji om dd⟩,?_⟩
  conv=>whnf
  refine ⟨⟨dd,dd⟩,?_⟩
  conv=>whnf
  have N:b::o≠[]:=by simp
  generalize b::o=B at*;refine iE.gY (X:=Nat) (λj=>[(.ct 2, .bg (.c8 0 0)),(.ct 4, .bg (.c8 1 0)),(.ct 6, .bg (.c8 9 0)),(.ct 10, .bg (.eP 22 0 1 B.length true)),(.ct 35, .bg (.eP 18 0 2 B.length true)),(.ct 36, .bg (.ax .i64 B.length)),(.ct 37, .bg (.ax .i64 j)),(.ay 0, .dc 37 [.ax .i64 (max c kept), .ga]),(.ay 1, .dc 37 [.ax .i64 0, .a8 true 1 [] .fW]),
   (.ay 9, .dc 373 [.a8 A.isEmpty 2 (A.map ja) (.hJ 16), .eP 18 0 2 B.length true]),(.eT 16, .eU 331 2 (A.map ja).length),(.ay 18, .eY 331 ((B.map ja).flatten)),(.ay 22, .eY 3 (((xe B j).map l7).flatten))]) 23 (λj=>j<=B.length) (λj=>B.length - j) dd 0 (ar _) ⟨rfl,rfl,rfl,rfl,rfl,rfl,rfl,rfl,rfl,rfl,rfl,rfl,rfl,rfl,rfl,rfl,rfl,rfl,rfl,rfl,rfl,rfl,rfl,rfl,?_,rfl,ae⟩ ?_
  .show gC.eY _ (jM ((B.length:Int).toNat) [.ax .i64 0])=_;grind [alh]
  rintro j O;refine gk ?_;refine ab (λh=>?_) λh=>?_
  .have t:j<B.length:=om;have L:=za (enc:=ja) (sz:=2) (λ_=>rfl) t;have Z:=EN (enc:=ja) (sz:=2) (λ_=>rfl) t;have Q:=alf (B:=B) (j:=j) O;have S:=J9 (enc:=l7) (sz:=1) (λ_=>rfl) (l:=xe B j) (i:=j) om (b:=B[j].js) (p:=[]) (s:=[]) rfl rfl (k:=j*1) rfl;rw [alg t] at S;have R:=EN (enc:=l7) (sz:=1) (λ_=>rfl) (l:=xe B j) (k:=j) om;have W:IntKind.i64.wrap ((j:Int)+1)=((j+1:Nat):Int):=by grind [fq]
   have T:0+(j:Int).toNat*2=j*2:=om;have U:0+(j:Int).toNat*1=j*1:=om;generalize B[j]=y at*;refine cx ?_;rw [T];refine ⟨_,⟨om,L⟩,?_⟩
   conv=>whnf
   refine ⟨⟨om,om⟩,?_⟩
   conv=>whnf
   rw [U];refine ⟨om,?_⟩
   conv=>whnf
   refine ⟨j+1,om,by grind,⟨rfl,rfl,rfl,rfl,rfl,rfl,rfl,rfl,rfl,rfl,rfl,rfl,?_,rfl,rfl,rfl,rfl,rfl,rfl,rfl,rfl,rfl,rfl,rfl,?_,rfl,ae⟩⟩
   .exact ix
   .exact congrArg (gC.eY _) S
  .obtain rfl:j=B.length:=om
   conv=>whnf
   refine ⟨⟨dd,dd⟩,?_⟩
   conv=>whnf
   have E:=tE (enc:=ja) (sz:=2) (λ_=>rfl) B;refine qu.QR jy (t0:=35) (e:=331) eI rfl rfl rfl rfl rfl rfl rfl rfl eI eI (by rw [E];omega) ?_
   conv=>whnf
   refine ⟨⟨dd,dd⟩,?_⟩
   conv=>whnf
   exact BZ.B0 (.lM (BZ.Db (.lM (.qw (v:= .ax .i64 (max c kept)) rfl) (.lM (.qw (v:= .a8 A.isEmpty 2 (A.map ja) (.hJ 16)) rfl) .rf))) (.lM (Zh rfl) .rf))
theorem alj (i:Bool) (l:List ft) (j:l.length<=1048576):er prog 111 [.a8 i 18 (l.map gx) .dm, .eW 56 [] []] (.ax .i64 (k9 (λt=>!t.gS) l)):=by
 have e:(l.map gx).length=l.length:=ap _;refine fS func111 ?_
 conv=>whnf
 refine iE.gY (λk:Nat=>[(.ct 0, .bg (.a8 i 18 (l.map gx) .dm)),(.ct 1, .bg (.eW 56 [] [])),(.ct 7, .bg (.ax .i64 l.length)),(.ct 8, .bg (.ax .i64 k))]) 2
  (λk=>k<=l.length/\∀ a∈l.take k,(λt=>!t.gS) a=false) (λk=>l.length - k) dd 0 ⟨ar _,by simp⟩ ⟨rfl,rfl,rfl,rfl,?_,af⟩ ?_
 .show gC.bg (b9.ax .i64 ((l.map gx).length:Nat))=_;rw [e]
 rintro k ⟨f,n⟩;refine gk ?_;refine ab (λh=>?_) λh=>?_
 .have b:k<l.length:=om;have g:=pV gx b;have c:=XM (p:=(λt=>!t.gS)) b n;have d:=QQ (p:=(λt=>!t.gS)) b n;have w:IntKind.i64.wrap ((k:Int)+1)=((k+1:Nat):Int):=by rw [fq om om];rfl
  generalize x:l[k]=a at*;refine gI ?_;refine fz func56 ?_
  conv=>whnf
  refine ⟨λh=>?_,λh=>?_⟩
  .have h:(λt=>!t.gS) a=true:=by simpa using h
   conv=>whnf
   rw [c h]
  .have h:(λt=>!t.gS) a=false:=by simpa using h
   conv=>whnf
   refine ⟨k+1,⟨om,d h⟩,by show l.length - (k+1)<l.length - k;omega,rfl,rfl,rfl,rfl,rfl,rfl,?_,rfl,ae⟩;exact ix
 .obtain rfl:k=l.length:=om;rw [aN] at n
  conv=>whnf
  rw [QP n]
theorem ali (n:Bool) (l:List ft) (h:l.length<=1048576):er prog 55 [.a8 n 18 (l.map gx) .dm, .eW 56 [] []] (.eD (l.any (λt=>!t.gS))):=by
 have i:=alj n l h;refine fS func55 ?_;refine gI ?_;rw [XL]
end Go.Proofs.YtffboamedcmpaaaGreatDoor
