import Derived.Test.YtffboamedcmpaaaGreatDoorCm
set_option linter.all false
set_option maxHeartbeats 4000000
set_option maxRecDepth 100000
namespace Go.Proofs.YtffboamedcmpaaaGreatDoor
open Gw
open Go.Am
theorem BO {p q:Prop} {f:FuncId} {fn:Func} (hf:Tryz.prog.funcs[f]? =some fn) (h:q) (e:(Tryz.prog.funcs[f]? =some fn)->xX q->p:=by
 intro hf h;refine cU hf ?_
 conv=>whnf
 refine bz.zo ?_;refine bn Tryz.func265 ?_
 conv=>whnf
 refine ⟨0,_,_,_,rfl,(by first|exact mi.xR (JG _) rfl|exact mi.tF (hpa (Nat.succ_pos _)) rfl),rfl,?_⟩
 conv=>whnf
 refine ⟨0,_,_,_,rfl,(by first|exact mi.xR (JG _) rfl|exact mi.tF (hpc (Nat.succ_pos _)) rfl),rfl,?_⟩;refine mq ?_;exact h.1):p:=e hf ⟨h⟩
theorem Vn {l:List bX} (b:bX):(l++[b]).map bA=l.map bA++[bA b]:=List.map_append
theorem afu (q:Bool) (v:bX):aC Tryz.prog 297 [.ag q 2 [] .av, .aK (bA v)] (.aa .i64 (-1)):=by
 refine aC.Qd dW jd (fn:=Tryz.f297) aG rfl aG rfl rfl ?_
 conv=>whnf
 refine db.cK (X:=Unit) (λ_=>[(.aj 7, .ah (.aa .i64 0)),(.aj 8, .ah (.aa .i64 0))]) 1 (λ_=>True) (λ_=>0) dd () trivial ⟨rfl,rfl,rfl,rfl,trivial⟩ ?_;rintro ⟨⟩ _;refine cn ?_;exact dC
theorem Vi {σ:az} (x:rH) (h9:σ (.af 9)= .aR 370 (((x.mF++x.GK).map bA).flatten)) (h12:σ (.af 12)= .aR 370 (((x.nN++x.GL).map bA).flatten)):
  Am.km σ (.aK [.aL 9 0 2 x.mF.length true, .aL 12 0 2 x.nN.length true]) (eY ⟨.jK x.mF, .jK x.nN⟩):=
 yE.zV (.gM (NK (enc:=bA) (λ_=>rfl) (λ_=>rfl) h9) (.gM (NK (enc:=bA) (λ_=>rfl) (λ_=>rfl) h12) .mZ))
theorem afq (hq wq:Bool) (a c:bX) (hl wl:List bX) (th lk:Int):eY (iO ⟨⟨hq,a::hl⟩,⟨wq,c::wl⟩⟩ th lk).1=eY ⟨.jK (oE th lk ⟨a::hl,[],c::wl,[]⟩).1.mF, .jK (oE th lk ⟨a::hl,[],c::wl,[]⟩).1.nN⟩/\
  (iO ⟨⟨hq,a::hl⟩,⟨wq,c::wl⟩⟩ th lk).2=(oE th lk ⟨a::hl,[],c::wl,[]⟩).2:=by
 have e1:eY ⟨⟨hq,a::hl⟩,⟨wq,c::wl⟩⟩=eY ⟨.jK (a::hl), .jK (c::wl)⟩:=by
  unfold eY vw;rw [sQ,sQ];rfl
 have e2:∀ h,eY ⟨h,⟨wq,c::wl⟩⟩=eY ⟨h, .jK (c::wl)⟩:=λh=>by
  unfold eY vw;rw [sQ];rfl
 unfold iO oE;dsimp only;cases (a::hl).any λh=>decide (h=(⟨lk,th⟩:bX)) with
 |false=>exact ⟨e1,rfl⟩
 |true=>
  dsimp only;cases (c::wl).find? λw=>decide (w.eA=lk) with
  |none=>exact ⟨e2 _,rfl⟩
  |some n=>exact ⟨rfl,rfl⟩
def pr (th lk:Int) (hl:List bX):(List bX×List bX)×Option Int:=
 match hl.any λh=>decide (h=⟨lk,th⟩) with
 |false=>((hl,[]),none)
 |true=>((mC (λh=>decide (h=⟨lk,th⟩)) hl,[]),none)
def D9 (th lk:Int) (hl hp:List bX):List bX:=match hl.any λh=>decide (h=⟨lk,th⟩) with
 |false=>hp
 |true=>ur::hp
def GM (wq:Bool) (hl hp:List bX):List (Am.aS×bs):=[(.af 9, .aR 370 (((hl++hp).map bA).flatten)),(.af 15, .au 415 [.aL 9 0 2 hl.length true, .ag wq 2 [] .bR])]
theorem Vj {σ:az} {wq:Bool} {hl hp:List bX} (h9:σ (.af 9)= .aR 370 (((hl++hp).map bA).flatten)):
  Am.km σ (.aK [.aL 9 0 2 hl.length true, .ag wq 2 [] .bR]) (eY ⟨.jK hl,⟨wq,[]⟩⟩):=by
 unfold eY vw;rw [D0];exact yE.zV (.gM (NK (enc:=bA) (λ_=>rfl) (λ_=>rfl) h9) (.gM (.mh (v:= .ag wq 2 [] .bR) rfl) .mZ))
theorem afr (hq wq:Bool) (a:bX) (hl:List bX) (th lk:Int):eY (iO ⟨⟨hq,a::hl⟩,⟨wq,[]⟩⟩ th lk).1=eY ⟨.jK (pr th lk (a::hl)).1.1,⟨wq,[]⟩⟩/\
  (iO ⟨⟨hq,a::hl⟩,⟨wq,[]⟩⟩ th lk).2=(pr th lk (a::hl)).2:=by
 have e1:eY ⟨⟨hq,a::hl⟩,⟨wq,[]⟩⟩=eY ⟨.jK (a::hl),⟨wq,[]⟩⟩:=by
  unfold eY vw;rw [sQ];rfl
 unfold iO pr;dsimp only;cases (a::hl).any λh=>decide (h=(⟨lk,th⟩:bX)) with
 |false=>exact ⟨e1,rfl⟩
 |true=>exact ⟨rfl,rfl⟩
theorem Vl (wq:Bool) (hl hp:List bX) (th lk:Int) (hh:hl.length<=1048576):bz Tryz.prog 270 [.ar 15 0, .aa .i64 th, .aa .i64 lk] (aD (GM wq hl hp)) 16
  (cG 16 (λr es=>r= .cE (JK (pr th lk hl).2)/\es=GM wq (pr th lk hl).1.1 (D9 th lk hl hp))):=by
 have hi:=Ve true hl hp ⟨lk,th⟩ hh;refine bz.sc dW jd (fn:=Tryz.f270) aG rfl aG rfl rfl ?_
 conv=>whnf
 refine .inr ⟨aG,aG,?_⟩;refine eJ ?_;rcases BM (λh:bX=>decide (h=⟨lk,th⟩)) hl with ⟨h1,hno⟩|⟨i,hlt,h1,hno,hpi⟩
 ·unfold pr D9;rw [Va hno,h1];refine ak ?_;exact ⟨_,_,⟨rfl,rfl⟩,rfl,⟨rfl,rfl⟩,rfl,rfl,rfl,rfl,trivial⟩
 obtain ⟨l1,a,l2,e1,e2,e3,e4⟩:=JJ hlt hno hpi;have hany:=Vb (p:=λh:bX=>decide (h=⟨lk,th⟩)) hlt hpi;have hdel:=Vd l1 l2 hp a (by rw [<-e1];exact hh);have hix:=aeW lk wq [] (Nat.zero_le _);have w1:IntKind.i64.wrap ((i:Int)+1)=((l1.length+1:Nat):Int):=by rw [bj om om,e2];rfl
 rw [<-e1] at hdel;rw [e2] at hdel w1;unfold pr D9;rw [hany,h1];dsimp only;rw [e4];clear hi hany h1;refine eJ ?_;rw [w1];refine eJ ?_;rw [show fR (λh:bX=>decide (h.eA=lk)) []=-1 from rfl];refine ak ?_;exact ⟨_,_,⟨rfl,rfl⟩,rfl,⟨rfl,rfl⟩,rfl,rfl,rfl,rfl,trivial⟩
theorem aft (t th:Int) (l pad:List bX) (hl:l.length<=1048576):bz Tryz.prog 268 [.aL 11 0 2 l.length true, .aP 267 [] [.ar 20 0]]
  (aD [(.af 11, .aR 370 (((l++pad).map bA).flatten)),(.af 20, .au 370 [.aa .i64 t, .aa .i64 th])]) 21
  (cG 21 (λx es=>x= .cE (.aE (l.any λh=>decide (h=⟨t,th⟩)))/\es=[(.af 11, .aR 370 (((l++pad).map bA).flatten)),(.af 20, .au 370 [.aa .i64 t, .aa .i64 th])])):=by
 have hi:=aeU t th true l pad hl;refine bz.sc dW jd (fn:=Tryz.f268) aG rfl aG rfl rfl ?_;refine eJ ?_;refine ⟨_,_,⟨rfl,rfl⟩,rfl,⟨?_,rfl⟩,rfl,rfl,rfl,rfl,trivial⟩;show ae.aE (decide (0<=fR (λh=>decide (h=(⟨t,th⟩:bX))) l))=ae.aE _;rw [UY]
theorem afs (q:Bool) (t th:Int):bz Tryz.prog 268 [.ag q 2 [] .bR, .aP 267 [] [.ar 20 0]]
  (aD [(.af 20, .au 370 [.aa .i64 t, .aa .i64 th])]) 21
  (cG 21 (λx es=>x= .cE (.aE false)/\es=[(.af 20, .au 370 [.aa .i64 t, .aa .i64 th])])):=by
 have hi:=aeT t th q [] (Nat.zero_le _);refine bz.sc dW jd (fn:=Tryz.f268) aG rfl aG rfl rfl ?_;refine eJ ?_;rw [show fR (λh:bX=>decide (h=⟨t,th⟩)) []=-1 from rfl]
 conv=>whnf
 exact ⟨_,_,⟨rfl,rfl⟩,rfl,⟨rfl,rfl⟩,rfl,rfl,trivial⟩
theorem afx (t:ib) (th lk:Int) (hh:t.eW.ab.length<=1048576) (hw:t.di.ab.length<=1048576):aC Tryz.prog 234 [eY t, .aa .i64 th, .aa .i64 lk] (.aw [eY (iO t th lk).1, .aa .i64 ((iO t th lk).2.getD 0), .aE (iO t th lk).2.isSome]):=by
 obtain ⟨⟨hq,hl⟩,⟨wq,wl⟩⟩:=t;dsimp only at*;have hpa:=λh=>zX (hl.map bA) h (by rw [List.length_map];exact hh)
 have hpc:=λh=>zX (wl.map bA) h (by rw [List.length_map];exact hw)
 rw [List.length_map] at hpa hpc;rcases hl with _|⟨a,hl⟩
 ·rw [show iO ⟨⟨hq,[]⟩,⟨wq,wl⟩⟩ th lk=(⟨⟨hq,[]⟩,⟨wq,wl⟩⟩,none) from rfl];have h0:=λq=>afu q ⟨lk,th⟩
  rcases wl with _|⟨c,wl⟩<;>cases hq<;>cases wq
  all_goals
   refine BO Tryz.func234 ?_;refine bn Tryz.func270 ?_
   conv=>whnf
   refine ⟨_,rfl,h0 _,?_⟩;refine mq ?_
   first|exact iL.bw _|exact D6
 ·rcases wl with _|⟨c,wl⟩
  ·have hf:=Vl wq (a::hl) [] th lk hh;have hb:=afr hq wq a hl th lk;rw [hb.1,hb.2];generalize D9 th lk (a::hl) []=yp at*;generalize pr th lk (a::hl)=y at*;obtain ⟨⟨yl,y2⟩,o⟩:=y;unfold GM at hf;rw [List.append_nil] at hf;cases hq<;>cases wq
   all_goals
    refine BO Tryz.func234 ?_;cases o<;>(conv=>whnf)<;>exact yE.yF (.gM (Vj rfl) (.JF rfl (.JF rfl .mZ)))
  ·have hf:=Vc ⟨a::hl,[],c::wl,[]⟩ th lk hh hw;have hb:=afq hq wq a c hl wl th lk;rw [hb.1,hb.2];generalize oE th lk ⟨a::hl,[],c::wl,[]⟩=y at*;obtain ⟨⟨yl,yp,zl,zp⟩,o⟩:=y;unfold D7 at hf;rw [List.append_nil,List.append_nil] at hf;cases hq<;>cases wq
   all_goals
    refine BO Tryz.func234 ?_;cases o<;>(conv=>whnf)<;>exact yE.yF (.gM (Vi ⟨yl,yp,zl,zp⟩ rfl rfl) (.JF rfl (.JF rfl .mZ)))
theorem afv (t:ib) (th lk:Int) (hh:t.eW.ab.length<=1048576) (hw:t.di.ab.length<=1048576):aC Tryz.prog 232 [eY t, .aa .i64 th, .aa .i64 lk] (.aw [eY (sB t th lk).1, .aE (sB t th lk).2]):=by
 have hH:=ae3 t lk hh;obtain ⟨⟨hq,hl⟩,⟨wq,wl⟩⟩:=t;dsimp only at*;have hy:=aft lk th wl [] hw;rw [List.append_nil] at hy;have h0:=afs wq lk th;unfold sB cj.jg;generalize DM ⟨⟨hq,hl⟩,⟨wq,wl⟩⟩ lk=o at*;generalize hn:(wl.any λw=>decide (w=(⟨lk,th⟩:bX)))=n at*;have hpa:=λh=>zX (hl.map bA) h (by rw [List.length_map];exact hh)
 have hpc:=λh=>zX (wl.map bA) h (by rw [List.length_map];exact hw)
 rw [List.length_map] at hpa hpc;have e:∀ (h w:cj bX),eY ⟨h,w⟩= .aK [.ag h.bZ 2 (h.ab.map bA) .av, .ag w.bZ 2 (w.ab.map bA) .av]:=λ_ _=>rfl
 rcases o with _|z
 ·dsimp only;rw [e ⟨false,hl++_⟩];dsimp only;rw [Vn];rcases hl with _|⟨a,hl⟩<;>rcases wl with _|⟨c,wl⟩<;>cases hq<;>cases wq
  all_goals
   refine BO Tryz.func232 ?_
   first
    |refine ⟨dG (show (1:Nat)<=4294967296 by decide) dd,?_⟩
     refine mq ?_
     first|exact iL.bw _|exact D6
    |refine ⟨List.map bA _,⟨List.length_map _,λel he=>by obtain ⟨x,_,rfl⟩:=List.mem_map.1 he;rfl,rfl,xa (λ_=>rfl) _,dG (by rw [List.length_map];exact Nat.le_trans (Nat.succ_le_succ hh) dd) dd⟩,?_⟩
     refine mq ?_
     first|exact iL.bw _|exact D6
 ·dsimp only;have hb:(z==th)=decide (z=th):=rfl
  by_cases hz:z=th
  ·rw [decide_eq_true hz] at hb;rw [if_pos hz];clear hz hy h0;rcases hl with _|⟨a,hl⟩<;>rcases wl with _|⟨c,wl⟩<;>cases hq<;>cases wq
   all_goals
    refine BO Tryz.func232 ?_;refine RE hb ?_;refine mq ?_
    first|exact iL.bw _|exact D6
  ·rw [decide_eq_false hz] at hb;have e2:∀ b,eY ⟨⟨hq,hl⟩,⟨false,wl++[b]⟩⟩= .aK [.ag (cj.bZ ⟨hq,hl⟩) 2 (hl.map bA) .av, .ag false 2 (wl.map bA++[bA b]) .av]:=λb=>by rw [e];dsimp only;rw [Vn];rfl
   rw [if_neg hz];cases n with
   |true=>
    rcases wl with _|⟨c,wl⟩
    ·cases hn
    rcases hl with _|⟨a,hl⟩<;>cases hq<;>cases wq
    all_goals
     refine BO Tryz.func232 ?_;refine LR hb ?_;refine mq ?_
     first|exact iL.bw _|exact D6
   |false=>
    rw [if_neg dd];dsimp only;rw [e2];rcases wl with _|⟨c,wl⟩<;>rcases hl with _|⟨a,hl⟩<;>cases hq<;>cases wq
    all_goals
     refine BO Tryz.func232 ?_;refine LR hb ?_;refine mq ?_
     first
      |refine ⟨dG (show (1:Nat)<=4294967296 by decide) dd,?_⟩
      |refine ⟨List.map bA _,⟨List.length_map _,λel he=>by obtain ⟨x,_,rfl⟩:=List.mem_map.1 he;rfl,rfl,xa (λ_=>rfl) _,dG (by rw [List.length_map];exact Nat.le_trans (Nat.succ_le_succ hw) dd) dd⟩,?_⟩
     refine mq ?_
     first|exact iL.bw _|exact D6
theorem NS {α:Type} (sz:Nat) (enc:α->List ae) (s:cj α) (h:s.bZ=false):cv sz enc s= .ag false sz (s.ab.map enc) .av:=by unfold cv;rw [h]
structure JQ (t:ib) (x:rH):Prop where
 Vh:t.eW.ab=x.mF
 NR:t.di.ab=x.nN
 afl:t.eW.bZ=false
 Vg:t.di.bZ=false
theorem JQ.afk {t:ib} {x:rH} (h:JQ t x):eY t=eY ⟨.jK x.mF, .jK x.nN⟩:=by
 unfold eY vw;rw [NS _ _ _ h.afl,NS _ _ _ h.Vg,h.Vh,h.NR];rfl
theorem JQ.Vf {t:ib} {x:rH} (h:JQ t x) (th lk:Int):JQ (iO t th lk).1 (oE th lk x).1/\(iO t th lk).2=(oE th lk x).2:=by
 unfold iO oE;rw [h.Vh,h.NR];cases x.mF.any λh=>decide (h=(⟨lk,th⟩:bX)) with
 |false=>exact ⟨h,rfl⟩
 |true=>
  dsimp only;cases x.nN.find? λw=>decide (w.eA=lk) with
  |none=>exact ⟨⟨rfl,h.NR,rfl,h.Vg⟩,rfl⟩
  |some n=>exact ⟨⟨rfl,rfl,rfl,rfl⟩,rfl⟩
theorem JR {α:Type} (p:α->Bool):∀ l:List α,(mC p l).length<=l.length/\(l.any p=true->(mC p l).length+1=l.length)
 |[]=>⟨Nat.le_refl _,λh=>by cases h⟩
 |a::l=>by
  unfold mC;have:=JR p l;split
  ·exact ⟨by simp,λ_=>rfl⟩
  ·rename_i hp;refine ⟨by simpa using this.1,λh=>?_⟩;rw [List.any_cons,Bool.or_eq_true] at h;rcases h with h|h
   ·exact absurd h hp
   ·simpa using this.2 h
theorem Vk (th lk:Int) (x:rH):(oE th lk x).1.mF.length<=x.mF.length/\(oE th lk x).1.nN.length<=x.nN.length:=by
 unfold oE;cases h:x.mF.any λh=>decide (h=(⟨lk,th⟩:bX)) with
 |false=>exact ⟨Nat.le_refl _,Nat.le_refl _⟩
 |true=>
  dsimp only;have h1:=(JR _ _).2 h;cases x.nN.find? λw=>decide (w.eA=lk) with
  |none=>exact ⟨by show (mC _ x.mF).length<=_;omega,Nat.le_refl _⟩
  |some n=>exact ⟨by show (mC _ x.mF++[n]).length<=_;rw [List.length_append];simp only [List.length_cons,List.length_nil];omega,(JR _ _).1⟩
structure zY (th:Int) (t0:ib) (held:List bX) (N:Nat) (k:Nat) (x:rH) (p:cj bX):Prop where
 afb:k<=held.length
 JO:∃ t,(held.take k).foldl (nI th) (t0, .dE)=(t,p)/\JQ t x
 JL:x.mF.length<=N
 JM:x.nN.length<=N
 JN:p.ab.length<=k
theorem zY.afd {th:Int} {t0:ib} {held:List bX} {N k:Nat} {x:rH} {p:cj bX} (h:zY th t0 held N k x p) (hlt:k<held.length) (hne:¬held[k].fZ=th):zY th t0 held N (k+1) x p:=by
 obtain ⟨t,e,hm⟩:=h.JO;refine ⟨hlt,⟨t,?_,hm⟩,h.JL,h.JM,Nat.le_succ_of_le h.JN⟩;rw [List.take_succ_eq_append_getElem hlt,List.foldl_append,e];exact if_neg hne
theorem zY.afc {th:Int} {t0:ib} {held:List bX} {N k:Nat} {x y:rH} {p:cj bX} (h:zY th t0 held N k x p) (hlt:k<held.length) (he:held[k].fZ=th) (hf:oE th held[k].eA x=(y, .none)):zY th t0 held N (k+1) y p:=by
 obtain ⟨t,e,hm⟩:=h.JO;have h1:=hm.Vf th held[k].eA;have h2:=Vk th held[k].eA x;rw [hf] at h1 h2;refine ⟨hlt,⟨(iO t th held[k].eA).1,?_,h1.1⟩,Nat.le_trans h2.1 h.JL,Nat.le_trans h2.2 h.JM,Nat.le_succ_of_le h.JN⟩;rw [List.take_succ_eq_append_getElem hlt,List.foldl_append,e];show nI th (t,p) held[k]=_;unfold nI;rw [if_pos he];have h3:=h1.2;generalize iO t th held[k].eA=r at h3 ⊢;obtain ⟨r1,r2⟩:=r;cases h3;rfl
theorem zY.afe {th:Int} {t0:ib} {held:List bX} {N k:Nat} {x y:rH} {p:cj bX} {z:Int} (h:zY th t0 held N k x p) (hlt:k<held.length) (he:held[k].fZ=th) (hf:oE th held[k].eA x=(y, .some z)):zY th t0 held N (k+1) y (p.jg ⟨held[k].eA,z⟩):=by
 obtain ⟨t,e,hm⟩:=h.JO;have h1:=hm.Vf th held[k].eA;have h2:=Vk th held[k].eA x;rw [hf] at h1 h2;refine ⟨hlt,⟨(iO t th held[k].eA).1,?_,h1.1⟩,Nat.le_trans h2.1 h.JL,Nat.le_trans h2.2 h.JM,by unfold cj.jg;rw [List.length_append];exact Nat.succ_le_succ h.JN⟩;rw [List.take_succ_eq_append_getElem hlt,List.foldl_append,e];show nI th (t,p) held[k]=_;unfold nI;rw [if_pos he];have h3:=h1.2;generalize iO t th held[k].eA=r at h3 ⊢;obtain ⟨r1,r2⟩:=r;cases h3;rfl
theorem zY.aff (th:Int) (hq wq:Bool) (a c:bX) (hl wl:List bX) (hh:(a::hl).length<=1048576) (hw:(c::wl).length<=1048576):zY th ⟨⟨hq,a::hl⟩,cj.gL ⟨wq,c::wl⟩ λw=>decide (w.fZ=th)⟩ (a::hl) 1048576 0 ⟨a::hl,[],(c::wl).filter λw=>!decide (w.fZ=th),[]⟩ .dE:=by
 refine ⟨Nat.zero_le _,⟨_,rfl,rfl,rfl,?_,?_⟩,hh,Nat.le_trans (List.length_filter_le _ _) hw,Nat.zero_le _⟩
 ·cases hq<;>rfl
 ·cases wq<;>rfl
structure D8 (th:Int) (t0:ib) (held:List bX) (wq:Bool) (k:Nat) (x:List bX):Prop where
 afg:k<=held.length
 JP:∃ t,(held.take k).foldl (nI th) (t0, .dE)=(t, .dE)/\t.eW.ab=x/\t.eW.bZ=false/\t.di=⟨wq,[]⟩
 NQ:x.length<=1048576
theorem D8.afj (th:Int) (hq wq:Bool) (a:bX) (hl:List bX) (hh:(a::hl).length<=1048576):D8 th ⟨⟨hq,a::hl⟩,cj.gL ⟨wq,[]⟩ λw=>decide (w.fZ=th)⟩ (a::hl) wq 0 (a::hl):=by
 refine ⟨Nat.zero_le _,⟨_,rfl,rfl,?_,?_⟩,hh⟩
 ·cases hq<;>rfl
 ·cases wq<;>rfl
theorem Vm {t:ib} {x:List bX} {wq:Bool} (h1:t.eW.ab=x) (h2:t.eW.bZ=false) (h3:t.di=⟨wq,[]⟩) (th lk:Int):
  (iO t th lk).1.eW.ab=(pr th lk x).1.1/\(iO t th lk).1.eW.bZ=false/\(iO t th lk).1.di=⟨wq,[]⟩/\(iO t th lk).2=none/\(pr th lk x).2=none/\(pr th lk x).1.1.length<=x.length:=by
 unfold iO pr;rw [h1,h3];cases x.any λh=>decide (h=(⟨lk,th⟩:bX)) with
 |false=>exact ⟨h1,h2,h3,rfl,rfl,Nat.le_refl _⟩
 |true=>exact ⟨rfl,rfl,rfl,rfl,rfl,(JR _ _).1⟩
theorem D8.afi {th:Int} {t0:ib} {held:List bX} {wq:Bool} {k:Nat} {x:List bX} (h:D8 th t0 held wq k x) (hlt:k<held.length) (hne:¬held[k].fZ=th):D8 th t0 held wq (k+1) x:=by
 obtain ⟨t,e,hm⟩:=h.JP;refine ⟨hlt,⟨t,?_,hm⟩,h.NQ⟩;rw [List.take_succ_eq_append_getElem hlt,List.foldl_append,e];exact if_neg hne
theorem D8.afh {th:Int} {t0:ib} {held:List bX} {wq:Bool} {k:Nat} {x:List bX} (h:D8 th t0 held wq k x) (hlt:k<held.length) (he:held[k].fZ=th):D8 th t0 held wq (k+1) (pr th held[k].eA x).1.1:=by
 obtain ⟨t,e,m1,m2,m3⟩:=h.JP;obtain ⟨f1,f2,f3,f4,f5,f6⟩:=Vm m1 m2 m3 th held[k].eA;refine ⟨hlt,⟨(iO t th held[k].eA).1,?_,f1,f2,f3⟩,Nat.le_trans f6 h.NQ⟩;rw [List.take_succ_eq_append_getElem hlt,List.foldl_append,e];show nI th (t, .dE) held[k]=_;unfold nI;rw [if_pos he];generalize iO t th held[k].eA=r at f4 ⊢;obtain ⟨r1,r2⟩:=r;cases f4;rfl
theorem afm (hq wq:Bool) (th:Int):aC Tryz.prog 274 [eY ⟨⟨hq,[]⟩,⟨wq,[]⟩⟩, .aa .i64 th] (.aw [eY (j7 ⟨⟨hq,[]⟩,⟨wq,[]⟩⟩ th).1,cv 2 bA (j7 ⟨⟨hq,[]⟩,⟨wq,[]⟩⟩ th).2]):=by
 have ht:eY ⟨⟨hq,[]⟩,⟨wq,[]⟩⟩= .aK [.ag hq 2 [] .av, .ag wq 2 [] .av]:=by
  unfold eY vw;rw [D0,D0]
 rw [ht];refine aC.CL dW jd (fn:=Tryz.f274) aG rfl aG rfl rfl ?_
 conv=>whnf
 refine bz.zo ?_;refine bz.sc dW jd (fn:=Tryz.f265) aG rfl aG rfl rfl ?_
 conv=>whnf
 refine ⟨0,_,_,_,rfl,mi.xR (JG hq) rfl,rfl,?_⟩
 conv=>whnf
 refine ⟨0,_,_,_,rfl,mi.xR (JG wq) rfl,rfl,?_⟩;refine ak ?_;refine bz.sc dW jd (fn:=Tryz.f300) aG rfl aG rfl rfl ?_
 conv=>whnf
 refine bz.Iy (es:=[(.af 1, .au 3 [.aa .i64 th])]) ⟨rfl,rfl,trivial⟩ rfl dd rfl rfl (U7 th wq [] (Nat.zero_le _)) ?_;rw [show fR (λh:bX=>decide (h.fZ=th)) []=-1 from rfl];refine ak ?_;refine db.cK (X:=Unit) (λ_=>[(.aj 4, .ah (.ar 2 0)),(.af 2, .au 34 [.ag true 1 [] .bR, .ag true 1 [] .bR]),(.aj 6, .ah (.ar 15 0)),(.aj 8, .ah (.ag true 1 [] .bR)),(.aj 30, .ah (.aa .i64 0)),(.aj 31, .ah (.aa .i64 0)),(.af 15, .au 415 [.ag hq 2 [] .bR, .ag wq 2 [] .bR])]) 16 (λ_=>True) (λ_=>0) dd () trivial ⟨rfl,rfl,rfl,rfl,rfl,rfl,rfl,rfl,rfl,rfl,rfl,rfl,rfl,rfl,trivial⟩ ?_;rintro ⟨⟩ _;refine cn ?_;refine ak ?_;rw [show eY (j7 ⟨⟨hq,[]⟩,⟨wq,[]⟩⟩ th).1= .aK [.ag hq 2 [] .av, .ag wq 2 [] .av] from by cases wq<;>cases hq<;>rfl];exact .ml (.aX (iL.bw _) (.aX (iL.eR _ _ _) .fa))
theorem afn (hq wq:Bool) (c:bX) (wl:List bX) (hw:(c::wl).length<=1048576) (th:Int):aC Tryz.prog 274 [eY ⟨⟨hq,[]⟩,⟨wq,c::wl⟩⟩, .aa .i64 th] (.aw [eY (j7 ⟨⟨hq,[]⟩,⟨wq,c::wl⟩⟩ th).1,cv 2 bA (j7 ⟨⟨hq,[]⟩,⟨wq,c::wl⟩⟩ th).2]):=by
 have ht:eY ⟨⟨hq,[]⟩,⟨wq,c::wl⟩⟩= .aK [.ag hq 2 [] .av, .ag false 2 ((c::wl).map bA) .av]:=by
  unfold eY vw;rw [D0,sQ]
 rw [ht];have hd:=U8 th true (c::wl) hw;refine aC.CL dW jd (fn:=Tryz.f274) aG rfl aG rfl rfl ?_
 conv=>whnf
 refine bz.zo ?_;refine bz.sc dW jd (fn:=Tryz.f265) aG rfl aG rfl rfl ?_
 conv=>whnf
 refine ⟨0,_,_,_,rfl,mi.xR (JG hq) rfl,rfl,?_⟩
 conv=>whnf
 have hpc:=zX ((c::wl).map bA) (Nat.succ_pos _) (by rw [List.length_map];exact hw);rw [List.length_map] at hpc;refine ⟨0,_,_,_,rfl,mi.tF hpc rfl,rfl,?_⟩;refine ak ?_;refine bz.tE (es:=[(.af 12, .aR 370 (((c::wl).map bA).flatten)),(.af 1, .au 3 [.aa .i64 th])]) (es':=[(.af 12, .aR 370 ((((c::wl).filter λa=>!decide (a.fZ=th)).map bA).flatten)),(.af 1, .au 3 [.aa .i64 th])]) ⟨rfl,rfl,rfl,rfl,trivial⟩ rfl rfl (uQ rfl rfl rfl) (m:=16) dd rfl rfl (res:= .aL 12 0 2 ((c::wl).filter λa=>!decide (a.fZ=th)).length true) ?_ ?_
 ·exact hd
 conv=>whnf
 refine db.cK (X:=Unit) (λ_=>[(.aj 4, .ah (.ar 2 0)),(.af 2, .au 34 [.ag true 1 [] .bR, .ag true 1 [] .bR]),(.aj 6, .ah (.ar 15 0)),(.aj 8, .ah (.ag true 1 [] .bR)),(.aj 30, .ah (.aa .i64 0)),(.aj 31, .ah (.aa .i64 0)),(.af 12, .aR 370 ((((c::wl).filter λa=>!decide (a.fZ=th)).map bA).flatten)),(.af 15, .au 415 [.ag hq 2 [] .bR, .aL 12 0 2 ((c::wl).filter λa=>!decide (a.fZ=th)).length true])]) 16 (λ_=>True) (λ_=>0) dd () trivial ⟨rfl,rfl,rfl,rfl,rfl,rfl,rfl,rfl,rfl,rfl,rfl,rfl,rfl,rfl,rfl,rfl,trivial⟩ ?_;rintro ⟨⟩ _;refine cn ?_;refine ak ?_;rw [show eY (j7 ⟨⟨hq,[]⟩,⟨wq,c::wl⟩⟩ th).1= .aK [.ag hq 2 [] .av, .ag false 2 (((c::wl).filter λa=>!decide (a.fZ=th)).map bA) .av] from by cases wq<;>cases hq<;>rfl];exact yE.yF (.gM (yE.zV (.gM (.mh (v:= .ag hq 2 [] .bR) rfl) (.gM (D3 (enc:=bA) (λ_=>rfl) (λ_=>rfl) rfl) .mZ))) (.gM (.H4 (.mh (v:= .ag true 1 [] .bR) rfl) (iL.eR _ _ _)) .mZ))
theorem afo (hq wq:Bool) (a:bX) (hl:List bX) (hh:(a::hl).length<=1048576) (th:Int):aC Tryz.prog 274 [eY ⟨⟨hq,a::hl⟩,⟨wq,[]⟩⟩, .aa .i64 th] (.aw [eY (j7 ⟨⟨hq,a::hl⟩,⟨wq,[]⟩⟩ th).1,cv 2 bA (j7 ⟨⟨hq,a::hl⟩,⟨wq,[]⟩⟩ th).2]):=by
 have ht:eY ⟨⟨hq,a::hl⟩,⟨wq,[]⟩⟩= .aK [.ag false 2 ((a::hl).map bA) .av, .ag wq 2 [] .av]:=by
  unfold eY vw;rw [sQ,D0]
 rw [ht];refine aC.CL dW jd (fn:=Tryz.f274) aG rfl aG rfl rfl ?_
 conv=>whnf
 refine bz.zo ?_;refine bz.sc dW jd (fn:=Tryz.f265) aG rfl aG rfl rfl ?_
 conv=>whnf
 have hpa:=zX ((a::hl).map bA) (Nat.succ_pos _) (by rw [List.length_map];exact hh);rw [List.length_map] at hpa;refine ⟨0,_,_,_,rfl,mi.tF hpa rfl,rfl,?_⟩
 conv=>whnf
 refine ⟨0,_,_,_,rfl,mi.xR (JG wq) rfl,rfl,?_⟩;refine ak ?_;refine bz.sc dW jd (fn:=Tryz.f300) aG rfl aG rfl rfl ?_
 conv=>whnf
 refine bz.Iy (es:=[(.af 1, .au 3 [.aa .i64 th])]) ⟨rfl,rfl,trivial⟩ rfl dd rfl rfl (U7 th wq [] (Nat.zero_le _)) ?_;rw [show fR (λh:bX=>decide (h.fZ=th)) []=-1 from rfl];refine ak ?_;have hel:((a::hl).map bA).length=(a::hl).length:=List.length_map _;refine db.cK (X:=Nat×List bX×List bX) (λs=>[(.aj 4, .ah (.ar 2 0)),(.af 2, .au 34 [.ag true 1 [] .bR, .ag true 1 [] .bR]),(.aj 3, .ah (.ar 1 0)),(.aj 6, .ah (.ar 15 0)),(.aj 7, .ah (.aP 270 [.ar 15 0] [])),(.aj 8, .ah (.ag true 1 [] .bR)),(.aj 29, .ah (.ag false 2 ((a::hl).map bA) .av)),(.aj 30, .ah (.aa .i64 (a::hl).length)),(.aj 31, .ah (.aa .i64 s.1)),(.af 1, .au 3 [.aa .i64 th]),
   (.af 9, .aR 370 (((s.2.1++s.2.2).map bA).flatten)),(.af 15, .au 415 [.aL 9 0 2 s.2.1.length true, .ag wq 2 [] .bR])]) 16
  (λs=>D8 th ⟨⟨hq,a::hl⟩,cj.gL ⟨wq,[]⟩ λw=>decide (w.fZ=th)⟩ (a::hl) wq s.1 s.2.1) (λs=>(a::hl).length - s.1) dd (0,a::hl,[]) ?_ ⟨rfl,rfl,rfl,rfl,rfl,rfl,rfl,rfl,rfl,rfl,rfl,rfl,rfl,rfl,?_,rfl,rfl,rfl,rfl,rfl,?_,rfl,rfl,rfl,trivial⟩ ?_
 ·exact D8.afj th hq wq a hl hh
 ·show bs.ah (ae.aa .i64 (((a::hl).map bA).length:Nat))=_;rw [hel]
 ·show bs.aR _ _=bs.aR _ _;rw [List.append_nil]
 rintro ⟨k,yl,yp⟩ hI;dsimp only at hI ⊢;have hk:=hI.afg;have hx1:=hI.NQ;refine cn ?_;refine ⟨λh=>?_,λh=>?_⟩
 ·have h:=of_decide_eq_true h;have hlt:k<(a::hl).length:=om;have hg:=lN bA hlt;have hskip:=λq=>hI.afi hlt q
  have hnext:=λq=>hI.afh hlt q
  have w1:IntKind.i64.wrap ((k:Int)+1)=((k+1:Nat):Int):=by rw [bj om om];rfl
  generalize (a::hl)[k]=b at*;refine ak ?_;refine ⟨λh=>?_,λh=>?_⟩
  ·have h:¬b.fZ=th:=by simpa using h
   conv=>whnf
   refine ⟨(k+1,yl,yp),hskip h,by show (a::hl).length - (k+1)<(a::hl).length - k;omega,rfl,rfl,rfl,rfl,rfl,rfl,rfl,rfl,rfl,rfl,rfl,rfl,rfl,rfl,rfl,rfl,?_,rfl,rfl,rfl,rfl,rfl,rfl,rfl,trivial⟩;exact dh
  ·have h:b.fZ=th:=by simpa using h
   have hf:=Vl wq yl yp th b.eA hx1;have hn:=hnext h;have h5:(pr th b.eA yl).2=none:=by
    obtain ⟨t,e,m1,m2,m3⟩:=hI.JP;exact (Vm m1 m2 m3 th b.eA).2.2.2.2.1
   conv=>whnf
   refine bz.tE (es:=GM wq yl yp) (es':=GM wq (pr th b.eA yl).1.1 (D9 th b.eA yl yp)) (res:=JK (pr th b.eA yl).2) (m:=16) ⟨rfl,rfl,rfl,rfl,trivial⟩ rfl rfl (uQ rfl rfl rfl) dd rfl rfl ?_ ?_
   ·exact hf
   rw [h5]
   conv=>whnf
   refine ⟨(k+1,(pr th b.eA yl).1.1,D9 th b.eA yl yp),hn,by show (a::hl).length - (k+1)<(a::hl).length - k;omega,rfl,rfl,rfl,rfl,rfl,rfl,rfl,rfl,rfl,rfl,rfl,rfl,rfl,rfl,rfl,rfl,?_,rfl,rfl,rfl,rfl,rfl,rfl,rfl,trivial⟩;exact dh
 ·have h:=of_decide_eq_false h;obtain rfl:k=(a::hl).length:=om;obtain ⟨t,e,m1,m2,m3⟩:=hI.JP;rw [List.take_length] at e;have hd:j7 ⟨⟨hq,a::hl⟩,⟨wq,[]⟩⟩ th=(t, .dE):=e;have he:eY t=eY ⟨.jK yl,⟨wq,[]⟩⟩:=by
   unfold eY vw;rw [NS _ _ _ m2,m1,m3];rfl
  rw [hd];dsimp only;rw [he]
  conv=>whnf
  exact yE.yF (.gM (Vj (hp:=yp) rfl) (.gM (.H4 (.mh (v:= .ag true 1 [] .bR) rfl) (iL.eR _ _ _)) .mZ))
theorem afp (hq wq:Bool) (a:bX) (hl:List bX) (hh:(a::hl).length<=1048576) (c:bX) (wl:List bX) (hw:(c::wl).length<=1048576) (th:Int):aC Tryz.prog 274 [eY ⟨⟨hq,a::hl⟩,⟨wq,c::wl⟩⟩, .aa .i64 th] (.aw [eY (j7 ⟨⟨hq,a::hl⟩,⟨wq,c::wl⟩⟩ th).1,cv 2 bA (j7 ⟨⟨hq,a::hl⟩,⟨wq,c::wl⟩⟩ th).2]):=by
 have ht:eY ⟨⟨hq,a::hl⟩,⟨wq,c::wl⟩⟩= .aK [.ag false 2 ((a::hl).map bA) .av, .ag false 2 ((c::wl).map bA) .av]:=by
  unfold eY vw;rw [sQ,sQ]
 rw [ht];have hd:=U8 th true (c::wl) hw;refine aC.CL dW jd (fn:=Tryz.f274) aG rfl aG rfl rfl ?_
 conv=>whnf
 refine bz.zo ?_;refine bz.sc dW jd (fn:=Tryz.f265) aG rfl aG rfl rfl ?_
 conv=>whnf
 have hpa:=zX ((a::hl).map bA) (Nat.succ_pos _) (by rw [List.length_map];exact hh);rw [List.length_map] at hpa;refine ⟨0,_,_,_,rfl,mi.tF hpa rfl,rfl,?_⟩
 conv=>whnf
 have hpc:=zX ((c::wl).map bA) (Nat.succ_pos _) (by rw [List.length_map];exact hw);rw [List.length_map] at hpc;refine ⟨0,_,_,_,rfl,mi.tF hpc rfl,rfl,?_⟩;refine ak ?_;refine bz.tE (es:=[(.af 12, .aR 370 (((c::wl).map bA).flatten)),(.af 1, .au 3 [.aa .i64 th])]) (es':=[(.af 12, .aR 370 ((((c::wl).filter λa=>!decide (a.fZ=th)).map bA).flatten)),(.af 1, .au 3 [.aa .i64 th])]) ⟨rfl,rfl,rfl,rfl,trivial⟩ rfl rfl (uQ rfl rfl rfl) (m:=16) dd rfl rfl (res:= .aL 12 0 2 ((c::wl).filter λa=>!decide (a.fZ=th)).length true) ?_ ?_
 ·exact hd
 conv=>whnf
 refine db.zd 8 370 2 rfl rfl (.inr rfl) ?_;have hel:((a::hl).map bA).length=(a::hl).length:=List.length_map _;refine db.cK (X:=Nat×rH×cj bX) (λs=>[(.aj 4, .ah (.ar 2 0)),(.af 2, .au 34 [.ag true 1 [] .bR, .ag true 1 [] .bR]),(.aj 3, .ah (.ar 1 0)),(.aj 6, .ah (.ar 15 0)),(.aj 7, .ah (.aP 270 [.ar 15 0] [])),(.aj 8, .ah (.ag s.2.2.bZ 2 (s.2.2.ab.map bA) (.dB 37))),(.aJ 37, .aN 370 2 s.2.2.ab.length),(.aj 29, .ah (.ag false 2 ((a::hl).map bA) .av)),(.aj 30, .ah (.aa .i64 (a::hl).length)),(.aj 31, .ah (.aa .i64 s.1)),(.af 1, .au 3 [.aa .i64 th]),
   (.af 9, .aR 370 (((s.2.1.mF++s.2.1.GK).map bA).flatten)),(.af 12, .aR 370 (((s.2.1.nN++s.2.1.GL).map bA).flatten)),(.af 15, .au 415 [.aL 9 0 2 s.2.1.mF.length true, .aL 12 0 2 s.2.1.nN.length true])]) 38
  (λs=>zY th ⟨⟨hq,a::hl⟩,cj.gL ⟨wq,c::wl⟩ λw=>decide (w.fZ=th)⟩ (a::hl) 1048576 s.1 s.2.1 s.2.2) (λs=>(a::hl).length - s.1) dd (0,⟨a::hl,[],(c::wl).filter λw=>!decide (w.fZ=th),[]⟩, .dE) ?_ ⟨rfl,rfl,rfl,rfl,rfl,rfl,rfl,rfl,rfl,rfl,rfl,rfl,rfl,rfl,rfl,rfl,?_,rfl,rfl,rfl,rfl,rfl,?_,rfl,?_,rfl,rfl,rfl,trivial⟩ ?_
 ·exact zY.aff th hq wq a c hl wl hh hw
 ·show bs.ah (ae.aa .i64 (((a::hl).map bA).length:Nat))=_;rw [hel]
 ·show bs.aR _ _=bs.aR _ _;rw [List.append_nil]
 ·show bs.aR _ _=bs.aR _ _;rw [List.append_nil]
 rintro ⟨k,x,p⟩ hI;dsimp only at hI ⊢;have hk:=hI.afb;have hx1:=hI.JL;have hx2:=hI.JM;have hx3:=hI.JN;refine cn ?_;refine ⟨λh=>?_,λh=>?_⟩
 ·have h:=of_decide_eq_true h;have hlt:k<(a::hl).length:=om;have hg:=lN bA hlt;have hskip:=λq=>hI.afd hlt q
  have hnone:=λq y=>hI.afc (y:=y) hlt q
  have hsome:=λq y z=>hI.afe (y:=y) (z:=z) hlt q
  have w1:IntKind.i64.wrap ((k:Int)+1)=((k+1:Nat):Int):=by rw [bj om om];rfl
  generalize (a::hl)[k]=b at*;refine ak ?_;refine ⟨λh=>?_,λh=>?_⟩
  ·have h:¬b.fZ=th:=by simpa using h
   conv=>whnf
   refine ⟨(k+1,x,p),hskip h,by show (a::hl).length - (k+1)<(a::hl).length - k;omega,rfl,rfl,rfl,rfl,rfl,rfl,rfl,rfl,rfl,rfl,rfl,rfl,rfl,rfl,rfl,rfl,rfl,rfl,?_,rfl,rfl,rfl,rfl,rfl,rfl,rfl,rfl,rfl,trivial⟩;exact dh
  ·have h:b.fZ=th:=by simpa using h
   have hf:=Vc x th b.eA hx1 hx2;have hn:=hnone h;have hs:=hsome h;generalize oE th b.eA x=r at*;obtain ⟨y,o⟩:=r
   conv=>whnf
   refine bz.tE (es:=D7 x) (es':=D7 y) (res:=JK o) (m:=16) ⟨rfl,rfl,rfl,rfl,rfl,rfl,trivial⟩ rfl rfl (uQ rfl rfl rfl) dd rfl rfl ?_ ?_
   ·exact hf
   cases o with
   |none=>
    have hn:=hn y rfl
    conv=>whnf
    refine ⟨(k+1,y,p),hn,by show (a::hl).length - (k+1)<(a::hl).length - k;omega,rfl,rfl,rfl,rfl,rfl,rfl,rfl,rfl,rfl,rfl,rfl,rfl,rfl,rfl,rfl,rfl,rfl,rfl,?_,rfl,rfl,rfl,rfl,rfl,rfl,rfl,rfl,rfl,trivial⟩;exact dh
   |some z=>
    have hs:=hs y z rfl;have hpl:(p.ab.map bA).length=p.ab.length:=List.length_map _;have hpm:(p.ab++[(⟨b.eA,z⟩:bX)]).map bA=p.ab.map bA++[bA ⟨b.eA,z⟩]:=List.map_append;have hpn:(p.ab++[(⟨b.eA,z⟩:bX)]).length=p.ab.length+1:=by rw [List.length_append];rfl
    conv=>whnf
    refine ⟨⟨hpl.symm,dG (by rw [hpl];show p.ab.length+1<=_;omega) dd⟩,?_⟩
    conv=>whnf
    refine ⟨(k+1,y,p.jg ⟨b.eA,z⟩),hs,by show (a::hl).length - (k+1)<(a::hl).length - k;omega,rfl,rfl,rfl,rfl,rfl,rfl,rfl,rfl,rfl,rfl,?_,rfl,?_,rfl,rfl,rfl,rfl,rfl,?_,rfl,rfl,rfl,rfl,rfl,rfl,rfl,rfl,rfl,trivial⟩
    ·show bs.ah (ae.ag (p.bZ && false) 2 (p.ab.map bA++[bA ⟨b.eA,z⟩]) (.dB 37))=bs.ah (ae.ag (false && _) 2 ((p.ab++[(⟨b.eA,z⟩:bX)]).map bA) (.dB 37));rw [hpm,Bool.and_false,Bool.false_and]
    ·show bs.aN _ 2 ((p.ab.map bA).length+1)=bs.aN _ 2 (p.ab++[(⟨b.eA,z⟩:bX)]).length;rw [hpl,hpn]
    ·exact dh
 ·have h:=of_decide_eq_false h;obtain rfl:k=(a::hl).length:=om;obtain ⟨t,e,hm⟩:=hI.JO;rw [List.take_length] at e;have hd:j7 ⟨⟨hq,a::hl⟩,⟨wq,c::wl⟩⟩ th=(t,p):=e;rw [hd];dsimp only;rw [hm.afk]
  conv=>whnf
  exact yE.yF (.gM (Vi x rfl rfl) (.gM (.mh (v:= .ag p.bZ 2 (p.ab.map bA) (.dB 37)) rfl) .mZ))
theorem afw (t:ib) (th:Int) (hh:t.eW.ab.length<=1048576) (hw:t.di.ab.length<=1048576):aC Tryz.prog 274 [eY t, .aa .i64 th] (.aw [eY (j7 t th).1,cv 2 bA (j7 t th).2]):=by
 obtain ⟨⟨hq,hl⟩,⟨wq,wl⟩⟩:=t;cases hl with
 |nil=>
  cases wl with
  |nil=>exact afm hq wq th
  |cons c wl=>exact afn hq wq c wl hw th
 |cons a hl=>
  cases wl with
  |nil=>exact afo hq wq a hl hh th
  |cons c wl=>exact afp hq wq a hl hh c wl hw th
theorem afz (l:List aI) (id:Int) (hh:lb l id=true->cZ l id<l.length) (hp:cZ l id<=l.length):cZ l id<=gG l id/\gG l id<=l.length:=by
 grind [gG]
theorem Vo (l:List aI) (id:Int) (h:lb l id=true):cZ l id<l.length:=by
 grind [lb]
theorem NT (l:List aI) (id:Int):cZ l id<=l.length:=List.Sublist.length_le (List.takeWhile_sublist _)
theorem afy (nil:Bool) (l:List aI) (o:aH) (u:wI) (hi:∀ n∈l,dX n.bc) (hl:l.length<=1000000) (hno:dX o.aY):
  aC Tryz.prog 246 [.ag nil 8 (cT l) .av,mV o,TF u] (.ag false 8 (cT (sJ l o u)) .av):=by
 obtain ⟨h1,h2⟩:=afz l o.aY (Vo l o.aY) (NT l o.aY);have hck:=Bw nil l hi om;have hsm:=TJ nil l om;have hof:=Dy o.aY hno;have hl1:=Bu nil false l [u.tN] (cZ l o.aY) (gG l o.aY) h1 h2 om (Nat.le_refl _);have hl0:=(Bu nil true l [] (cZ l o.aY) (gG l o.aY) h1 h2 om (Nat.zero_le _)).Qc (args':=[.ag nil 8 (cT l) .av, .aa .i64 (cZ l o.aY:Nat), .aa .i64 (gG l o.aY:Nat), .ag true 1 [] .av]) (.aX (.bw _) (.aX (.bw _) (.aX (.bw _) (.aX (.eR _ _ _) .fa))));rw [List.append_nil] at hl0;unfold sJ;refine bK Tryz.func246 ?_;refine cC ?_;cases hc:fH l with
 |false=>
  refine cC ?_;trivial
 |true=>
 have hpl:=Jk nil l o.aY om hc;have hup:(if lb l o.aY=true then (cZ l o.aY:Int)+1 else cZ l o.aY)=(gG l o.aY:Nat):=by
  grind [gG]
 have hh:=Vo l o.aY;have hpp:=NT l o.aY;generalize cZ l o.aY=p at*;generalize gG l o.aY=q at*;generalize lb l o.aY=hd at*;generalize jR o.aY=ok at*;obtain ⟨did,hadu,was⟩:=u;have w1:IntKind.i64.wrap ((p:Int)+1)=(p:Int)+1:=bj om om;refine cC ?_;have hR0:(if true=true/\did=true then (if ok=true/\hadu=true/\was.bc=o.aY then l.take p++[was]++l.drop q else l.take p++l.drop q) else l)=if did=true then (if ok=true/\hadu=true/\was.bc=o.aY then l.take p++[was]++l.drop q else l.take p++l.drop q) else l:=by simp
 rw [hR0];refine ⟨λhd1=>?_,λhd1=>?_⟩
 ·have hd1:did=false:=by simpa using hd1
  refine cC ?_;simp_all
 have hd1:did=true:=by simpa using hd1
 rw [if_pos hd1];refine cC ?_;refine ⟨λh3=>?_,λh3=>?_⟩
 ·rw [if_pos h3] at hup
  conv=>whnf
  rw [w1,hup];refine bz.eV hof rfl ?_
  conv=>whnf
  refine ⟨λh4=>?_,λh4=>?_⟩
  ·conv=>whnf
   refine ⟨λh5=>?_,λh5=>?_⟩
   ·conv=>whnf
    refine ⟨λh6=>?_,λh6=>?_⟩
    ·have h6:was.bc=o.aY:=by simpa using h6
     rw [if_pos ⟨h4,h5,h6⟩]
     conv=>whnf
     refine bz.eV (hl1) rfl ?_
     conv=>whnf
    ·have h6:¬was.bc=o.aY:=by simpa using h6
     rw [if_neg (λe=>h6 e.2.2)];exact dC
   ·rw [if_neg (λe=>by simp_all)];exact dC
  ·rw [if_neg (λe=>by simp_all)];exact dC
 ·rw [if_neg (by rw [h3];decide)] at hup;obtain rfl:p=q:=om
  conv=>whnf
  refine bz.eV hof rfl ?_
  conv=>whnf
  refine ⟨λh4=>?_,λh4=>?_⟩
  ·conv=>whnf
   refine ⟨λh5=>?_,λh5=>?_⟩
   ·conv=>whnf
    refine ⟨λh6=>?_,λh6=>?_⟩
    ·have h6:was.bc=o.aY:=by simpa using h6
     rw [if_pos ⟨h4,h5,h6⟩]
     conv=>whnf
     refine bz.eV (hl1) rfl ?_
     conv=>whnf
    ·have h6:¬was.bc=o.aY:=by simpa using h6
     rw [if_neg (λe=>h6 e.2.2)];exact dC
   ·rw [if_neg (λe=>by simp_all)];exact dC
  ·rw [if_neg (λe=>by simp_all)];exact dC
theorem Vp (g:eh) (s:iu) (hl:g.b8.ab.length<=1048576):aC Tryz.prog 154 [rG g,yq s] (.aE (kg g s)):=by
 have hi:=aeR s.dg s.dS g.b8.bZ g.b8.ab hl;unfold kg;refine bK Tryz.func154 ?_;exact dC
theorem Vr (g:eh) (h1:g.b8.ab.length<=1048576) (h2:g.aQ.ab.length<=1048576):aC Tryz.prog 225 [rG g] (rG g):=by
 have hc1:=aeK g.b8.bZ (g.b8.ab.map dY) (λh=>by rw [cj.wZ h];rfl) (by simp_all);have hc2:=U3 g.aQ.bZ (g.aQ.ab.map iF) (λh=>by rw [cj.wZ h];rfl) (by simp_all);refine bK Tryz.func225 ?_;exact bm
theorem Vq (g:eh) (hl:g.b8.ab.length<=1000000):aC Tryz.prog 22 [rG g] (.ag false 7 ((g.b8.ab.map (·.cF)).map cI) .av):=by
 obtain ⟨⟨eq,el⟩,⟨nq,nl⟩⟩:=g;have hl:el.length<=1000000:=hl;have hel:(el.map dY).length=el.length:=List.length_map _;refine cU Tryz.func22 ?_
 conv=>whnf
 refine ⟨⟨om,dG (by grind) dd⟩,?_⟩
 conv=>whnf
 refine db.cK (λk:Nat=>[(.aj 3, .ah (.ag false 7 (((el.take k).map (·.cF)).map cI) (.dB 5))),(.aJ 5, .aN 130 7 k),(.aj 11, .ah (.ag (eq && el.isEmpty) 17 (el.map dY) .av)),(.aj 12, .ah (.aa .i64 el.length)),(.aj 13, .ah (.aa .i64 k))]) 6
  (λk=>k<=el.length) (λk=>el.length - k) dd 0 (Nat.zero_le _) ⟨rfl,rfl,rfl,rfl,rfl,rfl,?_,rfl,rfl,rfl,trivial⟩ ?_
 ·show bs.ah (ae.aa .i64 ((el.map dY).length:Nat))=_;rw [hel]
 intro k hk;refine cn ?_;refine ⟨λh=>?_,λh=>?_⟩
 ·have h:=of_decide_eq_true h;have hlt:k<el.length:=om;have hg:=lN dY hlt;have w1:IntKind.i64.wrap ((k:Int)+1)=((k+1:Nat):Int):=by grind [bj]
  have ht:((el.take (k+1)).map (·.cF)).map cI=((el.take k).map (·.cF)).map cI++[cI el[k].cF]:=by grind [List.take_succ_eq_append_getElem]
  have htl:(((el.take k).map (·.cF)).map cI).length=k:=by simp_all
  generalize el[k]=e at*;refine ak ?_;refine ⟨⟨htl.symm,dG (by grind) dd⟩,?_⟩
  conv=>whnf
  refine ⟨k+1,om,by grind,?_,rfl,?_,rfl,rfl,rfl,rfl,rfl,?_,rfl,trivial⟩
  ·rw [ht];rfl
  ·show bs.aN _ 7 ((((el.take k).map (·.cF)).map cI).length+1)=_;rw [htl]
  ·exact dh
 ·have h:=of_decide_eq_false h;obtain rfl:k=el.length:=om;rw [List.take_length];exact bm
theorem afC {l:List aI} {o:aH} {u:wI} {n:aI} (h:n∈sJ l o u):n∈l\/n.bc=o.aY:=by
 grind [sJ]
theorem afB (l:List aI) (o:aH) (u:wI):(sJ l o u).length<=l.length+1:=by
 have h1:=NT l o.aY;have h2:cZ l o.aY<=gG l o.aY:=by grind [gG]
 grind [sJ]
structure xb (N:Nat) (l:List aI):Prop where
 vB:∀ n∈l,dX n.bc
 rI:l.length<=N
theorem xb.afA {N:Nat} {l:List aI} (h:xb N l) (o:aH) (u:wI) (ho:dX o.aY):xb (N+1) (sJ l o u):=
 ⟨λn hn=>by rcases afC hn with h1|h1;exact h.vB n h1;rw [h1];exact ho,Nat.le_trans (afB l o u) (Nat.succ_le_succ h.rI)⟩
theorem xb.JS {N:Nat} {l:List aI} (h:xb N l) (o:aH) (ho:dX o.aY):xb (N+1) (jm l o):=
 ⟨λn hn=>by rcases I4 hn with h1|⟨_,_,h1⟩;exact h.vB n h1;rw [h1];exact ho,Nat.le_trans (SL l o) (Nat.succ_le_succ h.rI)⟩
theorem NU (at_:iu):∀ (l:List iG) (k:Nat) (_:k<=l.length),(∀ e∈l.take k,jQ at_ e.cF.aT=true)->(∀ h:k<l.length,jQ at_ l[k].cF.aT=false)->rz at_ l=k
 |[],0,_,_,_=>rfl
 |a::l,0,_,_,h=>by
  grind [rz,List.takeWhile_cons]
 |a::l,k+1,hk,h1,h2=>by
  have ha:=h1 a (by simp);have:=NU at_ l k (by simpa using hk) (λe he=>h1 e (by simp [he])) (λh=>h2 (by simpa using h));grind [rz,List.takeWhile_cons]
theorem afD (g:eh) (o:aH) (hf:lZ o) (hE:∀ e∈g.b8.ab,lZ e.cF) (he:g.b8.ab.length<=100000) (hN:xb 100000 g.aQ.ab):aC Tryz.prog 215 [rG g,mV o] (.aw [rG (eF g o).1, .aa .i64 (eF g o).2]):=by
 have hck:=Bv o hf;have hhas:=Vp g o.aT om;have hsame:=Vr g om (Nat.le_trans hN.rI dd);unfold eF;refine cU Tryz.func215 ?_;refine ak ?_;cases hq:cJ o with
 |false=>
  exact bm
 |true=>
 refine ak ?_;cases hq2:kg g o.aT with
 |true=>
  exact bm
 |false=>
 obtain ⟨⟨eq,el⟩,⟨nq,nl⟩⟩:=g;have hel:(el.map dY).length=el.length:=List.length_map _;refine ak ?_;refine ⟨λh200=>?_,λh200=>?_⟩
 ·have h200:(((el.map dY).length:Nat):Int)>=200:=of_decide_eq_true h200;rw [hel] at h200;rw [if_neg dd,if_neg Bool.false_ne_true,if_pos (show 200<=el.length by omega)];exact bm
 have h200:¬(((el.map dY).length:Nat):Int)>=200:=of_decide_eq_false h200;rw [hel] at h200;rw [if_neg dd,if_neg Bool.false_ne_true,if_neg (show ¬200<=el.length by omega)];have hE:∀ e∈el,lZ e.cF:=hE;have hN:xb 100000 nl:=hN;clear hck hhas hsame;refine ak ?_;refine db.cK (X:=Nat×cj aI) (λx=>[(.aj 2, .ah (.ar 0 0)),(.aj 3, .ah (.ar 1 0)),(.aj 4, .ah (.ar 2 0)),(.aj 6, .ah (.ar 21 0)),(.aj 7, .ah (.aa .i64 (el.length - x.1:Nat))),(.aj 41, .ah (.aa .i64 el.length)),(.aj 42, .ah (.aa .i64 x.1)),
   (.af 0, .au 27 [.ag (eq && el.isEmpty) 17 (el.map dY) .av, .ag (nq && nl.isEmpty) 8 (nl.map iF) .av]),(.af 1, .au 130 [.aa .i64 o.aT.dg, .aa .i64 o.aT.dS, .aa .i64 o.fc, .aa .i64 o.aY, .aa .i64 o.gg, .ai o.j4, .ai o.j3]),(.af 2, .au 27 [.ag true 1 [] .bR, .ag true 1 [] .bR]),(.af 21, .au 25 [.ag (x.2.dI && x.2.ab.isEmpty) 8 (x.2.ab.map iF) .av])]) 22
  (λx=>x.1<=el.length/\(∀ e∈el.reverse.take x.1,jQ o.aT e.cF.aT=true)/\x.2=(el.reverse.take x.1).foldl yy ⟨nq,nl⟩/\xb (100000+x.1) x.2.ab) (λx=>el.length - x.1) dd (0,⟨nq,nl⟩) ⟨Nat.zero_le _,by simp,rfl,hN⟩ ⟨rfl,rfl,rfl,rfl,rfl,rfl,rfl,rfl,?_,rfl,?_,rfl,rfl,rfl,rfl,rfl,rfl,rfl,rfl,rfl,rfl,rfl,trivial⟩ ?_
 ·show bs.ah (ae.aa .i64 ((el.map dY).length:Nat))=bs.ah (ae.aa .i64 (el.length - 0:Nat));rw [hel];rfl
 ·show bs.ah (ae.aa .i64 ((el.map dY).length:Nat))=_;rw [hel]
 rintro ⟨k,n⟩ ⟨hk,hno,hn,hNk⟩;dsimp only at hk hno hn hNk ⊢;refine cn ?_;have hrl:el.reverse.length=el.length:=List.length_reverse
 conv=>whnf
 refine ⟨λh=>?_,λh=>?_⟩
 ·have h:=of_decide_eq_true h;have hlt:k<el.length:=om;have hltr:k<el.reverse.length:=om;have hix:el.length - 1 - k<el.length:=om;have hrev:el.reverse[k]=el[el.length - 1 - k]:=List.getElem_reverse hltr;have hg:=lN dY hix;have hFe:lZ el[el.length - 1 - k].cF:=hE _ (List.getElem_mem hix);have hless:=MU o.aT el[el.length - 1 - k].cF.aT;have hback:=afy (n.dI && n.ab.isEmpty) n.ab el[el.length - 1 - k].cF el[el.length - 1 - k].qG hNk.vB (Nat.le_trans hNk.rI om) hFe.wQ;have hNb:=hNk.afA el[el.length - 1 - k].cF el[el.length - 1 - k].qG hFe.wQ;have htk:el.reverse.take (k+1)=el.reverse.take k++[el[el.length - 1 - k]]:=by grind [List.take_succ_eq_append_getElem]
  have hbe:=NU o.aT el.reverse k om hno;have w0:IntKind.i64.wrap ((k:Int)+1)=((k+1:Nat):Int):=by grind [bj]
  have w1:IntKind.i64.wrap (IntKind.i64.wrap ((el.length:Int) - 1) - k)=((el.length - 1 - k:Nat):Int):=by rw [bj (x:=(el.length:Int) - 1) om om,bj om om];omega
  have w2:IntKind.i64.wrap (((el.length - k:Nat):Int) - 1)=((el.length - (k+1):Nat):Int):=by grind [bj]
  generalize hx:el[el.length - 1 - k]=a at*
  conv=>whnf
  rw [hel,w1];refine ak ?_;cases hq3:jQ o.aT a.cF.aT with
  |false=>
   refine iV ?_;have hb:rz o.aT el.reverse=k:=hbe λh=>by simp_all
   clear hless hback hNb htk hbe hg hFe hx;rw [hb];have hdo:=Jg (n.dI && n.ab.isEmpty) n.ab o hNk.vB (Nat.le_trans hNk.rI om) hf;have hNd:=hNk.JS o hf.wQ;have hfk:el.length - k<=el.length:=Nat.sub_le _ _;have hnl:n.ab.length<=200000:=Nat.le_trans hNk.rI om;generalize el.length - k=F at*
   conv=>whnf
   refine ⟨⟨om,om,rfl⟩,?_⟩
   conv=>whnf
   refine bn Tryz.func247 ?_;refine ak ?_;refine ⟨dG (by grind) dd,?_⟩;refine cC ?_;have hdrl:(el.drop F).length=el.length - F:=List.length_drop;have hdm:((el.map dY).drop F)=(el.drop F).map dY:=List.map_drop.symm;have htm:((el.map dY).take F)=(el.take F).map dY:=List.map_take.symm;have htl:(el.take F).length=F:=by simp_all
   rw [Int.toNat_natCast,hdm,htm];refine db.cK (X:=Nat×List iG×List aI) (λx=>[(.aj 4, .ah (.ar 2 0)),(.aj 6, .ah (.ar 21 0)),(.aj 10, .ah (.ar 48 0)),(.aj 11, .ah (.aP 247 [] [.ar 21 0, .ar 48 0])),(.aj 83, .ah (.ag (eq && el.isEmpty) 17 ((el.drop F).map dY) .av)),(.aj 84, .ah (.aa .i64 (el.length - F:Nat))),(.aj 85, .ah (.aa .i64 x.1)),
     (.aJ 68, .aN 140 17 x.2.1.length),(.af 2, .au 27 [.ag true 1 [] .bR, .ag true 1 [] .bR]),(.af 21, .au 25 [.ag false 8 (x.2.2.map iF) .av]),(.af 48, .au 24 [.ag false 17 (x.2.1.map dY) (.dB 68)])]) 69
    (λx=>x.1<=el.length - F/\(((el.drop F).take x.1).map (·.cF)).foldl vo (vo ⟨⟨eq,el.take F⟩,n⟩ o)=⟨⟨false,x.2.1⟩,⟨false,x.2.2⟩⟩/\x.2.1.length<=F+1+x.1/\xb (200001+x.1) x.2.2) (λx=>el.length - F - x.1) dd (0,el.take F++[⟨o,lf n.ab o⟩],jm n.ab o) ⟨Nat.zero_le _,rfl,by simp_all,⟨hNd.vB,Nat.le_trans hNd.rI om⟩⟩ ⟨rfl,rfl,rfl,rfl,rfl,rfl,rfl,rfl,rfl,rfl,?_,rfl,rfl,rfl,?_,rfl,rfl,rfl,rfl,rfl,?_,rfl,trivial⟩ ?_
   ·show bs.ah (ae.aa .i64 (((el.drop F).map dY).length:Nat))=_;simp_all
   ·show bs.aN _ 17 (((el.take F).map dY).length+1)=bs.aN _ 17 (el.take F++[(⟨o,lf n.ab o⟩:iG)]).length;simp_all
   ·show bs.au _ [ae.ag ((eq && el.isEmpty) && false) 17 ((el.take F).map dY++[dY ⟨o,lf n.ab o⟩]) (.dB 68)]=bs.au _ [ae.ag false 17 ((el.take F++[(⟨o,lf n.ab o⟩:iG)]).map dY) (.dB 68)];simp_all
   rintro ⟨j,es,ns⟩ ⟨hj,hfold,hesl,hns⟩;dsimp only at hj hfold hesl hns ⊢;refine cn ?_;refine ⟨λh=>?_,λh=>?_⟩
   ·have h:=of_decide_eq_true h;have hlt:j<(el.drop F).length:=om;have hg:=lN dY hlt;have hFe:lZ (el.drop F)[j].cF:=hE _ (List.mem_of_mem_drop (List.getElem_mem hlt));have hdo2:=Jg false ns (el.drop F)[j].cF hns.vB (Nat.le_trans hns.rI om) hFe;have hnd2:=hns.JS (el.drop F)[j].cF hFe.wQ;have htk2:(((el.drop F).take (j+1)).map (·.cF))=(((el.drop F).take j).map (·.cF))++[(el.drop F)[j].cF]:=by grind [List.take_succ_eq_append_getElem]
    have w0:IntKind.i64.wrap ((j:Int)+1)=((j+1:Nat):Int):=by grind [bj]
    have hesm:(es.map dY).length=es.length:=List.length_map _;generalize hx2:(el.drop F)[j]=a at*;refine ak ?_;refine bn Tryz.func247 ?_;refine ak ?_;refine ⟨⟨hesm.symm,dG (by grind) dd⟩,?_⟩
    conv=>whnf
    refine ⟨(j+1,es++[⟨a.cF,lf ns a.cF⟩],jm ns a.cF),⟨om,?_,by grind,⟨hnd2.vB,Nat.le_trans hnd2.rI om⟩⟩,by grind,rfl,rfl,rfl,rfl,rfl,rfl,rfl,rfl,rfl,rfl,rfl,rfl,?_,rfl,?_,rfl,rfl,rfl,rfl,rfl,?_,rfl,trivial⟩
    ·show (((el.drop F).take (j+1)).map (·.cF)).foldl _ _=_;rw [htk2,List.foldl_append,hfold];rfl
    ·exact dh
    ·show bs.aN _ 17 ((es.map dY).length+1)=bs.aN _ 17 (es++[(⟨a.cF,lf ns a.cF⟩:iG)]).length;simp_all
    ·show bs.au _ [ae.ag (false && false) 17 (es.map dY++[dY ⟨a.cF,lf ns a.cF⟩]) (.dB 68)]=bs.au _ [ae.ag false 17 ((es++[(⟨a.cF,lf ns a.cF⟩:iG)]).map dY) (.dB 68)];simp_all
   ·have h:=of_decide_eq_false h;obtain rfl:j=el.length - F:=om;have h9:(el.drop F).take (el.length - F)=el.drop F:=List.take_of_length_le om;rw [h9] at hfold;have hres:(o::(el.drop F).map (·.cF)).foldl vo ⟨⟨eq,el.take F⟩,n⟩=⟨⟨false,es⟩,⟨false,ns⟩⟩:=hfold;have hnn:(el.reverse.take k).foldl yy ⟨nq,nl⟩=n:=hn.symm;dsimp only;rw [hnn,hres];exact bm
  |true=>
   refine iV ?_;refine bz.eV hback rfl ?_
   conv=>whnf
   rw [w2];refine ⟨(k+1, .jK (sJ n.ab a.cF a.qG)),⟨om,λe he=>?_,?_,by trivial⟩,by grind,rfl,rfl,rfl,rfl,rfl,rfl,rfl,rfl,rfl,rfl,rfl,rfl,?_,rfl,rfl,rfl,rfl,rfl,rfl,rfl,rfl,rfl,trivial⟩
   ·grind
   ·grind [yy]
   ·exact dh
 ·have h:=of_decide_eq_false h;have hb:rz o.aT el.reverse=k:=NU o.aT el.reverse k om hno λh'=>absurd h' om
  rw [hb];have hdo:=Jg (n.dI && n.ab.isEmpty) n.ab o hNk.vB (Nat.le_trans hNk.rI om) hf;have hNd:=hNk.JS o hf.wQ;have hfk:el.length - k<=el.length:=Nat.sub_le _ _;have hnl:n.ab.length<=200000:=Nat.le_trans hNk.rI om;generalize el.length - k=F at*
  conv=>whnf
  refine ⟨⟨om,om,rfl⟩,?_⟩
  conv=>whnf
  refine bn Tryz.func247 ?_;refine ak ?_;refine ⟨dG (by grind) dd,?_⟩;refine cC ?_;have hdrl:(el.drop F).length=el.length - F:=List.length_drop;have hdm:((el.map dY).drop F)=(el.drop F).map dY:=List.map_drop.symm;have htm:((el.map dY).take F)=(el.take F).map dY:=List.map_take.symm;have htl:(el.take F).length=F:=by simp_all
  rw [Int.toNat_natCast,hdm,htm];refine db.cK (X:=Nat×List iG×List aI) (λx=>[(.aj 4, .ah (.ar 2 0)),(.aj 6, .ah (.ar 21 0)),(.aj 10, .ah (.ar 28 0)),(.aj 11, .ah (.aP 247 [] [.ar 21 0, .ar 28 0])),(.aj 83, .ah (.ag (eq && el.isEmpty) 17 ((el.drop F).map dY) .av)),(.aj 84, .ah (.aa .i64 (el.length - F:Nat))),(.aj 85, .ah (.aa .i64 x.1)),
    (.aJ 48, .aN 140 17 x.2.1.length),(.af 2, .au 27 [.ag true 1 [] .bR, .ag true 1 [] .bR]),(.af 21, .au 25 [.ag false 8 (x.2.2.map iF) .av]),(.af 28, .au 24 [.ag false 17 (x.2.1.map dY) (.dB 48)])]) 49
   (λx=>x.1<=el.length - F/\(((el.drop F).take x.1).map (·.cF)).foldl vo (vo ⟨⟨eq,el.take F⟩,n⟩ o)=⟨⟨false,x.2.1⟩,⟨false,x.2.2⟩⟩/\x.2.1.length<=F+1+x.1/\xb (200001+x.1) x.2.2) (λx=>el.length - F - x.1) dd (0,el.take F++[⟨o,lf n.ab o⟩],jm n.ab o) ⟨Nat.zero_le _,rfl,by simp_all,⟨hNd.vB,Nat.le_trans hNd.rI om⟩⟩ ⟨rfl,rfl,rfl,rfl,rfl,rfl,rfl,rfl,rfl,rfl,?_,rfl,rfl,rfl,?_,rfl,rfl,rfl,rfl,rfl,?_,rfl,trivial⟩ ?_
  ·show bs.ah (ae.aa .i64 (((el.drop F).map dY).length:Nat))=_;simp_all
  ·show bs.aN _ 17 (((el.take F).map dY).length+1)=bs.aN _ 17 (el.take F++[(⟨o,lf n.ab o⟩:iG)]).length;simp_all
  ·show bs.au _ [ae.ag ((eq && el.isEmpty) && false) 17 ((el.take F).map dY++[dY ⟨o,lf n.ab o⟩]) (.dB 48)]=bs.au _ [ae.ag false 17 ((el.take F++[(⟨o,lf n.ab o⟩:iG)]).map dY) (.dB 48)];simp_all
  rintro ⟨j,es,ns⟩ ⟨hj,hfold,hesl,hns⟩;dsimp only at hj hfold hesl hns ⊢;refine cn ?_;refine ⟨λh=>?_,λh=>?_⟩
  ·have h:=of_decide_eq_true h;have hlt:j<(el.drop F).length:=om;have hg:=lN dY hlt;have hFe:lZ (el.drop F)[j].cF:=hE _ (List.mem_of_mem_drop (List.getElem_mem hlt));have hdo2:=Jg false ns (el.drop F)[j].cF hns.vB (Nat.le_trans hns.rI om) hFe;have hnd2:=hns.JS (el.drop F)[j].cF hFe.wQ;have htk2:(((el.drop F).take (j+1)).map (·.cF))=(((el.drop F).take j).map (·.cF))++[(el.drop F)[j].cF]:=by grind [List.take_succ_eq_append_getElem]
   have w0:IntKind.i64.wrap ((j:Int)+1)=((j+1:Nat):Int):=by grind [bj]
   have hesm:(es.map dY).length=es.length:=List.length_map _;generalize hx2:(el.drop F)[j]=a at*;refine ak ?_;refine bn Tryz.func247 ?_;refine ak ?_;refine ⟨⟨hesm.symm,dG (by grind) dd⟩,?_⟩
   conv=>whnf
   refine ⟨(j+1,es++[⟨a.cF,lf ns a.cF⟩],jm ns a.cF),⟨om,?_,by grind,⟨hnd2.vB,Nat.le_trans hnd2.rI om⟩⟩,by grind,rfl,rfl,rfl,rfl,rfl,rfl,rfl,rfl,rfl,rfl,rfl,rfl,?_,rfl,?_,rfl,rfl,rfl,rfl,rfl,?_,rfl,trivial⟩
   ·show (((el.drop F).take (j+1)).map (·.cF)).foldl _ _=_;rw [htk2,List.foldl_append,hfold];rfl
   ·exact dh
   ·show bs.aN _ 17 ((es.map dY).length+1)=bs.aN _ 17 (es++[(⟨a.cF,lf ns a.cF⟩:iG)]).length;simp_all
   ·show bs.au _ [ae.ag (false && false) 17 (es.map dY++[dY ⟨a.cF,lf ns a.cF⟩]) (.dB 48)]=bs.au _ [ae.ag false 17 ((es++[(⟨a.cF,lf ns a.cF⟩:iG)]).map dY) (.dB 48)];simp_all
  ·have h:=of_decide_eq_false h;obtain rfl:j=el.length - F:=om;have h9:(el.drop F).take (el.length - F)=el.drop F:=List.take_of_length_le om;rw [h9] at hfold;have hres:(o::(el.drop F).map (·.cF)).foldl vo ⟨⟨eq,el.take F⟩,n⟩=⟨⟨false,es⟩,⟨false,ns⟩⟩:=hfold;have hnn:(el.reverse.take k).foldl yy ⟨nq,nl⟩=n:=hn.symm;dsimp only;rw [hnn,hres];exact bm
end Go.Proofs.YtffboamedcmpaaaGreatDoor
namespace Gw
theorem NV {o:aH} (h:cJ o=true):o.j4.length<=80/\o.j3.length<=64:=by
 unfold cJ at h;split at h
 ·rw [Bool.and_eq_true,Bool.and_eq_true] at h;have h2:=h.2.2;unfold uY at h2;simp only [Bool.and_eq_true,decide_eq_true_eq] at h2;obtain ⟨_,_,_,h5,h6⟩:=h2;exact ⟨aef h5,by rw [h6];exact Nat.zero_le _⟩
 ·split at h
  ·rw [Bool.and_eq_true,Bool.and_eq_true] at h;have h2:=h.2.2;unfold wH at h2;simp only [Bool.and_eq_true,decide_eq_true_eq] at h2;obtain ⟨_,_,h4,_,h6⟩:=h2;exact ⟨by rw [h6];exact Nat.zero_le _,h4⟩
  ·cases h
structure iy (g:eh):Prop where
 xc:mE g.b8.ab g.aQ.ab
 qL:g.b8.ab.length<=200
 xd:∀ e∈g.b8.ab,cJ e.cF=true
theorem iy.afE:iy UO:=⟨.zS,Nat.zero_le _,λ_ h=>by cases h⟩
theorem iy.Ea {g:eh} (h:iy g) (o:aH):iy (eF g o).1:=by
 obtain ⟨h1,h2,h3⟩:=aex h.xc o;refine ⟨h1,?_,λe he=>?_⟩
 ·rcases h3 with h3|⟨h3,h4,_⟩
  ·exact Nat.le_trans h3 h.qL
  ·omega
 ·rcases h2 e.cF (List.mem_map.2 ⟨e,he,rfl⟩) with h4|⟨h4,h5⟩
  ·obtain ⟨e',h6,h7⟩:=List.mem_map.1 h4;rw [<-h7];exact h.xd e' h6
  ·rw [h4];exact h5
theorem afF {es:List iG} {l:List aI} (h:mE es l) (hm:∀ e∈es,cJ e.cF=true):∀ n∈l,128<=n.bc/\n.bc<134217856:=by
 induction h with
 |zS=>exact λn hn=>by cases hn
 |zT h o ih=>
  intro n hn;rcases I4 hn with h1|⟨_,_,h1⟩
  ·exact ih (λe he=>hm e (List.mem_append_left _ he)) n h1
  ·rw [h1];exact (Di (hm _ (List.mem_append_right _ (List.mem_singleton.2 rfl)))).2.2.2.1
theorem iy.BP {g:eh} (h:iy g):g.aQ.ab.length<=200:=Nat.le_trans h.xc.aew h.qL
theorem iy.Vs {g:eh} (h:iy g):∀ n∈g.aQ.ab,128<=n.bc/\n.bc<134217856:=afF h.xc h.xd
theorem NY {o:aH} (h:cJ o=true):(o.fc=1/\uY o=true)\/(o.fc=2/\wH o=true):=by
 grind [cJ]
theorem NZ {o:aH} (h:cJ o=true):(o.fc=1/\o.j3=[])\/(o.fc=2/\o.j4=[]/\o.gg=0/\o.j3.length<=64):=by
 grind [NY,uY,wH]
theorem afN (t rest:List UInt8) (h:t.length<9223372036854775808):Go.Proofs.YtffboamedcmpaaaGreatDoor.pL (bW t.length++(t++rest))=some (t.length,(bW t.length).length):=by
 grind [Go.Proofs.YtffboamedcmpaaaGreatDoor.pL,wL]
theorem Vy (mk:List UInt8->aH) (t rest:List UInt8) (h:t.length<9223372036854775808):mW mk (bW t.length++(t++rest))=tV (mk t) rest:=by
 grind [mW,afN]
theorem NW {o:aH} (hk:o.fc=1):dM o=bW o.aT.dg.toNat++(bW o.aT.dS.toNat++(bW 1++(bW o.aY.toNat++(bW o.gg.toNat++(bW o.j4.length++o.j4))))):=by
 grind [dM,Dj,iv,jA]
theorem NX {o:aH} (hk:o.fc=2):dM o=bW o.aT.dg.toNat++(bW o.aT.dS.toNat++(bW 2++(bW o.aY.toNat++(bW o.j3.length++o.j3)))):=by
 unfold dM Dj iv jA;simp_all
theorem VD (s:List UInt8):∀ (f p:Nat) (acc l:List Int),s.length<p+f->pc s f p acc=some l->s.length+4*acc.length<=4*l.length+p
 |0,p,acc,l,hf,h=>by grind [pc]
 |f+1,p,acc,l,hf,h=>by
  rw [pc] at h;have hd:=IZ s p;have hd4:=Mi s p;split at h
  ·split at h
   ·have:=VD s f _ _ _ om h;grind
   ·cases h
  grind
theorem afI {s:List UInt8} (h:o8 s=true):s.length<=80:=by
 unfold o8 at h;cases hs:mw s with
 |none=>simp_all
 |some l=>
  rw [hs] at h;simp only at h;have h2:=VD s _ _ _ _ om hs;grind [Df]
theorem N1 {o:aH} (h:cJ o=true):o.j4.length<=80/\o.j3.length<=64:=by
 rcases NY h with ⟨hk,h1⟩|⟨hk,h1⟩
 ·grind [uY,afI]
 grind [wH]
theorem VE {n:Nat} (h:n<9223372036854775808) (l:List UInt8):kO (bW n++l)=wU n l:=by
 grind [kO,wL]
theorem Vv {c n:Nat} (h:n<9223372036854775808) (l:List UInt8):wU c (bW n++l)=wV c n l:=by
 grind [wU,wL]
theorem Vw {c r n:Nat} (h:n<9223372036854775808) (l:List UInt8):wV c r (bW n++l)=wW c r n l:=by
 grind [wV,wL]
theorem Vx {c r k n:Nat} (h:n<9223372036854775808) (l:List UInt8):wW c r k (bW n++l)=vh c r k n l:=by
 grind [wW,wL]
theorem afH {c r k n:Nat} (h:n<9223372036854775808) (l:List UInt8):tW c r k (bW n++l)=yu c r k n l:=by
 grind [tW,wL]
theorem afO {o:aH} (h:cJ o=true) (rest:List UInt8):kO (dM o++rest)=some (o,rest):=by
 have hn:=(N1 h).1;obtain ⟨hc,hr,hk,hnode,hp⟩:=Di h;have ec:((o.aT.dg.toNat:Nat):Int)=o.aT.dg:=om;have er:((o.aT.dS.toNat:Nat):Int)=o.aT.dS:=om;have en:((o.aY.toNat:Nat):Int)=o.aY:=om;have ep:((o.gg.toNat:Nat):Int)=o.gg:=om;obtain ⟨⟨c,r⟩,kind,node,parent,name,data⟩:=o;simp only at hc hr hk hnode hp ec er en ep hn;rcases NZ h with ⟨rfl,e1⟩|⟨rfl,e1,e2,e3⟩
 ·simp only at e1;subst e1;rw [NW rfl];simp only [List.append_assoc];rw [VE om,Vv om,Vw om,Vx om,vh,if_pos rfl,afH om,yu];grind [Vy,tV]
 ·simp only at e1 e2 e3;subst e1 e2;rw [NX rfl];grind [VE,Vv,Vw,Vx,vh,Vy,tV]
theorem Eb {l:List UInt8} {m u:Nat} (h:gI l=some (m,u)):l=bW m++l.drop u:=by
 rw [abH l m u h,List.take_append_drop]
theorem Vz {mk:List UInt8->aH} {rest r:List UInt8} {o:aH} (h:mW mk rest=some (o,r)):∃ t,mk t=o/\cJ o=true/\rest=bW t.length++(t++r):=by
 unfold mW Go.Proofs.YtffboamedcmpaaaGreatDoor.pL at h;cases ht:gI rest with
 |none=>simp_all
 |some p=>
  obtain ⟨n,u⟩:=p;simp only [ht] at h
  by_cases hl:n+u<=rest.length
  ·rw [if_pos hl] at h;simp only at h;unfold tV at h;split at h
   ·grind [List.drop_drop,List.take_append_drop,Eb]
   ·cases h
  simp_all
theorem JT {l r:List UInt8} {o:aH} (h:kO l=some (o,r)):cJ o=true/\l=dM o++r:=by
 unfold kO at h;cases h1:gI l with
 |none=>simp_all
 |some p1=>
 obtain ⟨c,u1⟩:=p1;simp only [h1] at h;unfold wU at h;cases h2:gI (l.drop u1) with
 |none=>simp_all
 |some p2=>
 obtain ⟨rr,u2⟩:=p2;simp only [h2] at h;unfold wV at h;cases h3:gI ((l.drop u1).drop u2) with
 |none=>simp_all
 |some p3=>
 obtain ⟨k,u3⟩:=p3;simp only [h3] at h;unfold wW at h;cases h4:gI (((l.drop u1).drop u2).drop u3) with
 |none=>simp_all
 |some p4=>
 obtain ⟨n,u4⟩:=p4;simp only [h4] at h;unfold vh at h;have s1:=Eb h1;have s2:=Eb h2;have s3:=Eb h3;have s4:=Eb h4
 by_cases hk:k=1
 ·rw [if_pos hk] at h;unfold tW at h;cases h5:gI ((((l.drop u1).drop u2).drop u3).drop u4) with
  |none=>grind
  |some p5=>
  obtain ⟨p,u5⟩:=p5;simp only [h5] at h;unfold yu at h;grind [Vz,Eb,NW,Int.toNat_natCast]
 ·rw [if_neg hk] at h;obtain ⟨t,e1,e2,e3⟩:=Vz h;refine ⟨e2,?_⟩;have hk2:k=2:=by
   rcases NY e2 with ⟨e,_⟩|⟨e,_⟩<;>rw [<-e1] at e<;>simp only at e<;>omega
  rw [Eb h1,Eb h2,Eb h3,Eb h4,e3,<-e1,NX (by simp only;omega),hk2];simp only [List.append_assoc,Int.toNat_natCast]
theorem afK (n:Nat):bW n≠[]:=by unfold bW;simp
theorem Vt (o:aH):dM o≠[]:=by
 have h:=afK o.aT.dg.toNat;intro e;unfold dM Dj iv jA at e;split at e<;>simp [h] at e
theorem VA:∀ (l:List aH) (f:Nat) (acc:List aH),l.all cJ=true->(l.flatMap dM).length<f->mB f (l.flatMap dM) acc=some (acc++l)
 |[],f+1,acc,_,_=>by simp [mB]
 |o::l,f+1,acc,h,hf=>by
  rw [List.all_cons,Bool.and_eq_true] at h;rw [List.flatMap_cons] at hf ⊢;have hp:0<(dM o).length:=List.length_pos_iff.2 (Vt o);rw [List.length_append] at hf;rw [mB,if_neg (by grind [List.append_eq_nil_iff]),afO h.1];simp only;rw [VA l f (acc++[o]) h.2 om,List.append_assoc];rfl
theorem afM {l:List aH} (h:l.all cJ=true):pV (l.flatMap dM)=some l:=by
 grind [pV,VA]
theorem VB:∀ (f:Nat) (b:List UInt8) (acc l:List aH),b.length<f->mB f b acc=some l->∃ m,l=acc++m/\m.all cJ=true/\b=m.flatMap dM
 |f+1,b,acc,l,hf,h=>by
  rw [mB] at h
  by_cases hb:b=[]
  ·simp_all
  ·rw [if_neg hb] at h;cases ht:kO b with
   |none=>simp_all
   |some p=>
    obtain ⟨o,r⟩:=p;rw [ht] at h;simp only at h;have hlt:=Np ht;obtain ⟨ho,e⟩:=JT ht;obtain ⟨m,e1,e2,e3⟩:=VB f r (acc++[o]) l om h;simp_all
theorem VC {b:List UInt8} {l:List aH} (h:pV b=some l):l.all cJ=true/\b=l.flatMap dM:=by
 obtain ⟨m,e1,e2,e3⟩:=VB _ b [] l om h;simp_all
theorem afG {o:aH} (h:cJ o=true):(dM o).length=jn o.aT.dg.toNat+jn o.aT.dS.toNat+jn o.fc.toNat+jn o.aY.toNat+(if o.fc=1 then jn o.gg.toNat else 0)+jn (o.j4.length+o.j3.length)+(o.j4.length+o.j3.length):=by
 obtain ⟨hc,hr,hk,hnode,hp⟩:=Di h;have ht:=N1 h;rcases NZ h with ⟨e1,e2⟩|⟨e1,e2,e3,e4⟩
 ·grind [NW,List.length_append,zC]
 grind [NX,zC]
theorem Vu {o:aH} (h:cJ o=true):(dM o).length<=150:=by
 obtain ⟨hc,hr,hk,hnode,hp⟩:=Di h;have ht:=N1 h;have hs:o.j4.length+o.j3.length<=80:=by
  grind [NZ]
 rw [afG h];have s1:jn o.aT.dg.toNat<=3:=Nat.le_trans (Dq _ 1048576 om) dd;have s2:jn o.aT.dS.toNat<=1:=Nat.le_trans (Dq _ 63 om) dd;have s3:jn o.fc.toNat<=1:=Nat.le_trans (Dq _ 2 om) dd;have s4:jn o.aY.toNat<=4:=Nat.le_trans (Dq _ 134217856 om) dd;have s5:jn o.gg.toNat<=4:=Nat.le_trans (Dq _ 134217856 om) dd;have s6:jn (o.j4.length+o.j3.length)<=1:=Nat.le_trans (Dq _ 80 om) dd;split<;>omega
theorem afL {l:List aH} (h:l.all cJ=true):(l.flatMap dM).length<=150*l.length:=by
 induction l with
 |nil=>exact Nat.le_refl _
 |cons o l ih=>
  grind [Vu]
theorem afJ {o:aH} (h:cJ o=true):jR o.aY=true/\Bk o.aT o.aY=false/\Bk o.aT o.gg=false/\j5 o.aT=true:=by
 unfold cJ at h;split at h
 ·grind [uY]
 ·split at h
  ·simp only [Bool.and_eq_true,Bool.not_eq_true'] at h;obtain ⟨h0,h1,h2⟩:=h;unfold wH at h2;simp only [Bool.and_eq_true,decide_eq_true_eq] at h2;refine ⟨h2.1,h1,?_,h0⟩;rw [h2.2.2.2.1];rfl
  ·cases h
end Gw
