import Derived.Test.YtffboamedcmpaaaGreatDoorCr
set_option linter.all false
set_option maxHeartbeats 4000000
set_option maxRecDepth 100000
namespace Gw
structure vM (m:bM) (d:dj):Prop where
 G1:iy d.bp.aA
 Kh:d.bp.de=m.de
theorem Xt:∀ (l:List aH) {d:dj},iy d.bp.aA->vM d.bp (nK d l).1
 |[],d,h=>⟨h,rfl⟩
 |o::l,d,h=>by
  rw [Xh];unfold uc;have h2:=h.Ea o;generalize eF d.bp.aA o=R at*;obtain ⟨g,e⟩:=R;dsimp only at*
  by_cases he:e=0
  ·subst he;have:=Xt l (d:={d with bp:={d.bp with aA:=g},fP:=d.fP.jg o}) h2;exact ⟨this.G1,this.Kh⟩
  ·simp only [ne_eq,he,not_false_eq_true,if_true];exact ⟨h,rfl⟩
end Gw
namespace Go.Proofs.YtffboamedcmpaaaGreatDoor
open Gw
open Go.Am
theorem aiv (A B:List dH):(vj A B).length<=A.length+B.length+B.length:=by
 unfold vj Gn DK Gp;have h1:=List.length_filter_le (λt=>!wY B t) A.reverse;have h2:=List.length_filter_le (λt=>!wY A t) B;have h3:=List.length_filter_le (λt=>Gq A t) B;rw [List.length_reverse] at h1;simp only [List.length_append,List.length_map];omega
theorem Kg {m:bM} (h:iy m.aA) (c:bu) (o:aH):vM m (ll (bI m c) o).1:=by
 rw [GY];split
 ·exact ⟨h.Ea _,rfl⟩
 ·exact ⟨h,rfl⟩
theorem Ew {m:bM} (hm:py m) (c:bu):vM m (bI m c):=⟨hm.nR,rfl⟩
theorem Xs {m:bM} (hm:py m) (c:bu):vM m (ud (bI m c)).1:=by
 unfold ud
 repeat' (first|exact Ew hm c|exact Kg hm.nR c _|(split<;>try dsimp only))
theorem aiB {m:bM} (hm:py m) (c:bu):vM m (uq (bI m c)).1:=by
 unfold uq
 repeat' (first|exact Ew hm c|exact Kg hm.nR c _|(split<;>try dsimp only))
theorem aiu {m:bM} (hm:py m) (c:bu):vM m (ug (bI m c)).1:=by
 unfold ug
 repeat' (first|exact Ew hm c|exact Kg hm.nR c _|(split<;>try dsimp only))
theorem aiy {m:bM} (hm:py m) (c:bu):vM m (uj (bI m c)).1:=by
 unfold uj
 repeat' (first|exact Ew hm c|exact Kg hm.nR c _|(split<;>try dsimp only))
theorem ait {m:bM} (hm:py m) (c:bu):vM m (sK (bI m c)).1:=by
 unfold sK;split
 ·exact Ew hm c
 ·dsimp only;split
  ·exact Ew hm c
  ·rename_i l _ _;have h2:=Xt (l.foldl (i7 m.aA) (m.eC, .dE)).2.ab (d:=bI m c) hm.nR;split
   ·exact ⟨h2.G1,h2.Kh⟩
   ·exact ⟨h2.G1,h2.Kh⟩
theorem aix (m:bM) (c:bu):(ui (bI m c)).1.fP= .dE:=by
 unfold ui
 repeat' (first|rfl|(split<;>try dsimp only))
theorem ais (m:bM) (c:bu):(uf (bI m c)).1.fP= .dE:=by
 unfold uf
 repeat' (first|rfl|(split<;>try dsimp only))
theorem aiz (m:bM) (c:bu):(um (bI m c)).1.fP= .dE:=by
 unfold um
 repeat' (first|rfl|(split<;>try dsimp only))
theorem air (m:bM) (c:bu):(ue (bI m c)).1.fP= .dE:=by
 unfold ue
 repeat' (first|rfl|(split<;>try dsimp only))
theorem aiA (m:bM) (c:bu):(uo (bI m c)).1.fP= .dE:=by
 unfold uo
 repeat' (first|rfl|(split<;>try dsimp only))
theorem aiw (m:bM) (c:bu):(uh (bI m c)).1.fP= .dE:=by
 unfold uh
 repeat' (first|rfl|(split<;>try dsimp only))
theorem sW {m:bM} {c:bu} (hm:py m) (hp:c.bY.length<=1048576) (ht:c.fO.length<=1048576) (hc:yt c=true) {f:FuncId} (hl:qv (.aa .i64 c.dD) WY=some (.aP f [] [])) {y:dj×Int}
  (hR:dR m c=match y with|(d,e)=>if e≠0 then (m,fg e, .dE) else if d.fP.ab=[] then (d.bp,d.gj,d.fP) else ((DU d m.aA.aQ.ab).bp,d.gj,d.fP))
  (hac:bz Tryz.prog f [.ar 10 0] (aD (nQ m c)) 11 (cG 11 (λr es=>r= .cE (.aa .i64 y.2)/\es=qO y.1))) (hgd:vM m y.1\/y.1.fP= .dE):
  aC Tryz.prog 18 [zU m,tX c] (.aw [zU (dR m c).1,JD (dR m c).2.1,cv 7 cI (dR m c).2.2]):=by
 have hck:=Uw c hp ht;rw [hc] at hck;generalize dR m c=R at*;obtain ⟨D,e⟩:=y;dsimp only at*;refine aC.IH (Rj.II dW (fn:=Tryz.f18) aG rfl aG rfl rfl ?_);refine eK ?_;refine eK ?_;refine cC ?_;refine eK ?_;refine db.wh ?_;refine eK ?_;refine ⟨0,_,_,_,rfl,mi.WT ahJ,rfl,?_⟩
 conv=>whnf
 refine ⟨aG,aG,?_⟩;refine mf.xQ dW (kt:=3) (et:=118) (d:= .int .i64) aG aG rfl rfl aG rfl rfl (.inl rfl) rfl (mG rfl) _ hl ?_;refine cC ?_;refine db.LF ?_;refine cn ?_;refine mq ?_
 by_cases he:e=0
 ·subst he;rw [if_neg (show ¬((0:Int)≠0) by decide)] at hR;obtain ⟨dm,da,dc,⟨q,L⟩⟩:=D;cases L with
  |nil=>
   rw [if_pos rfl] at hR;subst hR;refine mq ?_;exact ⟨_,iL.bw _,iL.bw _⟩
  |cons o r=>
   rw [if_neg (by intro h;cases h)] at hR;subst hR;have hgd:vM m ⟨dm,da,dc,⟨q,o::r⟩⟩:=hgd.elim id (λh=>by cases h);have hwl:dm.de=m.de:=hgd.Kh;have htl:=ahZ ⟨dm,da,dc,⟨q,o::r⟩⟩ m.aA.aQ.bZ m.aA.aQ.ab (vL hm.nR) (vL hgd.G1) (by show dm.de.ab.length<=_;rw [hwl];exact hm.GZ) (λw hw=>hm.W9 w (by rw [<-hwl];exact hw)) (λw hw=>by
    have h1:=aiv (eL m.aA.aQ.ab w.kC) (eL dm.aA.aQ.ab w.kC);have h2:=Ju m.aA.aQ.ab w.kC;have h3:=Ju dm.aA.aQ.ab w.kC;have h4:=(vL hm.nR).vK;have h5:dm.aA.aQ.ab.length<=200:=(vL hgd.G1).vK;show (vj (eL m.aA.aQ.ab w.kC) (eL dm.aA.aQ.ab w.kC)).length<=100000;omega)
   refine cC ?_;refine ⟨λ_=>?_,λh=>absurd (of_decide_eq_false h) (by show ¬¬(0:Int)<(((List.map cI r).length+1:Nat):Int);omega)⟩;refine mq ?_;exact ⟨_,iL.bw _,iL.bw _⟩
 ·rw [if_pos he] at hR;subst hR
  conv=>whnf
  refine ⟨λ_=>?_,λq=>absurd (by simpa using q) he⟩
  conv=>whnf
  exact ⟨_,iL.ml (.aX (iL.bw _) (.aX (iL.np oT) (.aX (iL.eR _ _ _) .fa))),iL.bw _⟩
theorem aiq {c:bu} (h:yt c=true):1<=c.dD/\c.dD<=13:=by
 unfold yt at h;cases hh:vg c.dD with
 |none=>rw [hh] at h;cases h
 |some p=>have:=Ux hh;omega
theorem OT (m:bM) (c:bu) (hm:py m) (hp:c.bY.length<=1048576) (ht:c.fO.length<=1048576) (hd:c.ia.length<=100000):
  aC Tryz.prog 18 [zU m,tX c] (.aw [zU (dR m c).1,JD (dR m c).2.1,cv 7 cI (dR m c).2.2]):=by
 cases hc:yt c with
 |false=>
  have hck:=Uw c hp ht;rw [hc] at hck;have hR:dR m c=(m,fg 180, .dE):=by unfold dR;rw [if_pos hc]
  rw [hR];refine aC.CL dW jd (fn:=Tryz.f18) aG rfl aG rfl rfl ?_;refine cC ?_;exact iL.ml (.aX (iL.bw _) (.aX (iL.np oT) (.aX (iL.eR _ _ _) .fa)))
 |true=>
  have hk:=aiq hc;rcases (by omega:c.dD=1\/c.dD=2\/c.dD=3\/c.dD=4\/c.dD=5\/c.dD=6\/c.dD=7\/c.dD=8\/c.dD=9\/c.dD=10\/c.dD=11\/c.dD=12\/c.dD=13) with h|h|h|h|h|h|h|h|h|h|h|h|h
  ·exact sW hm hp ht hc (by rw [h];rfl) (by unfold dR;rw [if_neg (by rw [hc];decide),h];rfl) (W6 m c hm.nR hp) (.inl (Xs hm c))
  ·exact sW hm hp ht hc (by rw [h];rfl) (by unfold dR;rw [if_neg (by rw [hc];decide),h];rfl) (W6 m c hm.nR hp) (.inl (Xs hm c))
  ·exact sW hm hp ht hc (by rw [h];rfl) (by unfold dR;rw [if_neg (by rw [hc];decide),h];rfl) (ahO m c hm.nR hp (Nat.le_trans hd dd)) (.inl (aiB hm c))
  ·exact sW hm hp ht hc (by rw [h];rfl) (by unfold dR;rw [if_neg (by rw [hc];decide),h];rfl) (ahU m c hm hp) (.inr (aix m c))
  ·exact sW hm hp ht hc (by rw [h];rfl) (by unfold dR;rw [if_neg (by rw [hc];decide),h];rfl) (ahM m c hm.nR hp ht) (.inl (aiu hm c))
  ·exact sW hm hp ht hc (by rw [h];rfl) (by unfold dR;rw [if_neg (by rw [hc];decide),h];rfl) (ahN m c hm.nR hp) (.inl (aiy hm c))
  ·exact sW hm hp ht hc (by rw [h];rfl) (by unfold dR;rw [if_neg (by rw [hc];decide),h];rfl) (ahS m c hm hp) (.inr (ais m c))
  ·exact sW hm hp ht hc (by rw [h];rfl) (by unfold dR;rw [if_neg (by rw [hc];decide),h];rfl) (ahW m c hm) (.inr (aiz m c))
  ·exact sW hm hp ht hc (by rw [h];rfl) (by unfold dR;rw [if_neg (by rw [hc];decide),h];rfl) (aip m c hm) (.inr (air m c))
  ·exact sW hm hp ht hc (by rw [h];rfl) (by unfold dR;rw [if_neg (by rw [hc];decide),h];rfl) (ahY m c hm hp) (.inr (aiA m c))
  ·exact sW hm hp ht hc (by rw [h];rfl) (by unfold dR;rw [if_neg (by rw [hc];decide),h];rfl) (aie m c hm) (.inr (aiw m c))
  ·exact sW hm hp ht hc (by rw [h];rfl) (y:=(bI m c,0)) (by unfold dR;rw [if_neg (by rw [hc];decide),h];rfl) (ahV m c) (.inr rfl)
  ·exact sW hm hp ht hc (by rw [h];rfl) (by unfold dR;rw [if_neg (by rw [hc];decide),h];rfl) (aii m c hm hd) (.inl (ait hm c))
end Go.Proofs.YtffboamedcmpaaaGreatDoor
namespace Gw
section
variable {α β:Type} {enc:α->List β} {sz:Nat}
theorem aiC {mem es:List β} {k n j:Nat} {x:β} (h:(mem.drop k).take n=es) (hj:es[j]? =some x):mem[k+j]? =some x:=by
 subst h;rw [List.getElem?_take] at hj
 by_cases hjn:j<n
 ·rw [if_pos hjn,List.getElem?_drop] at hj;exact hj
 ·rw [if_neg hjn] at hj;cases hj
theorem aiD {A B p s:List β} {y x:β}:(A++((p++y::s)++B)).take (A.length+p.length)++[x]++(A++((p++y::s)++B)).drop (A.length+p.length+1)=A++((p++x::s)++B):=by
 have e1:(A++((p++y::s)++B))=(A++p)++(y::(s++B)):=by simp only [List.append_assoc,List.cons_append]
 have h1:(A++p).length=A.length+p.length:=List.length_append;rw [e1,List.take_left' h1,<-h1,<-List.drop_drop,List.drop_left' rfl];simp only [List.append_assoc,List.cons_append,List.nil_append,List.drop_succ_cons,List.drop_zero]
theorem G2 (hs:∀ a,(enc a).length=sz) {l:List α} {i k:Nat} (hi:i<l.length) {b:α} {p s:List β} {y x:β} (h1:enc l[i]=p++y::s) (h2:enc b=p++x::s) (hk:k=i*sz+p.length):
  ((l.map enc).flatten).take k++[x]++((l.map enc).flatten).drop (k+1)=((l.set i b).map enc).flatten:=by
 subst hk;have e:l=l.take i++l[i]::l.drop (i+1):=by rw [<-List.drop_eq_getElem_cons hi,List.take_append_drop]
 have hl:(((l.take i).map enc).flatten).length=i*sz:=by rw [pq hs,List.length_take,Nat.min_eq_left (Nat.le_of_lt hi)]
 have e2:(l.map enc).flatten=((l.take i).map enc).flatten++(enc l[i]++((l.drop (i+1)).map enc).flatten):=by
  conv=>lhs;rw [e,GC,DY]
 have e3:((l.set i b).map enc).flatten=((l.take i).map enc).flatten++(enc b++((l.drop (i+1)).map enc).flatten):=by
  rw [List.set_eq_take_append_cons_drop,if_pos hi,GC,DY]
 rw [e2,e3,h1,h2,<-hl];exact aiD
theorem Ki (hs:∀ a,(enc a).length=sz) {l:List α} {i j:Nat} (hi:i<l.length) {x:β} (hj:(enc l[i])[j]? =some x):((l.map enc).flatten)[i*sz+j]? =some x:=aiC (vA hs hi) hj
end
end Gw
namespace Go.Proofs.YtffboamedcmpaaaGreatDoor
open Gw
open Go.Am
theorem aiG (t:Int) (nil:Bool) (l:List fI) (hl:l.length<=1048576):bz Tryz.prog 230 [.ag nil 2 (l.map dz) .av, .aP 191 [] [.ar 1 0]] (aD [(.af 1, .au 3 [.aa .i64 t])]) 2 (cG 2 (λx es=>x= .cE (.aa .i64 (fR (λw=>decide (w.fJ=t)) l))/\es=[(.af 1, .au 3 [.aa .i64 t])])):=qK Tryz.func230 Tryz.func191 hl
theorem aiF (t:Int) (nil:Bool) (l:List fI) (hl:l.length<=1048576):bz Tryz.prog 190 [.ag nil 2 (l.map dz) .av, .aP 191 [] [.ar 1 0]] (aD [(.af 1, .au 3 [.aa .i64 t])]) 2 (cG 2 (λx es=>x= .cE (.aE (l.any (λw=>decide (w.fJ=t))))/\es=[(.af 1, .au 3 [.aa .i64 t])])):=GG Tryz.func190 (aiG t nil l hl)
theorem aiE (t:Int) (nil:Bool) (l:List fI) (hl:l.length<=1048576):bz Tryz.prog 230 [.ag nil 2 (l.map dz) .bR, .aP 276 [] [.ar 1 0]] (aD [(.af 1, .au 3 [.aa .i64 t])]) 2 (cG 2 (λx es=>x= .cE (.aa .i64 (fR (λw=>decide (w.fJ=t)) l))/\es=[(.af 1, .au 3 [.aa .i64 t])])):=qK Tryz.func230 Tryz.func276 hl
theorem Xu (t:Int) (full:Bool) (l pad:List fI) (hl:l.length<=1048576):bz Tryz.prog 230 [.aL 6 0 2 l.length full, .aP 276 [] [.ar 1 0]] (aD [(.af 6, .aR 331 (((l++pad).map dz).flatten)),(.af 1, .au 3 [.aa .i64 t])]) 8 (cG 8 (λx es=>x= .cE (.aa .i64 (fR (λw=>decide (w.fJ=t)) l))/\es=[(.af 6, .aR 331 (((l++pad).map dz).flatten)),(.af 1, .au 3 [.aa .i64 t])])):=zW Tryz.func230 Tryz.func276 hl
theorem OU {α:Type} {enc:α->List ae} {s:cj α} (h:s.bZ=true):s.ab.map enc=[]:=by rw [cj.wZ h];rfl
theorem Xv (g:l6) (th:Int) (hl:g.gi.ab.length<=1048576):aC Tryz.prog 120 [l9 g, .aa .i64 th] (.aE (rv g th)):=by
 have hi:=aiF th g.gi.bZ g.gi.ab hl;unfold rv;refine bK Tryz.func120 ?_;exact dC
def OV (m:Int) (x:fI):Int:=max m x.oA
theorem aiJ (g:l6) (hl:g.gi.ab.length<=1048576):aC Tryz.prog 189 [l9 g] (.aw [.aa .i64 (((DL g).map (·.1)).getD 0), .aa .i64 (((DL g).map (·.2)).getD 0), .aE (DL g).isSome]):=by
 obtain ⟨kept,⟨q,l⟩⟩:=g;cases l with
 |nil=>
  refine bK Tryz.func189 ?_
  conv=>whnf
  refine ⟨λ_=>?_,λh=>absurd (show false=true from h.symm) dd⟩;exact bm
 |cons a l=>
  have hel:((a::l).map dz).length=(a::l).length:=List.length_map _;dsimp only at hl;rw [show DL ⟨kept,⟨q,a::l⟩⟩=some (a.fJ,(a::l).foldl OV a.oA) from rfl];refine bK Tryz.func189 ?_
  conv=>whnf
  refine ⟨λh=>?_,λ_=>?_⟩
  ·have h:((((a::l).map dz).length:Int)==0)=true:=h;rw [hel] at h;exact absurd (eq_of_beq h) (by trivial)
  conv=>whnf
  refine ⟨_,⟨dd,rfl⟩,?_⟩
  conv=>whnf
  refine db.cK (X:=Nat) (λk=>[(.aj 5, .ah (.aa .i64 (((a::l).take k).foldl OV a.oA))),(.aj 18, .ah (cv 2 dz ⟨q,a::l⟩)),(.aj 19, .ah (.aa .i64 (a::l).length)),(.aj 20, .ah (.aa .i64 k)),(.af 0, .au 37 (BI ⟨kept,⟨q,a::l⟩⟩)),(.aj 1, .ah (.ar 0 0))]) 1
   (λk=>k<=(a::l).length) (λk=>(a::l).length - k) dd 0 (Nat.zero_le _) ⟨rfl,rfl,rfl,rfl,?_,rfl,rfl,rfl,rfl,rfl,rfl,rfl,trivial⟩ ?_
  ·show bs.ah (ae.aa .i64 (((a::l).map dz).length:Nat))=_;rw [hel]
  rintro k hk;refine cn ?_;refine ⟨λh=>?_,λh=>?_⟩
  ·have h:=of_decide_eq_true h;have hlt:k<(a::l).length:=om;have hg:=lN dz hlt;have htj:=List.take_succ_eq_append_getElem hlt;have w1:IntKind.i64.wrap ((k:Int)+1)=((k+1:Nat):Int):=by grind [bj]
   generalize hx:(a::l)[k]=b at*
   conv=>whnf
   refine ⟨_,⟨om,hg⟩,?_⟩
   conv=>whnf
   refine ⟨k+1,om,by grind,⟨?_,rfl,rfl,rfl,rfl,rfl,?_,rfl,rfl,rfl,rfl,rfl,trivial⟩⟩
   ·show bs.ah (ae.aa .i64 _)=bs.ah (ae.aa .i64 (((a::l).take (k+1)).foldl OV a.oA));rw [htj,List.foldl_append];rfl
   ·exact dh
  ·have h:=of_decide_eq_false h;obtain rfl:k=(a::l).length:=om;rw [List.take_length]
   conv=>whnf
   refine ⟨_,⟨dd,rfl⟩,?_⟩;exact bm
theorem aiH (q:Bool) (kept:Int) (l:List fI) (w:fI):l9 ⟨kept,cj.jg ⟨q,l⟩ w⟩= .aK [.aa .i64 kept, .ag false 2 (l.map dz++[dz w]) .av]:=by
 unfold l9 BI cv cj.jg cj.bZ;simp_all
theorem aiK (g:l6) (th upto:Int) (hl:g.gi.ab.length<=1048576) (h0:upto<=g.nH):aC Tryz.prog 238 [l9 g, .aa .i64 th, .aa .i64 upto] (.aw [l9 g, .aE true]):=by
 obtain ⟨kept,⟨q,l⟩⟩:=g;dsimp only at*;have hc:=aeO (cj.bZ ⟨q,l⟩) (l.map dz) (OU (s:=⟨q,l⟩)) (by simp_all);refine cU Tryz.func238 ?_;refine ak ?_;refine ⟨λ_=>?_,λh=>absurd h0 (of_decide_eq_false h)⟩;exact bm
theorem aiL (g:l6) (th upto:Int) (hl:g.gi.ab.length<=1000000) (h0:¬upto<=g.nH) (h1:rv g th=false):aC Tryz.prog 238 [l9 g, .aa .i64 th, .aa .i64 upto] (.aw [l9 ⟨g.nH,g.gi.jg ⟨th,upto⟩⟩, .aE false]):=by
 obtain ⟨kept,⟨q,l⟩⟩:=g;dsimp only at*;have hx:fR (λw:fI=>decide (w.fJ=th)) l=-1:=by
  grind [rv,ND]
 rw [aiH];cases l with
 |nil=>
  have hi:=aiE th q [] (Nat.zero_le _);rw [show l9 ⟨kept,⟨q,[]⟩⟩= .aK [.aa .i64 kept, .ag q 2 [] .av] from by unfold l9 BI;rw [D0]];refine cU Tryz.func238 ?_
  conv=>whnf
  refine bz.Iz (aeN q) rfl ?_
  conv=>whnf
  refine fu h0 ?_;refine eJ ?_;rw [hx];refine ak ?_;refine ⟨dG (Nat.le_of_ble_eq_true rfl) dd,?_⟩
  conv=>whnf
  cases q with
  |true=>exact iL.bw _
  |false=>exact iL.bw _
 |cons a l=>
  have hi:=Xu th true (a::l) [] om;have hp:=NO ((a::l).map dz) (Nat.succ_pos _) (by grind);rw [List.length_map] at hp;rw [hx,List.append_nil] at hi;rw [show l9 ⟨kept,⟨q,a::l⟩⟩= .aK [.aa .i64 kept, .ag false 2 ((a::l).map dz) .av] from by unfold l9 BI;rw [sQ]];refine cU Tryz.func238 ?_
  conv=>whnf
  refine bz.xP hp rfl ?_
  conv=>whnf
  refine fu h0 ?_;refine eJ ?_;refine ⟨(a::l).map dz,⟨List.length_map _,λel he=>?_,rfl,xa (λ_=>rfl) _,dG (by grind) dd⟩,?_⟩
  ·obtain ⟨x,_,rfl⟩:=List.mem_map.1 he;rfl
  exact bm
theorem Xw (th upto:Int):∀ (l:List fI) {i:Nat} (hi:i<l.length),(∀ a∈l.take i,decide (a.fJ=th)=false)->decide (l[i].fJ=th)=true->
  BD th upto l=l.set i ⟨l[i].fJ,max l[i].oA upto⟩
 |a::l,0,_,_,h=>by
  have h:=of_decide_eq_true h;exact if_pos h
 |a::l,i+1,hi,hno,h=>by
  have h1:=of_decide_eq_false (hno a (by simp));refine (if_neg h1).trans ?_;exact congrArg (a::·) (Xw th upto l (Nat.lt_of_succ_lt_succ hi) (λb hb=>hno b (by simp [hb])) h)
theorem aiI {σ:az} {l:List fI} {i:Nat} {b:fI} {m:List ae} (hS:m=((l.set i b).map dz).flatten) (h:σ (.af 6)= .aR 331 m):Am.km σ (.aL 6 0 2 l.length true) (.ag false 2 ((l.set i b).map dz) .av):=by
 subst hS;have h2:=D3 (enc:=dz) (sz:=2) (full:=true) (λ_=>rfl) (λ_=>rfl) h;simp_all
theorem aiM (g:l6) (th upto:Int) (hl:g.gi.ab.length<=1000000) (h0:¬upto<=g.nH) (h1:rv g th=true):aC Tryz.prog 238 [l9 g, .aa .i64 th, .aa .i64 upto] (.aw [l9 ⟨g.nH,⟨g.gi.dI,BD th upto g.gi.ab⟩⟩, .aE false]):=by
 obtain ⟨kept,⟨q,l⟩⟩:=g;unfold rv at h1;dsimp only at*;obtain ⟨a,l',rfl⟩:∃ a l',l=a::l':=by
  cases l with
  |nil=>cases h1
  |cons a l'=>simp_all
 have hi:=Xu th true (a::l') [] om;have hp:=NO ((a::l').map dz) (Nat.succ_pos _) (by grind);rw [List.length_map] at hp;rw [show l9 ⟨kept,⟨q,a::l'⟩⟩= .aK [.aa .i64 kept, .ag false 2 ((a::l').map dz) .av] from by unfold l9 BI;rw [sQ]];rcases BM (λw:fI=>decide (w.fJ=th)) (a::l') with ⟨h2,hno⟩|⟨i,hlt,h2,hno,hpi⟩
 ·rw [List.any_eq_true] at h1;obtain ⟨x,hx,hy⟩:=h1;rw [hno x hx] at hy;cases hy
 rw [h2] at hi;rw [Xw th upto (a::l') hlt hno hpi];refine cU Tryz.func238 ?_
 conv=>whnf
 refine bz.xP hp rfl ?_
 conv=>whnf
 refine fu h0 ?_
 conv=>whnf
 rw [List.append_nil] at hi;refine eJ ?_;have hL:=Ki (enc:=dz) (sz:=2) (λ_=>rfl) hlt (j:=1) rfl;have hR:=BK (enc:=dz) (sz:=2) (λ_=>rfl) hlt;have hS:=G2 (enc:=dz) (sz:=2) (λ_=>rfl) hlt (b:=⟨(a::l')[i].fJ,max (a::l')[i].oA upto⟩) (p:=[.aa .i64 (a::l')[i].fJ]) (s:=[]) rfl rfl (k:=i*2+1) rfl;generalize hx:(a::l')[i]=b at*;have o1:0+(i:Int).toNat*2=i*2:=om;refine ak ?_;rw [o1];refine ⟨_,hL,?_⟩;refine ak ?_;rw [o1];refine ak ?_;have he:l9 ⟨kept,⟨q,(a::l').set i ⟨b.fJ,max b.oA upto⟩⟩⟩= .aK [.aa .i64 kept, .ag false 2 (((a::l').set i ⟨b.fJ,max b.oA upto⟩).map dz) .av]:=by
  unfold l9 BI;cases i with
  |zero=>grind [sQ]
  |succ j=>grind [sQ]
 rw [he];exact yE.yF (.gM (yE.zV (.gM (.mh (v:= .aa .i64 kept) rfl) (.gM (aiI hS rfl) .mZ))) (.gM (.mh (v:= .bo) rfl) .mZ))
end Go.Proofs.YtffboamedcmpaaaGreatDoor
namespace Go.Am
open Go.RowKit Go.Proofs
section
variable {P:Program} {T:cN} {σ:az}
theorem db.aiP {r:Option Nat} {nt lo n m:Nat} {c:Code} {K:Exit->az->Nat->Prop} {es:List (aS×bs)} (k id0 id:Nat) {q0 q1:Bool} {sz:Nat} {els0 els:List (List ae)} {bt0 bt:TypeId} (he:lB σ m es) (h0:lo<=m) (hsafe:A6 es=true)
  (hs:σ (.af k)= .au bt0 [.ag q0 sz els0 (.cO id0), .ag q1 sz els (.cO id)]) (hkm:k<m) (hrow0:σ (.aJ id0)= .aN bt sz els0.length) (hrow:σ (.aJ id)= .aN bt sz els.length) (hid0:id0<m) (hne0:id0≠id) (hid:lo<=id) (hne:els≠[])
  (hels0:∀ el∈els0,∀ x∈el,mm x=true) (hels:∀ el∈els,∀ x∈el,mm x=true)
  (h:db P r nt lo c (aD ((.af k, .au bt0 [.ag q0 sz els0 (.cO id0), .aL m 0 sz els.length true])::(.af m, .aR bt els.flatten)::(.aJ id0, .aN bt sz els0.length)::es)) (m+1) K):db P r nt lo c σ n K:=by
 refine ⟨λb t a w hl hsim=>h.jG b t a w hl ?_⟩;obtain ⟨g,hh,hf,hE,hn⟩:=hsim;obtain ⟨q1',q2⟩:=LP hsafe;obtain ⟨ck,hk1,hk2,hk3,hk4⟩:=hh.dq k (by rw [hs];rfl);obtain ⟨arrk,ak1,ak2,ak3⟩:=hh.nS k bt0 _ ck hs hk1;have ak2':arrk.length=2:=ak2;obtain ⟨v0,v1,rfl⟩:∃ v0 v1,arrk=[v0,v1]:=by
  match arrk,ak2' with
  |[a,b],_=>simp_all
 have hslot:=ak3 1 _ v1 rfl rfl;have hslot0:=ak3 0 _ v0 rfl rfl;obtain ⟨ad,cap,hv,hp,ht⟩:=hslot.jj;obtain ⟨bk,N,t1,t2,t3⟩:=ht;obtain ⟨bk',r1,r2⟩:=hh.fA id bt sz els.length hrow;rw [r1] at t1;obtain ⟨e1,e2⟩:bk'=bk/\els.length=N:=by simp_all
 subst e1 e2;have hpos:0<els.length:=List.length_pos_iff.2 hne;rcases t3 rfl with ⟨_,e⟩|⟨c1,bt',rfl,rfl,hshape⟩
 ·omega
 obtain ⟨a1,a2,a3,a4,a5,arr,z,a6,a7⟩:=r2 c1 rfl;obtain ⟨bk0,s1,s2⟩:=hh.fA id0 bt sz els0.length hrow0;have hbk0:∀ c,bk0=some c->c≠c1:=λc hc e=>by
  grind
 have hnew:∀ o,¬t.AA.bJ c1 o:=by
  rcases hE.vS id c1 _ r1 with ⟨N0,e⟩|e
  ·have:=t.ER id _ e;omega
  ·exact e
 let g2:cf:=⟨λk o=>g.bJ k o/\k≠c1,λi=>if i=m then some c1 else if i<m then g.aZ i else none,λi=>if i<m/\i≠id then g.cu i else none⟩
 have own1:∀ i k,i<m->g.aZ i=some k->g2.aZ i=some k:=λi k hi hk=>by grind
 have own2:∀ i k,g2.aZ i=some k->(i=m/\k=c1)\/(i<m/\g.aZ i=some k):=λi k hk=>by
  grind
 have row0:g2.cu id0=some (bk0,els0.length):=by grind
 let σ2:az:=aD ((.af k, .au bt0 [.ag q0 sz els0 (.cO id0), .aL m 0 sz els.length true])::(.af m, .aR bt els.flatten)::(.aJ id0, .aN bt sz els0.length)::es)
 have sk:σ2 (.af k)= .au bt0 [.ag q0 sz els0 (.cO id0), .aL m 0 sz els.length true]:=by simp only [σ2,aD];rw [gY]
 have sm:σ2 (.af m)= .aR bt els.flatten:=by simp only [σ2,aD];grind [cL,gY]
 have sb:∀ i,i≠m->i≠k->σ2 (.af i)=aD es (.af i):=λi hi hik=>by simp only [σ2,aD];rw [cL (by grind),cL (by grind),cL (by intro e;cases e)]
 have sr0:σ2 (.aJ id0)= .aN bt sz els0.length:=by simp only [σ2,aD];grind [cL,gY]
 have sr:∀ i,i≠id0->σ2 (.aJ i)= .bq:=λi hi=>by simp only [σ2,aD];grind [cL]
 have sbk:∀ i,aD es (.af i)≠ .bq->aD es (.af i)=σ (.af i)/\i<m/\rf m (σ (.af i))=true:=λi hne=>by
  rcases he.nZ (.af i) with h1|⟨h1,h2,h3⟩
  ·exact absurd h1 hne
  ·exact ⟨h1,eH h2,h3⟩
 have isb:∀ i,(aD es (.af i)).dw=true->aD es (.af i)≠ .bq:=λi hl e=>by rw [e] at hl;cases hl
 have hblk:∀ i,i≠m->(σ2 (.af i)).dw=true->(σ (.af i)).dw=true/\i<m:=λi him hl=>by
  by_cases hik:i=k
  ·subst hik;exact ⟨by rw [hs];rfl,hkm⟩
  grind
 have harr:arr.length=cap*sz:=by
  grind [World.shape?]
 cases hp with
 |iK vals hnil hc hsz ha hone hrep=>
 have hcells:∀ (p:Nat) (x:ae) (v:Value),els.flatten[p]? =some x->arr[p]? =some v->cb w g2.bJ x v:=λp x v hx hv=>by
  obtain ⟨el,f1,f2,f3⟩:=Cu sz els hsz p x hx;obtain ⟨blk,base,g1',g2',g3'⟩:=ha _ el _ x f1 f2;cases g1';rw [Nat.zero_add,f3] at g3';have hcv:w.cell? ⟨c1,p,none⟩=some v:=by grind [nk]
  rw [hcv] at g3';cases g3';exact (hrep _ el _ x f1 f2).C7 (hels el (List.mem_of_getElem? f1) x (List.mem_of_getElem? f2))
 have hrep0:aF w g2 (.ag q0 sz els0 (.cO id0)) v0:=by
  obtain ⟨ad0,cap0,hv0,hp0,ht0⟩:=hslot0.jj;obtain ⟨bk0',N0,y1,y2,y3⟩:=ht0;rw [s1] at y1;obtain ⟨e1,e2⟩:bk0=bk0'/\els0.length=N0:=by grind
  subst e1 e2;rw [hv0];refine .jc ?_ ⟨bk0,_,row0,y2,y3⟩;cases hp0 with
  |iK vals0 hnil0 hc0 hsz0 ha0 hone0 hrep0=>
   refine .iK vals0 hnil0 hc0 hsz0 (λi el j x h1 h2=>?_) hone0 (λi el j x h1 h2=>(hrep0 i el j x h1 h2).C7 (hels0 el (List.mem_of_getElem? h1) x (List.mem_of_getElem? h2)));obtain ⟨blk,base,g1',g2',g3'⟩:=ha0 i el j x h1 h2;grind
 refine ⟨g2,bh.lQ hh.dU (λk o hk=>hh.fU k o hk.1) (λk o hk=>⟨hh.kY k o hk,λe=>by subst e;rcases a1 with a1|a1;exact absurd (b.Kv _ o hk) om;exact b.Pk _ o hk a1⟩) (λk o hk hlt hx=>hh.kh k o hk.1 hlt hx) (λi k hk=>?_) (λi x hx=>?_) (λi k hk=>?_) (λi k N hk=>?_)
  (λi hl=>?_) (λi k' hl hk=>?_) (λi j k hi hj hik hjk=>?_) (λi Y k' hY hk=>?_) (λi t' sz' N hs'=>?_),⟨hf.mN,hf.nW,λi hi=>?_⟩,⟨⟨λk o hk=>?_,λi k hk=>?_,λi bk N hr=>?_,λi k N hr=>?_⟩,hE.rR,hE.uC,hE.rQ⟩,om⟩
 ·grind
 ·grind
 ·rcases own2 i k hk with ⟨_,e⟩|⟨_,e⟩
  ·rw [e];exact a2
  ·exact hh.eU i k e
 ·simp only [g2] at hk;split at hk
  ·exact hh.gV i k N hk
  ·cases hk
 ·by_cases him:i=m
  ·grind
  ·obtain ⟨u1,u2⟩:=hblk i him hl;obtain ⟨k,v1,v2,v3,v4⟩:=hh.dq i u1;grind
 ·by_cases him:i=m
  ·subst him;rcases own2 i k' hk with ⟨_,e⟩|⟨e,_⟩
   ·subst e;show mI w g2 k' (σ2 (.af i));rw [sm];exact ⟨arr,z,a6,by rw [lA sz els hsz,harr];exact Nat.mul_le_mul_right _ hc,a7,hcells⟩
   ·omega
  ·by_cases hik:i=k
   ·subst hik;rcases own2 i k' hk with ⟨e,_⟩|⟨_,hk'⟩
    ·exact absurd e him
    rw [hk1] at hk';cases hk';show mI w g2 ck (σ2 (.af i));rw [sk];refine ⟨[v0,v1],ak1,rfl,λp x v hx hv'=>?_⟩
    match p,hx,hv' with
    |0,hx,hv'=>grind
    |1,hx,hv'=>
     cases hx;cases hv';rw [hv];exact .kH (by simp [g2]) (λ_=>rfl) rfl hc (λ_=>⟨rfl,rfl,bt',hshape⟩)
    |p+2,hx,_=>simp at hx
   ·have hl':(aD es (.af i)).dw=true:=by grind
    obtain ⟨u1,u2,u3⟩:=sbk i (isb i hl');rcases own2 i k' hk with ⟨e,_⟩|⟨_,hk'⟩
    ·exact absurd e him
    show mI w g2 k' (σ2 (.af i));rw [sb i him hik];have hcl:=hh.kF hk';have hsf:=q1' (.af i);rw [u1] at hsf ⊢;cases hx:σ (.af i) with
    |au t' cells=>
     rw [hx] at hcl hsf u3;obtain ⟨arr',w1,w2,w3⟩:=hcl;exact ⟨arr',w1,w2,λj x v h1 h2=>(w3 j x v h1 h2).ID (xW hsf j x h1) (mQ u3 j x h1) own1⟩
    |iR s' pos=>rw [hx] at hcl;exact hcl
    |c9 X=>
     rw [hx] at hcl hsf u3;cases X with
     |dP clock es'=>cases hsf
     |oO k' since seen last=>
      obtain ⟨q,w1,w2⟩:=hcl;exact ⟨q,own1 _ _ (eH u3) w1,w2⟩
    |aR _ _=>rw [hx] at hsf;cases hsf
    |eZ=>rw [hx] at hsf;cases hsf
    |_=>trivial
 ·by_cases him:i=m
  ·grind
  ·obtain ⟨u1,u2⟩:=hblk i him hi;rcases own2 i k hik with ⟨e,_⟩|⟨_,hk'⟩
   ·exact absurd e him
   by_cases hjm:j=m
   ·grind
   ·obtain ⟨v1,v2⟩:=hblk j hjm hj;rcases own2 j k hjk with ⟨e,_⟩|⟨_,hk''⟩
    ·exact absurd e hjm
    exact hh.iT i j k u1 v1 hk' hk''
 ·by_cases him:i=m
  ·grind
  ·have hY:σ2 (.af i)= .eT Y:=hY
   by_cases hik:i=k
   ·grind
   rw [sb i him hik] at hY;obtain ⟨u1,_,_⟩:=sbk i (by rw [hY];simp);rcases own2 i k' hk with ⟨e,_⟩|⟨_,hk'⟩
   ·exact absurd e him
   exact hh.lv i Y k' (by grind) hk'
 ·grind
 ·show aF w g2 (dV σ2 i) _;have e:σ2 (.aj i)=aD es (.aj i):=by trivial
  unfold dV;rw [e];rcases he.nZ (.aj i) with h1|⟨h1,_,h3⟩
  ·rw [h1];exact .jV
  ·have hr:=hf.kI i hi;have hsf:=q1' (.aj i);unfold dV at hr;rw [h1] at hsf ⊢;cases hx:σ (.aj i) with
   |ah x=>rw [hx] at hr h3 hsf;exact hr.ID hsf h3 own1
   |_=>exact .jV
 ·obtain ⟨u1,u2⟩:=hE.ee k o hk;grind
 ·obtain ⟨u1,u2⟩:=hE.kE i k hk;exact ⟨own1 i k (by have:=t.KE i k hk;omega) u1,u2⟩
 ·have h1:=t.ER i _ hr;obtain ⟨bk',N',u1,u2,u3⟩:=hE.vT i bk N hr;grind
 ·simp only [g2] at hr;split at hr
  ·exact hE.vS i k N hr
  ·cases hr
theorem mf.aiN {o:Oper} {n:Nat} {K:ae->az->Nat->Prop} {t0 e:TypeId} (hu:P.underlying t0=some (.slice e)) {c0:Call} (hop:o.op= .call c0) (hcal:c0.callee= .builtin .clear) (hat:c0.argTypes[0]? =some t0) {x:Operand} (hargs:c0.args=#[x])
  {q:Bool} {sz:Nat} {tk:ql} (hx:aM σ x= .ag q sz [] tk) (hK:K (.aw []) σ (n+1)):mf P o σ n K:=by
 refine ⟨λb g a w h hrr=>?_⟩;have hrx:=hrr x (by grind [Op.operands,Call.operands]);rw [hx] at hrx;obtain ⟨ad,c,ex,_,_⟩:=hrx.jj;have run:∀ {w':World},(Builtin.clear_ c0.argTypes o.type #[a.eval x]).run P w= .ok (.tuple #[]) w'->(execOp a.eval o).run P w= .ok (.value (.tuple #[])) w':=by
  intro w' hb;obtain ⟨dst,op,ty,pos,after,guard⟩:=o;grind [tl,builtin,Sem.run_bind,Result.andThen_ok,Sem.run_pure]
 have r1:(Builtin.clear_ c0.argTypes o.type #[a.eval x]).run P w= .ok (.tuple #[]) w:=by
  cases ad<;>simp [Builtin.clear_,hat,ex,run_underlying hu,Result.andThen]
 exact ⟨.value (.tuple #[]), .tuple #[],w, .aw [],σ,n+1,g,run r1, .inl rfl,hK,Nat.le_succ n, .jN (vs:=[]) rfl (λi x v h1=>by simp at h1),h.qp (Nat.le_succ n),dp.qg _ _⟩
theorem aC.Ex (hT:dA P T) {f:FuncId} {fn:Func} {c:Code} (hf:P.funcs[f]? =some fn) (hb:fn.body=some c) (hn:(fn.name== "runtime.NumGoroutine")=false) {args:List ae} {res:ae} (hl:Nat.ble args.length fn.ntmps=true) (hro:lE fn.ntmps fn.results.toList=true)
  (h:db P none fn.ntmps 0 c (n5 args) 0 (xN iL T fn res)):aC P f args res:=
 aC.Qf (λ_ _ h=>h) hT hf hb hn hl hro h
theorem db.aiO {r:Option Nat} {nt lo n:Nat} {c:Code} {K:Exit->az->Nat->Prop} (k j:Nat) {bt:TypeId} {cells cells':List ae} (hs:σ (.af k)= .au bt cells) (hc:cells.set j .bV=cells') (h:db P r nt lo c (aU σ (.af k) (.au bt cells')) n K):db P r nt lo c σ n K:=by
 subst hc;refine ⟨λb t a w hl hsim=>h.jG b t a w hl ?_⟩;obtain ⟨g,hh,hf,hE,hn⟩:=hsim;refine ⟨g,hh.Ka hs (List.length_set) (λi y v hy hx=>?_),hf.qo (λi=>by trivial),hE,hn⟩
 by_cases hij:i=j
 ·subst hij;have hlt:i<(cells.set i .bV).length:=(List.getElem?_eq_some_iff.1 hy).1;rw [List.length_set] at hlt;rw [List.getElem?_set_self hlt] at hy;cases hy;exact .jV
 grind
end
end Go.Am
namespace Go.Proofs.YtffboamedcmpaaaGreatDoor
open Gw
open Go.Am
def pz (M:Int) (l:List fI):List fI:=l.filter λw=>!decide (w.oA<=M)
def pA (M:Int) (l:List fI):List fI:=l.filter λw=>decide (w.oA<=M)
def OW (M:Int) (q:Bool) (l:List fI) (k:Nat):List (Am.aS×bs):=[(.af 0, .au 37 [.aa .i64 M,cv 2 dz ⟨q,l⟩]),(.af 1, .au 37 [.aa .i64 0, .ag true 1 [] .bR]),
 (.af 9, .au 373 [.ag (pz M (l.take k)).isEmpty 2 ((pz M (l.take k)).map dz) (.cO 16), .ag (pA M (l.take k)).isEmpty 2 ((pA M (l.take k)).map dz) (.cO 17)]),(.aJ 16, .aN 331 2 (pz M (l.take k)).length),(.aJ 17, .aN 331 2 (pA M (l.take k)).length)]
def sX (B:List fI) (j:Nat):List Int:=(B.take j).map (·.fJ)++List.replicate (B.length - j) 0
theorem aiS {B:List fI} {j:Nat} (h:j<=B.length):(sX B j).length=B.length:=by
 grind [sX]
theorem aiT {B:List fI} {j:Nat} (h:j<B.length):(sX B j).set j B[j].fJ=sX B (j+1):=by
 unfold sX;have h1:((B.take j).map (·.fJ)).length=j:=by grind
 rw [List.set_append_right _ _ (by omega),h1,Nat.sub_self,List.take_succ_eq_append_getElem h,List.map_append,List.append_assoc];rw [show B.length - j=(B.length - (j+1))+1 by omega,List.replicate_succ,List.set_cons_zero];rfl
theorem aiU (B:List fI):eB B.length [.aa .i64 0]=((sX B 0).map ie).flatten:=by
 unfold sX eB;rw [List.take_zero,List.map_nil,List.nil_append,Nat.sub_zero,List.map_replicate];rfl
theorem aiR (B:List fI):sX B B.length=B.map (·.fJ):=by
 grind [sX]
theorem Xx {σ:az} {B:List fI} (h:σ (.af 22)= .aR 3 (((sX B B.length).map ie).flatten)):Am.km σ (.aL 22 0 1 B.length true) (cv 1 ie (.jK (B.map (·.fJ)))):=by
 have h2:=D3 (enc:=ie) (sz:=1) (full:=true) (λ_=>rfl) (λ_=>rfl) h;rw [aiR,List.length_map] at h2;exact h2
theorem aiQ (g:l6) (kept:Int) (hl:g.gi.ab.length<=1000000):aC Tryz.prog 196 [l9 g, .aa .i64 kept] (.aw [l9 (w6 g kept).1,cv 1 ie (w6 g kept).2]):=by
 obtain ⟨kp,⟨q,l⟩⟩:=g;have hel:(l.map dz).length=l.length:=List.length_map _;dsimp only at hl;refine aC.Ex dW (fn:=Tryz.f196) aG rfl aG rfl rfl ?_;refine eK ?_;refine eK ?_;refine eK ?_;refine eK ?_;refine eK ?_;refine db.OH 9 0 331 2 rfl rfl rfl ?_;refine db.OH 9 1 331 2 rfl rfl rfl ?_;refine db.cK (X:=Nat) (λk=>(.aj 2, .ah (.ar 0 0))::(.aj 4, .ah (.ar 1 0))::(.aj 6, .ah (.ar 9 0))::(.aj 7, .ah (.aP 231 [] [.ar 0 0, .ar 9 0]))::(.aj 20, .ah (cv 2 dz ⟨q,l⟩))::(.aj 21, .ah (.aa .i64 l.length))::(.aj 22, .ah (.aa .i64 k))::OW (max kp kept) q l k) 18
  (λk=>k<=l.length) (λk=>l.length - k) dd 0 (Nat.zero_le _) ⟨rfl,rfl,rfl,rfl,rfl,rfl,rfl,rfl,rfl,rfl,?_,rfl,rfl,rfl,?_,rfl,rfl,rfl,rfl,rfl,rfl,rfl,rfl,rfl,trivial⟩ ?_
 ·show bs.ah (ae.aa .i64 ((l.map dz).length:Nat))=_;rw [hel]
 ·rfl
 rintro k hk;refine cn ?_;refine ⟨λh=>?_,λh=>?_⟩
 ·have h:=of_decide_eq_true h;have hlt:k<l.length:=om;have hg:=lN dz hlt;have htj:=List.take_succ_eq_append_getElem hlt;have w1:IntKind.i64.wrap ((k:Int)+1)=((k+1:Nat):Int):=by grind [bj]
  have hAk:∀ a:fI,pz (max kp kept) (l.take k++[a])=pz (max kp kept) (l.take k)++(if a.oA<=max kp kept then [] else [a]):=λa=>by
   unfold pz;grind
  have hBk:∀ a:fI,pA (max kp kept) (l.take k++[a])=pA (max kp kept) (l.take k)++(if a.oA<=max kp kept then [a] else []):=λa=>by
   unfold pA;grind
  have hA:=hAk l[k];have hB:=hBk l[k];clear hAk hBk;rw [<-htj] at hA hB;have hlA:(pz (max kp kept) (l.take k)).length<=k:=Nat.le_trans (List.length_filter_le _ _) (by simp_all);have hlB:(pA (max kp kept) (l.take k)).length<=k:=Nat.le_trans (List.length_filter_le _ _) (by simp_all);generalize hx:l[k]=b at*;unfold OW;generalize pz (max kp kept) (l.take k)=A at*;generalize pA (max kp kept) (l.take k)=B at*;refine ak ?_;refine bn Tryz.func231 ?_
  conv=>whnf
  refine ⟨λh=>?_,λh=>?_⟩
  ·have h:=of_decide_eq_true h
   conv=>whnf
   rw [if_pos h,List.append_nil] at hA;rw [if_pos h] at hB;refine ⟨⟨dd,dd⟩,?_⟩
   conv=>whnf
   refine ⟨⟨(List.length_map _).symm,dG (by grind) dd⟩,?_⟩
   conv=>whnf
   refine ⟨⟨dd,dd⟩,?_⟩
   conv=>whnf
   refine ⟨aG,?_⟩
   conv=>whnf
   refine ⟨k+1,om,by grind,⟨rfl,rfl,rfl,rfl,rfl,rfl,rfl,rfl,rfl,rfl,rfl,rfl,?_,rfl,rfl,rfl,rfl,rfl,?_,rfl,?_,rfl,?_,rfl,trivial⟩⟩
   ·exact dh
   ·show bs.au _ [.ag A.isEmpty 2 (A.map dz) (.cO 16),_]=bs.au _ [.ag (pz (max kp kept) (l.take (k+1))).isEmpty 2 ((pz (max kp kept) (l.take (k+1))).map dz) (.cO 16), .ag (pA (max kp kept) (l.take (k+1))).isEmpty 2 ((pA (max kp kept) (l.take (k+1))).map dz) (.cO 17)];rw [hA,hB,List.map_append];cases B with
    |nil=>rfl
    |cons x B'=>rfl
   ·show bs.aN _ 2 A.length=bs.aN _ 2 (pz (max kp kept) (l.take (k+1))).length;rw [hA]
   ·show bs.aN _ 2 _=bs.aN _ 2 (pA (max kp kept) (l.take (k+1))).length;simp_all
  ·have h:=of_decide_eq_false h
   conv=>whnf
   rw [if_neg h] at hA;rw [if_neg h,List.append_nil] at hB;refine ⟨⟨dd,dd⟩,?_⟩
   conv=>whnf
   refine ⟨⟨(List.length_map _).symm,dG (by grind) dd⟩,?_⟩
   conv=>whnf
   refine ⟨⟨dd,dd⟩,?_⟩
   conv=>whnf
   refine ⟨aG,?_⟩
   conv=>whnf
   refine ⟨k+1,om,by grind,⟨rfl,rfl,rfl,rfl,rfl,rfl,rfl,rfl,rfl,rfl,rfl,rfl,?_,rfl,rfl,rfl,rfl,rfl,?_,rfl,?_,rfl,?_,rfl,trivial⟩⟩
   ·exact dh
   ·show bs.au _ [_, .ag B.isEmpty 2 (B.map dz) (.cO 17)]=bs.au _ [.ag (pz (max kp kept) (l.take (k+1))).isEmpty 2 ((pz (max kp kept) (l.take (k+1))).map dz) (.cO 16), .ag (pA (max kp kept) (l.take (k+1))).isEmpty 2 ((pA (max kp kept) (l.take (k+1))).map dz) (.cO 17)];rw [hA,hB,List.map_append];cases A with
    |nil=>rfl
    |cons x A'=>rfl
   ·show bs.aN _ 2 _=bs.aN _ 2 (pz (max kp kept) (l.take (k+1))).length;simp_all
   ·show bs.aN _ 2 B.length=bs.aN _ 2 (pA (max kp kept) (l.take (k+1))).length;rw [hB]
 have h:=of_decide_eq_false h;obtain rfl:k=l.length:=om;have hr1:w6 ⟨kp,⟨q,l⟩⟩ kept=(⟨max kp kept,⟨true,pz (max kp kept) l⟩⟩, .jK ((pA (max kp kept) l).map (·.fJ))):=rfl;have hlA:(pz (max kp kept) l).length<=l.length:=List.length_filter_le _ _;have hlB:(pA (max kp kept) l).length<=l.length:=List.length_filter_le _ _;rw [hr1];unfold OW;rw [List.take_length];generalize pz (max kp kept) l=A at*;generalize pA (max kp kept) l=B at*;have heB:(B.map dz).length=B.length:=List.length_map _
 conv=>whnf
 refine db.aiO 0 1 (cells':=[.aa .i64 (max kp kept), .bV]) rfl rfl ?_;cases B with
 |nil=>
  refine cn ?_;refine ⟨⟨dd,dd⟩,?_⟩
  conv=>whnf
  refine ⟨⟨dd,rfl,dG (Nat.le_of_ble_eq_true rfl) dd⟩,?_⟩
  conv=>whnf
  refine ⟨⟨dd,dd⟩,?_⟩
  conv=>whnf
  refine db.cK (X:=Unit) (λ_=>[(.aj 2, .ah (.ar 0 0)),(.aj 4, .ah (.ar 1 0)),(.aj 6, .ah (.ar 9 0)),(.aj 10, .ah (.aL 22 0 1 0 true)),(.aj 36, .ah (.aa .i64 0)),(.aj 37, .ah (.aa .i64 0)),(.af 0, .au 37 [.aa .i64 (max kp kept), .bV]),(.af 1, .au 37 [.aa .i64 0, .ag true 1 [] .bR]),
   (.af 9, .au 373 [.ag A.isEmpty 2 (A.map dz) (.cO 16), .ag true 2 [] (.cO 17)]),(.aJ 16, .aN 331 2 A.length),(.aJ 17, .aN 331 2 0),(.af 22, .aR 3 [])]) 23 (λ_=>True) (λ_=>0) dd () trivial ⟨rfl,rfl,rfl,rfl,rfl,rfl,rfl,rfl,rfl,rfl,rfl,rfl,rfl,rfl,rfl,rfl,rfl,rfl,rfl,rfl,rfl,rfl,rfl,rfl,trivial⟩ ?_
  rintro ⟨⟩ _;refine cn ?_;refine iV ?_;refine ⟨⟨dd,dd⟩,?_⟩
  conv=>whnf
  refine mf.aiN (t0:=35) (e:=331) aG rfl rfl rfl rfl rfl ?_
  conv=>whnf
  refine ⟨⟨dd,dd⟩,?_⟩
  conv=>whnf
  exact yE.yF (.gM (yE.zV (.gM (.mh (v:= .aa .i64 (max kp kept)) rfl) (.gM (.mh (v:= .ag A.isEmpty 2 (A.map dz) (.cO 16)) rfl) .mZ))) (.gM (Xx (B:=[]) rfl) .mZ))
 |cons b B'=>
  refine db.aiP (m:=18) (bt:=331) 9 16 17 (es:=[(.aj 2, .ah (.ar 0 0)),(.aj 4, .ah (.ar 1 0)),(.aj 6, .ah (.ar 9 0)),(.af 0, .au 37 [.aa .i64 (max kp kept), .bV]),(.af 1, .au 37 [.aa .i64 0, .ag true 1 [] .bR])]) ⟨rfl,rfl,rfl,rfl,rfl,rfl,rfl,rfl,rfl,rfl,trivial⟩ (Nat.zero_le _) rfl rfl dd ?_ ?_ dd dd (Nat.zero_le _) (by simp) (λel he x hx=>?_) (λel he x hx=>?_) ?_
  ·show bs.aN _ 2 A.length=bs.aN _ 2 (A.map dz).length;simp_all
  ·show bs.aN _ 2 (b::B').length=bs.aN _ 2 ((b::B').map dz).length;simp_all
  ·obtain ⟨a,_,rfl⟩:=List.mem_map.1 he;rcases List.mem_cons.1 hx with rfl|hx
   ·rfl
   ·rw [List.mem_singleton.1 hx];rfl
  ·obtain ⟨a,_,rfl⟩:=List.mem_map.1 he;rcases List.mem_cons.1 hx with rfl|hx
   ·rfl
   ·rw [List.mem_singleton.1 hx];rfl
  rw [heB];refine cn ?_;refine ⟨⟨dd,dd⟩,?_⟩
  conv=>whnf
  refine ⟨⟨om,rfl,dG om dd⟩,?_⟩
  conv=>whnf
  refine ⟨⟨dd,dd⟩,?_⟩
  conv=>whnf
  have hb0:b::B'≠[]:=by simp
  generalize b::B'=B at*;refine db.cK (X:=Nat) (λj=>[(.aj 2, .ah (.ar 0 0)),(.aj 4, .ah (.ar 1 0)),(.aj 6, .ah (.ar 9 0)),(.aj 10, .ah (.aL 22 0 1 B.length true)),(.aj 35, .ah (.aL 18 0 2 B.length true)),(.aj 36, .ah (.aa .i64 B.length)),(.aj 37, .ah (.aa .i64 j)),(.af 0, .au 37 [.aa .i64 (max kp kept), .bV]),(.af 1, .au 37 [.aa .i64 0, .ag true 1 [] .bR]),
   (.af 9, .au 373 [.ag A.isEmpty 2 (A.map dz) (.cO 16), .aL 18 0 2 B.length true]),(.aJ 16, .aN 331 2 (A.map dz).length),(.af 18, .aR 331 ((B.map dz).flatten)),(.af 22, .aR 3 (((sX B j).map ie).flatten))]) 23 (λj=>j<=B.length) (λj=>B.length - j) dd 0 (Nat.zero_le _) ⟨rfl,rfl,rfl,rfl,rfl,rfl,rfl,rfl,rfl,rfl,rfl,rfl,rfl,rfl,rfl,rfl,rfl,rfl,rfl,rfl,rfl,rfl,rfl,rfl,?_,rfl,trivial⟩ ?_
  ·show bs.aR _ (eB ((B.length:Int).toNat) [.aa .i64 0])=_;grind [aiU]
  rintro j hj;refine cn ?_;refine ⟨λh=>?_,λh=>?_⟩
  ·have h:=of_decide_eq_true h;have hlt:j<B.length:=om;have hL:=vA (enc:=dz) (sz:=2) (λ_=>rfl) hlt;have hR:=BK (enc:=dz) (sz:=2) (λ_=>rfl) hlt;have hlz:=aiS (B:=B) (j:=j) hj;have hS:=G2 (enc:=ie) (sz:=1) (λ_=>rfl) (l:=sX B j) (i:=j) om (b:=B[j].fJ) (p:=[]) (s:=[]) rfl rfl (k:=j*1) rfl;rw [aiT hlt] at hS;have hRz:=BK (enc:=ie) (sz:=1) (λ_=>rfl) (l:=sX B j) (k:=j) om;have w1:IntKind.i64.wrap ((j:Int)+1)=((j+1:Nat):Int):=by grind [bj]
   have o1:0+(j:Int).toNat*2=j*2:=om;have o2:0+(j:Int).toNat*1=j*1:=om;generalize B[j]=y at*;refine ak ?_;rw [o1];refine ⟨_,⟨om,hL⟩,?_⟩
   conv=>whnf
   refine ⟨⟨om,om⟩,?_⟩
   conv=>whnf
   rw [o2];refine ⟨om,?_⟩
   conv=>whnf
   refine ⟨j+1,om,by grind,⟨rfl,rfl,rfl,rfl,rfl,rfl,rfl,rfl,rfl,rfl,rfl,rfl,?_,rfl,rfl,rfl,rfl,rfl,rfl,rfl,rfl,rfl,rfl,rfl,?_,rfl,trivial⟩⟩
   ·exact dh
   ·exact congrArg (bs.aR _) hS
  ·have h:=of_decide_eq_false h;obtain rfl:j=B.length:=om
   conv=>whnf
   refine ⟨⟨dd,dd⟩,?_⟩
   conv=>whnf
   have hfl:=pq (enc:=dz) (sz:=2) (λ_=>rfl) B;refine mf.NG dW (t0:=35) (e:=331) aG rfl rfl rfl rfl rfl rfl rfl rfl aG aG (by rw [hfl];omega) ?_
   conv=>whnf
   refine ⟨⟨dd,dd⟩,?_⟩
   conv=>whnf
   exact yE.yF (.gM (yE.zV (.gM (.mh (v:= .aa .i64 (max kp kept)) rfl) (.gM (.mh (v:= .ag A.isEmpty 2 (A.map dz) (.cO 16)) rfl) .mZ))) (.gM (Xx rfl) .mZ))
def vO (s:Int) (o:aH):Int:=if cJ o=true then mY s o.aT else s
def Ey (g:eh) (m:bM) (seen:Int):List ae:=[cv 17 dY g.b8,cv 8 iF g.aQ, .aa .i64 seen, .aa .i64 m.iH,cv 2 iJ m.dO,cv 4 ej m.de, .aa .i64 m.fz]
theorem aiV (m:bM) (h:iy m.aA) (nil:Bool) (l:List aH) (hf:∀ o∈l,lZ o) (hl:l.length<=100000):aC Tryz.prog 105 [zU m, .ag nil 7 (l.map cI) .av] (zU (Jz m l)):=by
 have hA:=ahl h nil l hf hl;have hel:(l.map cI).length=l.length:=List.length_map _;rw [show zU (Jz m l)= .aK (Ey (DS m.aA l).1 m (l.foldl vO m.eC)) from rfl];generalize DS m.aA l=y at*;obtain ⟨g,e⟩:=y;dsimp only at*;refine bK Tryz.func105 ?_;refine ak ?_;refine db.cK (X:=Nat) (λk=>[(.aj 2, .ah (.ar 0 0)),(.aj 4, .ah (.ar 1 0)),(.aj 15, .ah (.ag nil 7 (l.map cI) .av)),(.aj 16, .ah (.aa .i64 l.length)),(.aj 17, .ah (.aa .i64 k)),(.af 0, .au 31 (Ey g m ((l.take k).foldl vO m.eC))),(.af 1, .au 31 [.ag true 1 [] .bR, .ag true 1 [] .bR, .aa .i64 0, .aa .i64 0, .ag true 1 [] .bR, .ag true 1 [] .bR, .aa .i64 0])]) 2
  (λk=>k<=l.length) (λk=>l.length - k) dd 0 (Nat.zero_le _) ⟨rfl,rfl,rfl,rfl,rfl,rfl,?_,rfl,rfl,rfl,rfl,rfl,rfl,rfl,trivial⟩ ?_
 ·show bs.ah (ae.aa .i64 ((l.map cI).length:Nat))=_;rw [hel]
 rintro k hk;refine cn ?_;refine ⟨λh=>?_,λh=>?_⟩
 ·have h:=of_decide_eq_true h;have hlt:k<l.length:=om;have hg:=lN cI hlt;have htj:=List.take_succ_eq_append_getElem hlt;have hck:=Bv l[k] (hf _ (List.getElem_mem hlt));have hse:=U9 false ((l.take k).foldl vO m.eC) l[k].aT;have w1:IntKind.i64.wrap ((k:Int)+1)=((k+1:Nat):Int):=by grind [bj]
  have hF:(l.take (k+1)).foldl vO m.eC=vO ((l.take k).foldl vO m.eC) l[k]:=by grind
  generalize (l.take k).foldl vO m.eC=s at*;generalize l[k]=o at*;refine ak ?_;refine ⟨λh=>?_,λh=>?_⟩
  ·conv=>whnf
   refine bz.eV (hse) rfl ?_
   conv=>whnf
   refine ⟨k+1,om,by grind,⟨rfl,rfl,rfl,rfl,rfl,rfl,rfl,rfl,?_,rfl,?_,rfl,rfl,rfl,trivial⟩⟩
   ·exact dh
   ·show bs.au _ (Ey g m (mY s o.aT))=bs.au _ (Ey g m ((l.take (k+1)).foldl vO m.eC));grind [vO]
  ·conv=>whnf
   refine ⟨k+1,om,by grind,⟨rfl,rfl,rfl,rfl,rfl,rfl,rfl,rfl,?_,rfl,?_,rfl,rfl,rfl,trivial⟩⟩
   ·exact dh
   ·show bs.au _ (Ey g m s)=bs.au _ (Ey g m ((l.take (k+1)).foldl vO m.eC));grind [vO]
 ·have h:=of_decide_eq_false h;obtain rfl:k=l.length:=om;rw [List.take_length];exact bm
theorem aiX (nil:Bool) (l:List cd) (hl:l.length<=1048576):aC Tryz.prog 111 [.ag nil 18 (l.map cr) .av, .aP 56 [] []] (.aa .i64 (fR (λt=>!t.kf) l)):=by
 have hel:(l.map cr).length=l.length:=List.length_map _;refine bK Tryz.func111 ?_
 conv=>whnf
 refine db.cK (λk:Nat=>[(.aj 0, .ah (.ag nil 18 (l.map cr) .av)),(.aj 1, .ah (.aP 56 [] [])),(.aj 7, .ah (.aa .i64 l.length)),(.aj 8, .ah (.aa .i64 k))]) 2
  (λk=>k<=l.length/\∀ a∈l.take k,(λt=>!t.kf) a=false) (λk=>l.length - k) dd 0 ⟨Nat.zero_le _,by simp⟩ ⟨rfl,rfl,rfl,rfl,?_,rfl,rfl,rfl,trivial⟩ ?_
 ·show bs.ah (ae.aa .i64 ((l.map cr).length:Nat))=_;rw [hel]
 rintro k ⟨hk,hno⟩;refine cn ?_;refine ⟨λh=>?_,λh=>?_⟩
 ·have h:=of_decide_eq_true h;have hlt:k<l.length:=om;have hg:=lN cr hlt;have hp1:=UZ (p:=(λt=>!t.kf)) hlt hno;have hp2:=NF (p:=(λt=>!t.kf)) hlt hno;have w1:IntKind.i64.wrap ((k:Int)+1)=((k+1:Nat):Int):=by rw [bj om om];rfl
  generalize hx:l[k]=a at*;refine cC ?_;refine bn Tryz.func56 ?_
  conv=>whnf
  refine ⟨λh=>?_,λh=>?_⟩
  ·have h:(λt=>!t.kf) a=true:=by simpa using h
   conv=>whnf
   rw [hp1 h]
  ·have h:(λt=>!t.kf) a=false:=by simpa using h
   conv=>whnf
   refine ⟨k+1,⟨om,hp2 h⟩,by show l.length - (k+1)<l.length - k;omega,rfl,rfl,rfl,rfl,rfl,rfl,?_,rfl,trivial⟩;exact dh
 ·have h:=of_decide_eq_false h;obtain rfl:k=l.length:=om;rw [List.take_length] at hno
  conv=>whnf
  rw [ND hno]
theorem aiW (nil:Bool) (l:List cd) (hl:l.length<=1048576):aC Tryz.prog 55 [.ag nil 18 (l.map cr) .av, .aP 56 [] []] (.aE (l.any (λt=>!t.kf))):=by
 have hi:=aiX nil l hl;refine bK Tryz.func55 ?_;refine cC ?_;rw [UY]
theorem ai0 (r:Int):(rF r).2=0\/(rF r).2=20:=by
 grind [rF]
theorem XA (r:Int):aC Tryz.prog 28 [.aa .i64 r] (.aw [lM (oD r).1, .aa .i64 (oD r).2]):=by
 have hm:=ahI r;have he:=ai0 r;unfold oD;generalize rF r=y at*;obtain ⟨m,e⟩:=y;dsimp only at*;rcases he with rfl|rfl
 ·rw [if_neg dd];refine cU Tryz.func28 ?_;refine ak ?_;exact iL.ml (.aX (.np (.aX (.bw _) (.aX (.bw _) (.aX (.bw _) (.aX (.bw _) (.aX (.bw _) (.aX (.bw _) (.aX (.bw _) (.aX (.eR _ _ _) (.aX (.eR _ _ _) (.aX (.bw _) (.aX (.eR _ _ _) (.aX (.eR _ _ _) (.aX (.bw _) (.aX (.eR _ _ _) .fa))))))))))))))) (.aX (.bw _) .fa))
 ·rw [if_pos dd];refine cU Tryz.func28 ?_;refine ak ?_;exact iL.ml (.aX (.np oT) (.aX (.bw _) .fa))
theorem Xz (x:aV) (hl:x.aq.ab.length<=1048576):aC Tryz.prog 27 [lM x] (.aE (BG x)):=by
 have hi:=aiW x.aq.bZ x.aq.ab hl;have he:BG x=!(x.aq.ab.any λt=>!t.kf):=by
  grind [BG]
 rw [he];generalize (x.aq.ab.any λt=>!t.kf)=b at*;refine bK Tryz.func27 ?_;exact dC
theorem Xy (x:aV) (t:cd):∀ (l:List cd) (n:Nat),js x n (l++[t])=js x n l++(if oC x (n+l.length) t=true then [((n+l.length:Nat):Int)] else [])
 |[],n=>by
  trivial
 |a::l,n=>by
  have ih:=Xy x t l (n+1);rw [show n+1+l.length=n+(a::l).length by grind] at ih;grind [js]
theorem OX (x:aV):∀ (l:List cd) (n:Nat),(js x n l).length<=l.length
 |[],_=>Nat.le_refl _
 |a::l,n=>by
  have ih:=OX x l (n+1);show (if _ then _ else _:List Int).length<=_;grind
theorem aiY (x:aV) (h1:x.aq.ab.length<=1000) (h2:x.cM.di.ab.length<=1000000) (h3:x.dy.gi.ab.length<=1000000):aC Tryz.prog 119 [lM x] (.ag (BF x).isEmpty 1 ((BF x).map ie) .av):=by
 have hel:(x.aq.ab.map cr).length=x.aq.ab.length:=List.length_map _;refine cU Tryz.func119 ?_
 conv=>whnf
 refine db.zd 3 3 1 rfl rfl (.inr rfl) ?_;refine db.cK (X:=Nat) (λk=>[(.aj 1, .ah (.ar 0 0)),(.aj 3, .ah (.ag (js x 0 (x.aq.ab.take k)).isEmpty 1 ((js x 0 (x.aq.ab.take k)).map ie) (.dB 7))),(.aj 12, .ah (cv 18 cr x.aq)),(.aj 13, .ah (.aa .i64 x.aq.ab.length)),(.aj 14, .ah (.aa .i64 k)),(.af 0, .au 41 (DW x)),
  (.aJ 7, .aN 3 1 (js x 0 (x.aq.ab.take k)).length)]) 8 (λk=>k<=x.aq.ab.length) (λk=>x.aq.ab.length - k) dd 0 (Nat.zero_le _) ⟨rfl,rfl,rfl,rfl,rfl,rfl,?_,rfl,rfl,rfl,rfl,rfl,rfl,rfl,trivial⟩ ?_
 ·show bs.ah (ae.aa .i64 ((x.aq.ab.map cr).length:Nat))=_;rw [hel]
 rintro k hk;refine cn ?_;refine ⟨λh=>?_,λh=>?_⟩
 ·have h:=of_decide_eq_true h;have hlt:k<x.aq.ab.length:=om;have hg:=lN cr hlt;have htj:=List.take_succ_eq_append_getElem hlt;have hln:=OX x (x.aq.ab.take k) 0;rw [List.length_take,Nat.min_eq_left hk] at hln;have hF:=Xy x x.aq.ab[k] (x.aq.ab.take k) 0;rw [<-htj,List.length_take,Nat.min_eq_left hk,Nat.zero_add] at hF;have hlw:=ae4 x.cM k (Nat.le_trans h2 dd);have hgw:=Xv x.dy k (Nat.le_trans h3 dd);have hgl:=aiJ x.dy (Nat.le_trans h3 dd);have w1:IntKind.i64.wrap ((k:Int)+1)=((k+1:Nat):Int):=by grind [bj]
  generalize x.aq.ab[k]=t at*;generalize js x 0 (x.aq.ab.take k)=L at*;refine ak ?_;refine ⟨λhe=>?_,λhe=>?_⟩
  ·conv=>whnf
   have hcan:oC x k t=false:=by grind [oC]
   rw [hcan,if_neg dd,List.append_nil] at hF;refine ⟨k+1,om,by grind,⟨rfl,rfl,?_,rfl,rfl,rfl,rfl,rfl,?_,rfl,rfl,rfl,?_,rfl,trivial⟩⟩
   ·show bs.ah _=bs.ah (ae.ag (js x 0 (x.aq.ab.take (k+1))).isEmpty 1 ((js x 0 (x.aq.ab.take (k+1))).map ie) (.dB 7));rw [hF]
   ·exact dh
   ·show bs.aN _ 1 _=bs.aN _ 1 (js x 0 (x.aq.ab.take (k+1))).length;rw [hF]
  ·refine ak ?_;refine ⟨λhw=>?_,λhw=>?_⟩
   ·conv=>whnf
    have hcan:oC x k t=false:=by grind [oC]
    rw [hcan,if_neg dd,List.append_nil] at hF;refine ⟨k+1,om,by grind,⟨rfl,rfl,?_,rfl,rfl,rfl,rfl,rfl,?_,rfl,rfl,rfl,?_,rfl,trivial⟩⟩
    ·show bs.ah _=bs.ah (ae.ag (js x 0 (x.aq.ab.take (k+1))).isEmpty 1 ((js x 0 (x.aq.ab.take (k+1))).map ie) (.dB 7));rw [hF]
    ·exact dh
    ·show bs.aN _ 1 _=bs.aN _ 1 (js x 0 (x.aq.ab.take (k+1))).length;rw [hF]
   ·refine ak ?_;refine ⟨λhg=>?_,λhg=>?_⟩
    ·refine ak ?_;cases hl:DL x.dy with
     |none=>
      refine iV ?_;have hcan:oC x k t=false:=by grind [oC]
      rw [hcan,if_neg dd,List.append_nil] at hF;refine ⟨k+1,om,by grind,⟨rfl,rfl,?_,rfl,rfl,rfl,rfl,rfl,?_,rfl,rfl,rfl,?_,rfl,trivial⟩⟩
      ·show bs.ah _=bs.ah (ae.ag (js x 0 (x.aq.ab.take (k+1))).isEmpty 1 ((js x 0 (x.aq.ab.take (k+1))).map ie) (.dB 7));rw [hF]
      ·exact dh
      ·show bs.aN _ 1 _=bs.aN _ 1 (js x 0 (x.aq.ab.take (k+1))).length;rw [hF]
     |some y=>
      obtain ⟨first,up⟩:=y;refine cC ?_;refine ⟨λhn=>?_,λhn=>?_⟩
      ·conv=>whnf
       have hcan:oC x k t=false:=by grind [oC]
       rw [hcan,if_neg dd,List.append_nil] at hF;refine ⟨k+1,om,by grind,⟨rfl,rfl,?_,rfl,rfl,rfl,rfl,rfl,?_,rfl,rfl,rfl,?_,rfl,trivial⟩⟩
       ·show bs.ah _=bs.ah (ae.ag (js x 0 (x.aq.ab.take (k+1))).isEmpty 1 ((js x 0 (x.aq.ab.take (k+1))).map ie) (.dB 7));rw [hF]
       ·exact dh
       ·show bs.aN _ 1 _=bs.aN _ 1 (js x 0 (x.aq.ab.take (k+1))).length;rw [hF]
      ·conv=>whnf
       have hcan:oC x k t=true:=by grind [oC]
       rw [hcan,if_pos rfl] at hF;refine ⟨⟨(List.length_map _).symm,dG (by grind) dd⟩,?_⟩
       conv=>whnf
       refine ⟨k+1,om,by grind,⟨rfl,rfl,?_,rfl,rfl,rfl,rfl,rfl,?_,rfl,rfl,rfl,?_,rfl,trivial⟩⟩
       ·show bs.ah (ae.ag _ 1 _ _)=bs.ah (ae.ag (js x 0 (x.aq.ab.take (k+1))).isEmpty 1 ((js x 0 (x.aq.ab.take (k+1))).map ie) (.dB 7));rw [hF,List.map_append];cases L with
        |nil=>rfl
        |cons b L'=>rfl
       ·exact dh
       ·show bs.aN _ 1 _=bs.aN _ 1 (js x 0 (x.aq.ab.take (k+1))).length;simp_all
    ·conv=>whnf
     have hcan:oC x k t=true:=by grind [oC]
     rw [hcan,if_pos rfl] at hF;refine ⟨⟨(List.length_map _).symm,dG (by grind) dd⟩,?_⟩
     conv=>whnf
     refine ⟨k+1,om,by grind,⟨rfl,rfl,?_,rfl,rfl,rfl,rfl,rfl,?_,rfl,rfl,rfl,?_,rfl,trivial⟩⟩
     ·show bs.ah (ae.ag _ 1 _ _)=bs.ah (ae.ag (js x 0 (x.aq.ab.take (k+1))).isEmpty 1 ((js x 0 (x.aq.ab.take (k+1))).map ie) (.dB 7));rw [hF,List.map_append];cases L with
      |nil=>rfl
      |cons b L'=>rfl
     ·exact dh
     ·show bs.aN _ 1 _=bs.aN _ 1 (js x 0 (x.aq.ab.take (k+1))).length;simp_all
 ·have h:=of_decide_eq_false h;obtain rfl:k=x.aq.ab.length:=om;rw [List.take_length];exact bm
theorem aiZ (p:Int) {n:Nat} (h0:0<n) (hn:n<=1000):0<=(IntKind.i64.wrap (p.tmod n+n)).tmod n/\((IntKind.i64.wrap (p.tmod n+n)).tmod n).toNat=sM p n/\sM p n<n:=by
 have a1:=Int.tmod_lt_of_pos p (show (0:Int)<n by omega);have a2:=Int.tmod_lt_of_pos (-p) (show (0:Int)<n by omega);rw [Int.neg_tmod] at a2;rw [bj om om];have b1:=Int.tmod_nonneg (n:Int) (show 0<=p.tmod n+n by omega);have b2:=Int.tmod_lt_of_pos (p.tmod n+n) (show (0:Int)<n by omega);grind [sM]
theorem Kj (x:aV) (p:Int) (h1:x.aq.ab.length<=1000) (h2:x.cM.di.ab.length<=1000000) (h3:x.dy.gi.ab.length<=1000000):aC Tryz.prog 69 [lM x, .aa .i64 p] (.aw [.aa .i64 (((qI x p).map (·.1)).getD 0), .aE (((qI x p).map (·.2)).getD false), .aE (qI x p).isSome]):=by
 have hA:=aiY x h1 h2 h3;have hlA:(BF x).length<=1000:=Nat.le_trans (OX x x.aq.ab 0) h1;unfold qI;generalize BF x=A at*;cases A with
 |nil=>
  refine bK Tryz.func69 ?_;exact bm
 |cons a l=>
  obtain ⟨hm1,hm2,hm3⟩:=aiZ p (Nat.succ_pos l.length) hlA;have hel:(((a::l).map ie).length:Int)=((l.length+1:Nat):Int):=by simp_all
  have hz:((a::l).map ie)[sM p (l.length+1)]? =some (ie (((a::l)[sM p (l.length+1)]?).getD 0)):=by
   grind
  have hgw:=Xv x.dy (((a::l)[sM p (l.length+1)]?).getD 0) (Nat.le_trans h3 dd);show aC _ _ _ (.aw [.aa .i64 (((a::l)[sM p (l.length+1)]?).getD 0), .aE (rv x.dy (((a::l)[sM p (l.length+1)]?).getD 0)), .aE true]);generalize ((a::l)[sM p (l.length+1)]?).getD 0=z at*;refine bK Tryz.func69 ?_;refine ak ?_;refine ⟨λh=>?_,λ_=>?_⟩
  ·have h:=eq_of_beq h;rw [hel] at h;omega
  conv=>whnf
  refine ⟨ie z,⟨?_,?_⟩,?_⟩
  ·rw [hel];exact hm1
  ·simp_all
  exact dC
def OY (c:bu) (z:Int):List ae:=[.aa .i64 c.dD, .ai c.bY, .ai c.fO, .ai c.ia, .aa .i64 c.cR, .ag true 1 [] .av, .aa .i64 0, .aE false, .aE false, .aa .i64 0, .aa .i64 z, .aa .i64 0, .aa .i64 0, .aa .i64 0, .ai [], .ag true 1 [] .av, .aa .i64 0, .ag true 1 [] .av]
theorem XC (c:bu) {y z:Int} (h:y=z):mO (OY c y) (cr (Gt c z)):=by
 subst h;exact .aX (.bw _) (.aX (.bw _) (.aX (.bw _) (.aX (.bw _) (.aX (.bw _) (.aX (.bw _) (.aX (.bw _) (.aX (.bw _) (.aX (.bw _) (.aX (.bw _) (.aX (.bw _) (.aX (.bw _) (.aX (.bw _) (.aX (.bw _) (.aX (.bw _) (.aX (.bw _) (.aX (.bw _) (.aX (.eR _ _ _) .fa)))))))))))))))))
theorem XB {q:Bool} {sz:Nat} {l:List (List ae)} {e e':List ae} (h:mO e e'):iL (.ag q sz (l++[e]) .av) (.ag q sz (l++[e']) .av):=by
 refine Xc (by simp) λi a b ha hb=>?_
 rcases Nat.lt_or_ge i l.length with hi|hi
 ·grind [mO.E5]
 grind
theorem ai2 (l:List cd):fL (l.map cr).flatten=true:=xa (λ_=>rfl) l
theorem ai1 (x:aV) (c:bu) (h1:x.aq.ab.length<=1000) (ht:0<=x.ca/\x.ca<1000000):aC Tryz.prog 35 [lM x,tX c] (.aw [lM (qJ x c).1, .aa .i64 (qJ x c).2.1, .aa .i64 (qJ x c).2.2]):=by
 have hel:(x.aq.ab.map cr).length=x.aq.ab.length:=List.length_map _;have w1:IntKind.i64.wrap (x.ca+1)=x.ca+1:=bj om om;unfold qJ
 by_cases h40:40<=x.aq.ab.length
 ·rw [if_pos h40];refine cU Tryz.func35 ?_
  conv=>whnf
  refine ⟨λ_=>?_,λh=>absurd (of_decide_eq_false h) (by rw [hel];omega)⟩;exact bm
 ·rw [if_neg h40];obtain ⟨model,table,group,⟨tq,T⟩,time,ops⟩:=x;dsimp only at*;cases T with
  |nil=>
   refine aC.Ex dW (fn:=Tryz.f35) aG rfl aG rfl rfl ?_;refine db.wh (se dW jd _ _ _ _ ?_)
   conv=>whnf
   refine fu (by rw [hel];omega) ?_
   conv=>whnf
   refine ⟨0,_,_,_,rfl,mi.xR (aeL _) rfl,rfl,?_⟩
   conv=>whnf
   refine ⟨⟨rfl,by show 0<1;decide,dG (by simp_all) dd⟩,?_⟩;refine ak ?_;refine yE.yF (.gM (yE.zV ?_) (.gM (.mh rfl) (.gM (.mh rfl) .mZ)))
   repeat (first|exact yE.mZ|refine yE.gM (.mh rfl) ?_|fail "end")
   refine yE.gM (.H4 (.zf (t:=78) (els:=[OY c (IntKind.i64.wrap (time+1))]) rfl rfl (λel hel=>by rw [List.mem_singleton] at hel;subst hel;rfl) (Nat.le_refl _) rfl rfl) (XB (l:=[]) (XC c w1))) ?_;refine yE.gM (show Am.km _ (.aa .i64 (IntKind.i64.wrap (time+1))) _ from by rw [w1];exact .mh rfl) ?_
   repeat (first|exact yE.mZ|refine yE.gM (.mh rfl) ?_|fail "end")
  |cons s r=>
   have hcs:nz Tryz.prog 74 [.ag (cj.bZ ⟨tq,s::r⟩) 18 ((s::r).map cr) .av] 78 18 ((s::r).map cr).length ((s::r).map cr).flatten:=by
    grind [cj.bZ,NN]
   refine aC.Ex dW (fn:=Tryz.f35) aG rfl aG rfl rfl ?_;refine db.wh (se dW jd _ _ _ _ ?_)
   conv=>whnf
   refine fu (by rw [hel];omega) ?_
   conv=>whnf
   refine ⟨0,_,_,_,rfl,mi.tF hcs rfl,rfl,?_⟩
   conv=>whnf
   refine ⟨(s::r).map cr,⟨rfl,λel hel=>by obtain ⟨z,_,rfl⟩:=List.mem_map.1 hel;rfl,rfl,ai2 _,dG (by grind) dd⟩,?_⟩;refine ak ?_;refine iL.ml (.aX (iL.np ?_) (.aX (iL.mj (congrArg (λk:Nat=>ae.aa .i64 k) (List.length_map _))) (.aX (.bw _) .fa)))
   repeat (first|exact mO.fa|refine mO.aX (iL.bw _) ?_|refine mO.aX (iL.eR _ _ _) ?_|fail "end")
   have hlast:∀ (L:List ae),L=OY c (IntKind.i64.wrap (time+1))->iL (ae.ag false 18 ((s::r).map cr++[L]) .av) (ae.ag false 18 (((s::r)++[Gt c (time+1)]).map cr) .av):=λL hL=>by
    grind [XB,XC]
   refine mO.aX (hlast _ rfl) ?_;exact mO.aX (iL.mj (congrArg (ae.aa .i64) w1)) oT
end Go.Proofs.YtffboamedcmpaaaGreatDoor
