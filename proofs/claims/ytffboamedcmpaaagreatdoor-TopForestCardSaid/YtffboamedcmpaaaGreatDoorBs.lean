import Derived.Test.YtffboamedcmpaaaGreatDoorBr
set_option linter.all false
set_option maxHeartbeats 4000000
set_option maxRecDepth 100000
namespace Go.Am
open Go.RowKit Go.Proofs
section
variable {P:Program} {T:cN} {σ:az}
theorem db.aiP {r:Option Nat} {nt lo n m:Nat} {c:Code} {K:Exit->az->Nat->Prop} {es:List (aS×bs)} (k id0 id:Nat) {q0 q1:Bool} {sz:Nat} {els0 els:List (List ae)} {bt0 bt:TypeId} (he:lB σ m es) (h0:lo<=m) (hsafe:A6 es=true)
  (hs:σ (.af k)= .au bt0 [.ag q0 sz els0 (.cO id0), .ag q1 sz els (.cO id)]) (hkm:k<m) (hrow0:σ (.aJ id0)= .aN bt sz els0.length) (hrow:σ (.aJ id)= .aN bt sz els.length) (hid0:id0<m) (hne0:id0≠id) (hid:lo<=id) (hne:els≠[])
  (hels0:∀ el∈els0,∀ x∈el,mm x=true) (hels:∀ el∈els,∀ x∈el,mm x=true)
  (h:db P r nt lo c (aD ((.af k, .au bt0 [.ag q0 sz els0 (.cO id0), .aL m 0 sz els.length true])::(.af m, .aR bt els.flatten)::(.aJ id0, .aN bt sz els0.length)::es)) (m+1) K):db P r nt lo c σ n K:=by
 refine ⟨λb t a w hl hsim=>h.jG b t a w hl ?_⟩;obtain ⟨g,hh,hf,hE,hn⟩:=hsim;obtain ⟨q1',q2⟩:=LP hsafe;obtain ⟨ck,hk1,hk2,hk3,hk4⟩:=hh.dq k (by rw [hs];rfl);obtain ⟨arrk,ak1,ak2,ak3⟩:=hh.nS k bt0 _ ck hs hk1;have ak2':arrk.length=2:=ak2;obtain ⟨v0,v1,rfl⟩:∃ v0 v1,arrk=[v0,v1]:=by
  match arrk,ak2' with
  |[a,b],_=>simp_all
 have hslot:=ak3 1 _ v1 rfl rfl;have hslot0:=ak3 0 _ v0 rfl rfl;obtain ⟨ad,cap,hv,hp,ht⟩:=hslot.jj;obtain ⟨bk,N,t1,t2,t3⟩:=ht;obtain ⟨bk',r1,r2⟩:=hh.fA id bt sz els.length hrow;rw [r1] at t1;obtain ⟨e1,e2⟩:bk'=bk/\els.length=N:=by simp_all
 subst e1 e2;have hpos:0<els.length:=List.length_pos_iff.2 hne;rcases t3 rfl with ⟨_,e⟩|⟨c1,bt',rfl,rfl,hshape⟩
 ·omega
 obtain ⟨a1,a2,a3,a4,a5,arr,z,a6,a7⟩:=r2 c1 rfl;obtain ⟨bk0,s1,s2⟩:=hh.fA id0 bt sz els0.length hrow0;have hbk0:∀ c,bk0=some c->c≠c1:=λc hc e=>by
  grind
 have hnew:∀ o,¬t.AA.bJ c1 o:=by
  rcases hE.vS id c1 _ r1 with ⟨N0,e⟩|e
  ·have:=t.ER id _ e;omega
  ·exact e
 let g2:cf:=⟨λk o=>g.bJ k o/\k≠c1,λi=>if i=m then some c1 else if i<m then g.aZ i else none,λi=>if i<m/\i≠id then g.cu i else none⟩
 have own1:∀ i k,i<m->g.aZ i=some k->g2.aZ i=some k:=λi k hi hk=>by grind
 have own2:∀ i k,g2.aZ i=some k->(i=m/\k=c1)\/(i<m/\g.aZ i=some k):=λi k hk=>by
  grind
 have row0:g2.cu id0=some (bk0,els0.length):=by grind
 let σ2:az:=aD ((.af k, .au bt0 [.ag q0 sz els0 (.cO id0), .aL m 0 sz els.length true])::(.af m, .aR bt els.flatten)::(.aJ id0, .aN bt sz els0.length)::es)
 have sk:σ2 (.af k)= .au bt0 [.ag q0 sz els0 (.cO id0), .aL m 0 sz els.length true]:=by simp only [σ2,aD];rw [gY]
 have sm:σ2 (.af m)= .aR bt els.flatten:=by simp only [σ2,aD];grind [cL,gY]
 have sb:∀ i,i≠m->i≠k->σ2 (.af i)=aD es (.af i):=λi hi hik=>by simp only [σ2,aD];rw [cL (by grind),cL (by grind),cL (by intro e;cases e)]
 have sr0:σ2 (.aJ id0)= .aN bt sz els0.length:=by simp only [σ2,aD];grind [cL,gY]
 have sr:∀ i,i≠id0->σ2 (.aJ i)= .bq:=λi hi=>by simp only [σ2,aD];grind [cL]
 have sbk:∀ i,aD es (.af i)≠ .bq->aD es (.af i)=σ (.af i)/\i<m/\rf m (σ (.af i))=true:=λi hne=>by
  rcases he.nZ (.af i) with h1|⟨h1,h2,h3⟩
  ·exact absurd h1 hne
  ·exact ⟨h1,eH h2,h3⟩
 have isb:∀ i,(aD es (.af i)).dw=true->aD es (.af i)≠ .bq:=λi hl e=>by rw [e] at hl;cases hl
 have hblk:∀ i,i≠m->(σ2 (.af i)).dw=true->(σ (.af i)).dw=true/\i<m:=λi him hl=>by
  by_cases hik:i=k
  ·subst hik;exact ⟨by rw [hs];rfl,hkm⟩
  grind
 have harr:arr.length=cap*sz:=by
  grind [World.shape?]
 cases hp with
 |iK vals hnil hc hsz ha hone hrep=>
 have hcells:∀ (p:Nat) (x:ae) (v:Value),els.flatten[p]? =some x->arr[p]? =some v->cb w g2.bJ x v:=λp x v hx hv=>by
  obtain ⟨el,f1,f2,f3⟩:=Cu sz els hsz p x hx;obtain ⟨blk,base,g1',g2',g3'⟩:=ha _ el _ x f1 f2;cases g1';rw [Nat.zero_add,f3] at g3';have hcv:w.cell? ⟨c1,p,none⟩=some v:=by grind [nk]
  rw [hcv] at g3';cases g3';exact (hrep _ el _ x f1 f2).C7 (hels el (List.mem_of_getElem? f1) x (List.mem_of_getElem? f2))
 have hrep0:aF w g2 (.ag q0 sz els0 (.cO id0)) v0:=by
  obtain ⟨ad0,cap0,hv0,hp0,ht0⟩:=hslot0.jj;obtain ⟨bk0',N0,y1,y2,y3⟩:=ht0;rw [s1] at y1;obtain ⟨e1,e2⟩:bk0=bk0'/\els0.length=N0:=by grind
  subst e1 e2;rw [hv0];refine .jc ?_ ⟨bk0,_,row0,y2,y3⟩;cases hp0 with
  |iK vals0 hnil0 hc0 hsz0 ha0 hone0 hrep0=>
   refine .iK vals0 hnil0 hc0 hsz0 (λi el j x h1 h2=>?_) hone0 (λi el j x h1 h2=>(hrep0 i el j x h1 h2).C7 (hels0 el (List.mem_of_getElem? h1) x (List.mem_of_getElem? h2)));obtain ⟨blk,base,g1',g2',g3'⟩:=ha0 i el j x h1 h2;grind
 refine ⟨g2,bh.lQ hh.dU (λk o hk=>hh.fU k o hk.1) (λk o hk=>⟨hh.kY k o hk,λe=>by subst e;rcases a1 with a1|a1;exact absurd (b.Kv _ o hk) om;exact b.Pk _ o hk a1⟩) (λk o hk hlt hx=>hh.kh k o hk.1 hlt hx) (λi k hk=>?_) (λi x hx=>?_) (λi k hk=>?_) (λi k N hk=>?_)
  (λi hl=>?_) (λi k' hl hk=>?_) (λi j k hi hj hik hjk=>?_) (λi Y k' hY hk=>?_) (λi t' sz' N hs'=>?_),⟨hf.mN,hf.nW,λi hi=>?_⟩,⟨⟨λk o hk=>?_,λi k hk=>?_,λi bk N hr=>?_,λi k N hr=>?_⟩,hE.rR,hE.uC,hE.rQ⟩,om⟩
 ·grind
 ·grind
 ·rcases own2 i k hk with ⟨_,e⟩|⟨_,e⟩
  ·rw [e];exact a2
  ·exact hh.eU i k e
 ·simp only [g2] at hk;split at hk
  ·exact hh.gV i k N hk
  ·cases hk
 ·by_cases him:i=m
  ·grind
  ·obtain ⟨u1,u2⟩:=hblk i him hl;obtain ⟨k,v1,v2,v3,v4⟩:=hh.dq i u1;grind
 ·by_cases him:i=m
  ·subst him;rcases own2 i k' hk with ⟨_,e⟩|⟨e,_⟩
   ·subst e;show mI w g2 k' (σ2 (.af i));rw [sm];exact ⟨arr,z,a6,by rw [lA sz els hsz,harr];exact Nat.mul_le_mul_right _ hc,a7,hcells⟩
   ·omega
  ·by_cases hik:i=k
   ·subst hik;rcases own2 i k' hk with ⟨e,_⟩|⟨_,hk'⟩
    ·exact absurd e him
    rw [hk1] at hk';cases hk';show mI w g2 ck (σ2 (.af i));rw [sk];refine ⟨[v0,v1],ak1,rfl,λp x v hx hv'=>?_⟩
    match p,hx,hv' with
    |0,hx,hv'=>grind
    |1,hx,hv'=>
     cases hx;cases hv';rw [hv];exact .kH (by simp [g2]) (λ_=>rfl) rfl hc (λ_=>⟨rfl,rfl,bt',hshape⟩)
    |p+2,hx,_=>simp at hx
   ·have hl':(aD es (.af i)).dw=true:=by grind
    obtain ⟨u1,u2,u3⟩:=sbk i (isb i hl');rcases own2 i k' hk with ⟨e,_⟩|⟨_,hk'⟩
    ·exact absurd e him
    show mI w g2 k' (σ2 (.af i));rw [sb i him hik];have hcl:=hh.kF hk';have hsf:=q1' (.af i);rw [u1] at hsf ⊢;cases hx:σ (.af i) with
    |au t' cells=>
     rw [hx] at hcl hsf u3;obtain ⟨arr',w1,w2,w3⟩:=hcl;exact ⟨arr',w1,w2,λj x v h1 h2=>(w3 j x v h1 h2).ID (xW hsf j x h1) (mQ u3 j x h1) own1⟩
    |iR s' pos=>rw [hx] at hcl;exact hcl
    |c9 X=>
     rw [hx] at hcl hsf u3;cases X with
     |dP clock es'=>cases hsf
     |oO k' since seen last=>
      obtain ⟨q,w1,w2⟩:=hcl;exact ⟨q,own1 _ _ (eH u3) w1,w2⟩
    |aR _ _=>rw [hx] at hsf;cases hsf
    |eZ=>rw [hx] at hsf;cases hsf
    |_=>trivial
 ·by_cases him:i=m
  ·grind
  ·obtain ⟨u1,u2⟩:=hblk i him hi;rcases own2 i k hik with ⟨e,_⟩|⟨_,hk'⟩
   ·exact absurd e him
   by_cases hjm:j=m
   ·grind
   ·obtain ⟨v1,v2⟩:=hblk j hjm hj;rcases own2 j k hjk with ⟨e,_⟩|⟨_,hk''⟩
    ·exact absurd e hjm
    exact hh.iT i j k u1 v1 hk' hk''
 ·by_cases him:i=m
  ·grind
  ·have hY:σ2 (.af i)= .eT Y:=hY
   by_cases hik:i=k
   ·grind
   rw [sb i him hik] at hY;obtain ⟨u1,_,_⟩:=sbk i (by rw [hY];simp);rcases own2 i k' hk with ⟨e,_⟩|⟨_,hk'⟩
   ·exact absurd e him
   exact hh.lv i Y k' (by grind) hk'
 ·grind
 ·show aF w g2 (dV σ2 i) _;have e:σ2 (.aj i)=aD es (.aj i):=by trivial
  unfold dV;rw [e];rcases he.nZ (.aj i) with h1|⟨h1,_,h3⟩
  ·rw [h1];exact .jV
  ·have hr:=hf.kI i hi;have hsf:=q1' (.aj i);unfold dV at hr;rw [h1] at hsf ⊢;cases hx:σ (.aj i) with
   |ah x=>rw [hx] at hr h3 hsf;exact hr.ID hsf h3 own1
   |_=>exact .jV
 ·obtain ⟨u1,u2⟩:=hE.ee k o hk;grind
 ·obtain ⟨u1,u2⟩:=hE.kE i k hk;exact ⟨own1 i k (by have:=t.KE i k hk;omega) u1,u2⟩
 ·have h1:=t.ER i _ hr;obtain ⟨bk',N',u1,u2,u3⟩:=hE.vT i bk N hr;grind
 ·simp only [g2] at hr;split at hr
  ·exact hE.vS i k N hr
  ·cases hr
theorem mf.aiN {o:Oper} {n:Nat} {K:ae->az->Nat->Prop} {t0 e:TypeId} (hu:P.underlying t0=some (.slice e)) {c0:Call} (hop:o.op= .call c0) (hcal:c0.callee= .builtin .clear) (hat:c0.argTypes[0]? =some t0) {x:Operand} (hargs:c0.args=#[x])
  {q:Bool} {sz:Nat} {tk:ql} (hx:aM σ x= .ag q sz [] tk) (hK:K (.aw []) σ (n+1)):mf P o σ n K:=by
 refine ⟨λb g a w h hrr=>?_⟩;have hrx:=hrr x (by grind [Op.operands,Call.operands]);rw [hx] at hrx;obtain ⟨ad,c,ex,_,_⟩:=hrx.jj;have run:∀ {w':World},(Builtin.clear_ c0.argTypes o.type #[a.eval x]).run P w= .ok (.tuple #[]) w'->(execOp a.eval o).run P w= .ok (.value (.tuple #[])) w':=by
  intro w' hb;obtain ⟨dst,op,ty,pos,after,guard⟩:=o;grind [tl,builtin,Sem.run_bind,Result.andThen_ok,Sem.run_pure]
 have r1:(Builtin.clear_ c0.argTypes o.type #[a.eval x]).run P w= .ok (.tuple #[]) w:=by
  cases ad<;>simp [Builtin.clear_,hat,ex,run_underlying hu,Result.andThen]
 exact ⟨.value (.tuple #[]), .tuple #[],w, .aw [],σ,n+1,g,run r1, .inl rfl,hK,Nat.le_succ n, .jN (vs:=[]) rfl (λi x v h1=>by simp at h1),h.qp (Nat.le_succ n),dp.qg _ _⟩
theorem aC.Ex (hT:dA P T) {f:FuncId} {fn:Func} {c:Code} (hf:P.funcs[f]? =some fn) (hb:fn.body=some c) (hn:(fn.name== "runtime.NumGoroutine")=false) {args:List ae} {res:ae} (hl:Nat.ble args.length fn.ntmps=true) (hro:lE fn.ntmps fn.results.toList=true)
  (h:db P none fn.ntmps 0 c (n5 args) 0 (xN iL T fn res)):aC P f args res:=
 aC.Qf (λ_ _ h=>h) hT hf hb hn hl hro h
theorem db.aiO {r:Option Nat} {nt lo n:Nat} {c:Code} {K:Exit->az->Nat->Prop} (k j:Nat) {bt:TypeId} {cells cells':List ae} (hs:σ (.af k)= .au bt cells) (hc:cells.set j .bV=cells') (h:db P r nt lo c (aU σ (.af k) (.au bt cells')) n K):db P r nt lo c σ n K:=by
 subst hc;refine ⟨λb t a w hl hsim=>h.jG b t a w hl ?_⟩;obtain ⟨g,hh,hf,hE,hn⟩:=hsim;refine ⟨g,hh.Ka hs (List.length_set) (λi y v hy hx=>?_),hf.qo (λi=>by trivial),hE,hn⟩
 by_cases hij:i=j
 ·subst hij;have hlt:i<(cells.set i .bV).length:=(List.getElem?_eq_some_iff.1 hy).1;rw [List.length_set] at hlt;rw [List.getElem?_set_self hlt] at hy;cases hy;exact .jV
 grind
end
end Go.Am
namespace Go.Proofs.YtffboamedcmpaaaGreatDoor
open Gw
open Go.Am
def pz (M:Int) (l:List fI):List fI:=l.filter λw=>!decide (w.oA<=M)
def pA (M:Int) (l:List fI):List fI:=l.filter λw=>decide (w.oA<=M)
def OW (M:Int) (q:Bool) (l:List fI) (k:Nat):List (Am.aS×bs):=[(.af 0, .au 37 [.aa .i64 M,cv 2 dz ⟨q,l⟩]),(.af 1, .au 37 [.aa .i64 0, .ag true 1 [] .bR]),
 (.af 9, .au 373 [.ag (pz M (l.take k)).isEmpty 2 ((pz M (l.take k)).map dz) (.cO 16), .ag (pA M (l.take k)).isEmpty 2 ((pA M (l.take k)).map dz) (.cO 17)]),(.aJ 16, .aN 331 2 (pz M (l.take k)).length),(.aJ 17, .aN 331 2 (pA M (l.take k)).length)]
def sX (B:List fI) (j:Nat):List Int:=(B.take j).map (·.fJ)++List.replicate (B.length - j) 0
theorem aiS {B:List fI} {j:Nat} (h:j<=B.length):(sX B j).length=B.length:=by
 grind [sX]
theorem aiT {B:List fI} {j:Nat} (h:j<B.length):(sX B j).set j B[j].fJ=sX B (j+1):=by
 unfold sX;have h1:((B.take j).map (·.fJ)).length=j:=by grind
 rw [List.set_append_right _ _ (by omega),h1,Nat.sub_self,List.take_succ_eq_append_getElem h,List.map_append,List.append_assoc];rw [show B.length - j=(B.length - (j+1))+1 by omega,List.replicate_succ,List.set_cons_zero];rfl
theorem aiU (B:List fI):eB B.length [.aa .i64 0]=((sX B 0).map ie).flatten:=by
 unfold sX eB;rw [List.take_zero,List.map_nil,List.nil_append,Nat.sub_zero,List.map_replicate];rfl
theorem aiR (B:List fI):sX B B.length=B.map (·.fJ):=by
 grind [sX]
theorem Xx {σ:az} {B:List fI} (h:σ (.af 22)= .aR 3 (((sX B B.length).map ie).flatten)):Am.km σ (.aL 22 0 1 B.length true) (cv 1 ie (.jK (B.map (·.fJ)))):=by
 have h2:=D3 (enc:=ie) (sz:=1) (full:=true) (λ_=>rfl) (λ_=>rfl) h;rw [aiR,List.length_map] at h2;exact h2
theorem aiQ (g:l6) (kept:Int) (hl:g.gi.ab.length<=1000000):aC Tryz.prog 196 [l9 g, .aa .i64 kept] (.aw [l9 (w6 g kept).1,cv 1 ie (w6 g kept).2]):=by
 obtain ⟨kp,⟨q,l⟩⟩:=g;have hel:(l.map dz).length=l.length:=List.length_map _;dsimp only at hl;refine aC.Ex dW (fn:=Tryz.f196) aG rfl aG rfl rfl ?_;refine eK ?_;refine eK ?_;refine eK ?_;refine eK ?_;refine eK ?_;refine db.OH 9 0 331 2 rfl rfl rfl ?_;refine db.OH 9 1 331 2 rfl rfl rfl ?_;refine db.cK (X:=Nat) (λk=>(.aj 2, .ah (.ar 0 0))::(.aj 4, .ah (.ar 1 0))::(.aj 6, .ah (.ar 9 0))::(.aj 7, .ah (.aP 231 [] [.ar 0 0, .ar 9 0]))::(.aj 20, .ah (cv 2 dz ⟨q,l⟩))::(.aj 21, .ah (.aa .i64 l.length))::(.aj 22, .ah (.aa .i64 k))::OW (max kp kept) q l k) 18
  (λk=>k<=l.length) (λk=>l.length - k) dd 0 (Nat.zero_le _) ⟨rfl,rfl,rfl,rfl,rfl,rfl,rfl,rfl,rfl,rfl,?_,rfl,rfl,rfl,?_,rfl,rfl,rfl,rfl,rfl,rfl,rfl,rfl,rfl,trivial⟩ ?_
 ·show bs.ah (ae.aa .i64 ((l.map dz).length:Nat))=_;rw [hel]
 ·rfl
 rintro k hk;refine cn ?_;refine ⟨λh=>?_,λh=>?_⟩
 ·have h:=of_decide_eq_true h;have hlt:k<l.length:=om;have hg:=lN dz hlt;have htj:=List.take_succ_eq_append_getElem hlt;have w1:IntKind.i64.wrap ((k:Int)+1)=((k+1:Nat):Int):=by grind [bj]
  have hAk:∀ a:fI,pz (max kp kept) (l.take k++[a])=pz (max kp kept) (l.take k)++(if a.oA<=max kp kept then [] else [a]):=λa=>by
   unfold pz;grind
  have hBk:∀ a:fI,pA (max kp kept) (l.take k++[a])=pA (max kp kept) (l.take k)++(if a.oA<=max kp kept then [a] else []):=λa=>by
   unfold pA;grind
  have hA:=hAk l[k];have hB:=hBk l[k];clear hAk hBk;rw [<-htj] at hA hB;have hlA:(pz (max kp kept) (l.take k)).length<=k:=Nat.le_trans (List.length_filter_le _ _) (by simp_all);have hlB:(pA (max kp kept) (l.take k)).length<=k:=Nat.le_trans (List.length_filter_le _ _) (by simp_all);generalize hx:l[k]=b at*;unfold OW;generalize pz (max kp kept) (l.take k)=A at*;generalize pA (max kp kept) (l.take k)=B at*;refine ak ?_;refine bn Tryz.func231 ?_
  conv=>whnf
  refine ⟨λh=>?_,λh=>?_⟩
  ·have h:=of_decide_eq_true h
   conv=>whnf
   rw [if_pos h,List.append_nil] at hA;rw [if_pos h] at hB;refine ⟨⟨dd,dd⟩,?_⟩
   conv=>whnf
   refine ⟨⟨(List.length_map _).symm,dG (by grind) dd⟩,?_⟩
   conv=>whnf
   refine ⟨⟨dd,dd⟩,?_⟩
   conv=>whnf
   refine ⟨aG,?_⟩
   conv=>whnf
   refine ⟨k+1,om,by grind,⟨rfl,rfl,rfl,rfl,rfl,rfl,rfl,rfl,rfl,rfl,rfl,rfl,?_,rfl,rfl,rfl,rfl,rfl,?_,rfl,?_,rfl,?_,rfl,trivial⟩⟩
   ·exact dh
   ·show bs.au _ [.ag A.isEmpty 2 (A.map dz) (.cO 16),_]=bs.au _ [.ag (pz (max kp kept) (l.take (k+1))).isEmpty 2 ((pz (max kp kept) (l.take (k+1))).map dz) (.cO 16), .ag (pA (max kp kept) (l.take (k+1))).isEmpty 2 ((pA (max kp kept) (l.take (k+1))).map dz) (.cO 17)];rw [hA,hB,List.map_append];cases B with
    |nil=>rfl
    |cons x B'=>rfl
   ·show bs.aN _ 2 A.length=bs.aN _ 2 (pz (max kp kept) (l.take (k+1))).length;rw [hA]
   ·show bs.aN _ 2 _=bs.aN _ 2 (pA (max kp kept) (l.take (k+1))).length;simp_all
  ·have h:=of_decide_eq_false h
   conv=>whnf
   rw [if_neg h] at hA;rw [if_neg h,List.append_nil] at hB;refine ⟨⟨dd,dd⟩,?_⟩
   conv=>whnf
   refine ⟨⟨(List.length_map _).symm,dG (by grind) dd⟩,?_⟩
   conv=>whnf
   refine ⟨⟨dd,dd⟩,?_⟩
   conv=>whnf
   refine ⟨aG,?_⟩
   conv=>whnf
   refine ⟨k+1,om,by grind,⟨rfl,rfl,rfl,rfl,rfl,rfl,rfl,rfl,rfl,rfl,rfl,rfl,?_,rfl,rfl,rfl,rfl,rfl,?_,rfl,?_,rfl,?_,rfl,trivial⟩⟩
   ·exact dh
   ·show bs.au _ [_, .ag B.isEmpty 2 (B.map dz) (.cO 17)]=bs.au _ [.ag (pz (max kp kept) (l.take (k+1))).isEmpty 2 ((pz (max kp kept) (l.take (k+1))).map dz) (.cO 16), .ag (pA (max kp kept) (l.take (k+1))).isEmpty 2 ((pA (max kp kept) (l.take (k+1))).map dz) (.cO 17)];rw [hA,hB,List.map_append];cases A with
    |nil=>rfl
    |cons x A'=>rfl
   ·show bs.aN _ 2 _=bs.aN _ 2 (pz (max kp kept) (l.take (k+1))).length;simp_all
   ·show bs.aN _ 2 B.length=bs.aN _ 2 (pA (max kp kept) (l.take (k+1))).length;rw [hB]
 have h:=of_decide_eq_false h;obtain rfl:k=l.length:=om;have hr1:w6 ⟨kp,⟨q,l⟩⟩ kept=(⟨max kp kept,⟨true,pz (max kp kept) l⟩⟩, .jK ((pA (max kp kept) l).map (·.fJ))):=rfl;have hlA:(pz (max kp kept) l).length<=l.length:=List.length_filter_le _ _;have hlB:(pA (max kp kept) l).length<=l.length:=List.length_filter_le _ _;rw [hr1];unfold OW;rw [List.take_length];generalize pz (max kp kept) l=A at*;generalize pA (max kp kept) l=B at*;have heB:(B.map dz).length=B.length:=List.length_map _
 conv=>whnf
 refine db.aiO 0 1 (cells':=[.aa .i64 (max kp kept), .bV]) rfl rfl ?_;cases B with
 |nil=>
  refine cn ?_;refine ⟨⟨dd,dd⟩,?_⟩
  conv=>whnf
  refine ⟨⟨dd,rfl,dG (Nat.le_of_ble_eq_true rfl) dd⟩,?_⟩
  conv=>whnf
  refine ⟨⟨dd,dd⟩,?_⟩
  conv=>whnf
  refine db.cK (X:=Unit) (λ_=>[(.aj 2, .ah (.ar 0 0)),(.aj 4, .ah (.ar 1 0)),(.aj 6, .ah (.ar 9 0)),(.aj 10, .ah (.aL 22 0 1 0 true)),(.aj 36, .ah (.aa .i64 0)),(.aj 37, .ah (.aa .i64 0)),(.af 0, .au 37 [.aa .i64 (max kp kept), .bV]),(.af 1, .au 37 [.aa .i64 0, .ag true 1 [] .bR]),
   (.af 9, .au 373 [.ag A.isEmpty 2 (A.map dz) (.cO 16), .ag true 2 [] (.cO 17)]),(.aJ 16, .aN 331 2 A.length),(.aJ 17, .aN 331 2 0),(.af 22, .aR 3 [])]) 23 (λ_=>True) (λ_=>0) dd () trivial ⟨rfl,rfl,rfl,rfl,rfl,rfl,rfl,rfl,rfl,rfl,rfl,rfl,rfl,rfl,rfl,rfl,rfl,rfl,rfl,rfl,rfl,rfl,rfl,rfl,trivial⟩ ?_
  rintro ⟨⟩ _;refine cn ?_;refine iV ?_;refine ⟨⟨dd,dd⟩,?_⟩
  conv=>whnf
  refine mf.aiN (t0:=35) (e:=331) aG rfl rfl rfl rfl rfl ?_
  conv=>whnf
  refine ⟨⟨dd,dd⟩,?_⟩
  conv=>whnf
  exact yE.yF (.gM (yE.zV (.gM (.mh (v:= .aa .i64 (max kp kept)) rfl) (.gM (.mh (v:= .ag A.isEmpty 2 (A.map dz) (.cO 16)) rfl) .mZ))) (.gM (Xx (B:=[]) rfl) .mZ))
 |cons b B'=>
  refine db.aiP (m:=18) (bt:=331) 9 16 17 (es:=[(.aj 2, .ah (.ar 0 0)),(.aj 4, .ah (.ar 1 0)),(.aj 6, .ah (.ar 9 0)),(.af 0, .au 37 [.aa .i64 (max kp kept), .bV]),(.af 1, .au 37 [.aa .i64 0, .ag true 1 [] .bR])]) ⟨rfl,rfl,rfl,rfl,rfl,rfl,rfl,rfl,rfl,rfl,trivial⟩ (Nat.zero_le _) rfl rfl dd ?_ ?_ dd dd (Nat.zero_le _) (by simp) (λel he x hx=>?_) (λel he x hx=>?_) ?_
  ·show bs.aN _ 2 A.length=bs.aN _ 2 (A.map dz).length;simp_all
  ·show bs.aN _ 2 (b::B').length=bs.aN _ 2 ((b::B').map dz).length;simp_all
  ·obtain ⟨a,_,rfl⟩:=List.mem_map.1 he;rcases List.mem_cons.1 hx with rfl|hx
   ·rfl
   ·rw [List.mem_singleton.1 hx];rfl
  ·obtain ⟨a,_,rfl⟩:=List.mem_map.1 he;rcases List.mem_cons.1 hx with rfl|hx
   ·rfl
   ·rw [List.mem_singleton.1 hx];rfl
  rw [heB];refine cn ?_;refine ⟨⟨dd,dd⟩,?_⟩
  conv=>whnf
  refine ⟨⟨om,rfl,dG om dd⟩,?_⟩
  conv=>whnf
  refine ⟨⟨dd,dd⟩,?_⟩
  conv=>whnf
  have hb0:b::B'≠[]:=by simp
  generalize b::B'=B at*;refine db.cK (X:=Nat) (λj=>[(.aj 2, .ah (.ar 0 0)),(.aj 4, .ah (.ar 1 0)),(.aj 6, .ah (.ar 9 0)),(.aj 10, .ah (.aL 22 0 1 B.length true)),(.aj 35, .ah (.aL 18 0 2 B.length true)),(.aj 36, .ah (.aa .i64 B.length)),(.aj 37, .ah (.aa .i64 j)),(.af 0, .au 37 [.aa .i64 (max kp kept), .bV]),(.af 1, .au 37 [.aa .i64 0, .ag true 1 [] .bR]),
   (.af 9, .au 373 [.ag A.isEmpty 2 (A.map dz) (.cO 16), .aL 18 0 2 B.length true]),(.aJ 16, .aN 331 2 (A.map dz).length),(.af 18, .aR 331 ((B.map dz).flatten)),(.af 22, .aR 3 (((sX B j).map ie).flatten))]) 23 (λj=>j<=B.length) (λj=>B.length - j) dd 0 (Nat.zero_le _) ⟨rfl,rfl,rfl,rfl,rfl,rfl,rfl,rfl,rfl,rfl,rfl,rfl,rfl,rfl,rfl,rfl,rfl,rfl,rfl,rfl,rfl,rfl,rfl,rfl,?_,rfl,trivial⟩ ?_
  ·show bs.aR _ (eB ((B.length:Int).toNat) [.aa .i64 0])=_;grind [aiU]
  rintro j hj;refine cn ?_;refine ⟨λh=>?_,λh=>?_⟩
  ·have h:=of_decide_eq_true h;have hlt:j<B.length:=om;have hL:=vA (enc:=dz) (sz:=2) (λ_=>rfl) hlt;have hR:=BK (enc:=dz) (sz:=2) (λ_=>rfl) hlt;have hlz:=aiS (B:=B) (j:=j) hj;have hS:=G2 (enc:=ie) (sz:=1) (λ_=>rfl) (l:=sX B j) (i:=j) om (b:=B[j].fJ) (p:=[]) (s:=[]) rfl rfl (k:=j*1) rfl;rw [aiT hlt] at hS;have hRz:=BK (enc:=ie) (sz:=1) (λ_=>rfl) (l:=sX B j) (k:=j) om;have w1:IntKind.i64.wrap ((j:Int)+1)=((j+1:Nat):Int):=by grind [bj]
   have o1:0+(j:Int).toNat*2=j*2:=om;have o2:0+(j:Int).toNat*1=j*1:=om;generalize B[j]=y at*;refine ak ?_;rw [o1];refine ⟨_,⟨om,hL⟩,?_⟩
   conv=>whnf
   refine ⟨⟨om,om⟩,?_⟩
   conv=>whnf
   rw [o2];refine ⟨om,?_⟩
   conv=>whnf
   refine ⟨j+1,om,by grind,⟨rfl,rfl,rfl,rfl,rfl,rfl,rfl,rfl,rfl,rfl,rfl,rfl,?_,rfl,rfl,rfl,rfl,rfl,rfl,rfl,rfl,rfl,rfl,rfl,?_,rfl,trivial⟩⟩
   ·exact dh
   ·exact congrArg (bs.aR _) hS
  ·have h:=of_decide_eq_false h;obtain rfl:j=B.length:=om
   conv=>whnf
   refine ⟨⟨dd,dd⟩,?_⟩
   conv=>whnf
   have hfl:=pq (enc:=dz) (sz:=2) (λ_=>rfl) B;refine mf.NG dW (t0:=35) (e:=331) aG rfl rfl rfl rfl rfl rfl rfl rfl aG aG (by rw [hfl];omega) ?_
   conv=>whnf
   refine ⟨⟨dd,dd⟩,?_⟩
   conv=>whnf
   exact yE.yF (.gM (yE.zV (.gM (.mh (v:= .aa .i64 (max kp kept)) rfl) (.gM (.mh (v:= .ag A.isEmpty 2 (A.map dz) (.cO 16)) rfl) .mZ))) (.gM (Xx rfl) .mZ))
def vO (s:Int) (o:aH):Int:=if cJ o=true then mY s o.aT else s
def Ey (g:eh) (m:bM) (seen:Int):List ae:=[cv 17 dY g.b8,cv 8 iF g.aQ, .aa .i64 seen, .aa .i64 m.iH,cv 2 iJ m.dO,cv 4 ej m.de, .aa .i64 m.fz]
theorem aiV (m:bM) (h:iy m.aA) (nil:Bool) (l:List aH) (hf:∀ o∈l,lZ o) (hl:l.length<=100000):aC Tryz.prog 105 [zU m, .ag nil 7 (l.map cI) .av] (zU (Jz m l)):=by
 have hA:=ahl h nil l hf hl;have hel:(l.map cI).length=l.length:=List.length_map _;rw [show zU (Jz m l)= .aK (Ey (DS m.aA l).1 m (l.foldl vO m.eC)) from rfl];generalize DS m.aA l=y at*;obtain ⟨g,e⟩:=y;dsimp only at*;refine bK Tryz.func105 ?_;refine ak ?_;refine db.cK (X:=Nat) (λk=>[(.aj 2, .ah (.ar 0 0)),(.aj 4, .ah (.ar 1 0)),(.aj 15, .ah (.ag nil 7 (l.map cI) .av)),(.aj 16, .ah (.aa .i64 l.length)),(.aj 17, .ah (.aa .i64 k)),(.af 0, .au 31 (Ey g m ((l.take k).foldl vO m.eC))),(.af 1, .au 31 [.ag true 1 [] .bR, .ag true 1 [] .bR, .aa .i64 0, .aa .i64 0, .ag true 1 [] .bR, .ag true 1 [] .bR, .aa .i64 0])]) 2
  (λk=>k<=l.length) (λk=>l.length - k) dd 0 (Nat.zero_le _) ⟨rfl,rfl,rfl,rfl,rfl,rfl,?_,rfl,rfl,rfl,rfl,rfl,rfl,rfl,trivial⟩ ?_
 ·show bs.ah (ae.aa .i64 ((l.map cI).length:Nat))=_;rw [hel]
 rintro k hk;refine cn ?_;refine ⟨λh=>?_,λh=>?_⟩
 ·have h:=of_decide_eq_true h;have hlt:k<l.length:=om;have hg:=lN cI hlt;have htj:=List.take_succ_eq_append_getElem hlt;have hck:=Bv l[k] (hf _ (List.getElem_mem hlt));have hse:=U9 false ((l.take k).foldl vO m.eC) l[k].aT;have w1:IntKind.i64.wrap ((k:Int)+1)=((k+1:Nat):Int):=by grind [bj]
  have hF:(l.take (k+1)).foldl vO m.eC=vO ((l.take k).foldl vO m.eC) l[k]:=by grind
  generalize (l.take k).foldl vO m.eC=s at*;generalize l[k]=o at*;refine ak ?_;refine ⟨λh=>?_,λh=>?_⟩
  ·conv=>whnf
   refine bz.eV (hse) rfl ?_
   conv=>whnf
   refine ⟨k+1,om,by grind,⟨rfl,rfl,rfl,rfl,rfl,rfl,rfl,rfl,?_,rfl,?_,rfl,rfl,rfl,trivial⟩⟩
   ·exact dh
   ·show bs.au _ (Ey g m (mY s o.aT))=bs.au _ (Ey g m ((l.take (k+1)).foldl vO m.eC));grind [vO]
  ·conv=>whnf
   refine ⟨k+1,om,by grind,⟨rfl,rfl,rfl,rfl,rfl,rfl,rfl,rfl,?_,rfl,?_,rfl,rfl,rfl,trivial⟩⟩
   ·exact dh
   ·show bs.au _ (Ey g m s)=bs.au _ (Ey g m ((l.take (k+1)).foldl vO m.eC));grind [vO]
 ·have h:=of_decide_eq_false h;obtain rfl:k=l.length:=om;rw [List.take_length];exact bm
theorem aiX (nil:Bool) (l:List cd) (hl:l.length<=1048576):aC Tryz.prog 111 [.ag nil 18 (l.map cr) .av, .aP 56 [] []] (.aa .i64 (fR (λt=>!t.kf) l)):=by
 have hel:(l.map cr).length=l.length:=List.length_map _;refine bK Tryz.func111 ?_
 conv=>whnf
 refine db.cK (λk:Nat=>[(.aj 0, .ah (.ag nil 18 (l.map cr) .av)),(.aj 1, .ah (.aP 56 [] [])),(.aj 7, .ah (.aa .i64 l.length)),(.aj 8, .ah (.aa .i64 k))]) 2
  (λk=>k<=l.length/\∀ a∈l.take k,(λt=>!t.kf) a=false) (λk=>l.length - k) dd 0 ⟨Nat.zero_le _,by simp⟩ ⟨rfl,rfl,rfl,rfl,?_,rfl,rfl,rfl,trivial⟩ ?_
 ·show bs.ah (ae.aa .i64 ((l.map cr).length:Nat))=_;rw [hel]
 rintro k ⟨hk,hno⟩;refine cn ?_;refine ⟨λh=>?_,λh=>?_⟩
 ·have h:=of_decide_eq_true h;have hlt:k<l.length:=om;have hg:=lN cr hlt;have hp1:=UZ (p:=(λt=>!t.kf)) hlt hno;have hp2:=NF (p:=(λt=>!t.kf)) hlt hno;have w1:IntKind.i64.wrap ((k:Int)+1)=((k+1:Nat):Int):=by rw [bj om om];rfl
  generalize hx:l[k]=a at*;refine cC ?_;refine bn Tryz.func56 ?_
  conv=>whnf
  refine ⟨λh=>?_,λh=>?_⟩
  ·have h:(λt=>!t.kf) a=true:=by simpa using h
   conv=>whnf
   rw [hp1 h]
  ·have h:(λt=>!t.kf) a=false:=by simpa using h
   conv=>whnf
   refine ⟨k+1,⟨om,hp2 h⟩,by show l.length - (k+1)<l.length - k;omega,rfl,rfl,rfl,rfl,rfl,rfl,?_,rfl,trivial⟩;exact dh
 ·have h:=of_decide_eq_false h;obtain rfl:k=l.length:=om;rw [List.take_length] at hno
  conv=>whnf
  rw [ND hno]
theorem aiW (nil:Bool) (l:List cd) (hl:l.length<=1048576):aC Tryz.prog 55 [.ag nil 18 (l.map cr) .av, .aP 56 [] []] (.aE (l.any (λt=>!t.kf))):=by
 have hi:=aiX nil l hl;refine bK Tryz.func55 ?_;refine cC ?_;rw [UY]
theorem ai0 (r:Int):(rF r).2=0\/(rF r).2=20:=by
 grind [rF]
theorem XA (r:Int):aC Tryz.prog 28 [.aa .i64 r] (.aw [lM (oD r).1, .aa .i64 (oD r).2]):=by
 have hm:=ahI r;have he:=ai0 r;unfold oD;generalize rF r=y at*;obtain ⟨m,e⟩:=y;dsimp only at*;rcases he with rfl|rfl
 ·rw [if_neg dd];refine cU Tryz.func28 ?_;refine ak ?_;exact iL.ml (.aX (.np (.aX (.bw _) (.aX (.bw _) (.aX (.bw _) (.aX (.bw _) (.aX (.bw _) (.aX (.bw _) (.aX (.bw _) (.aX (.eR _ _ _) (.aX (.eR _ _ _) (.aX (.bw _) (.aX (.eR _ _ _) (.aX (.eR _ _ _) (.aX (.bw _) (.aX (.eR _ _ _) .fa))))))))))))))) (.aX (.bw _) .fa))
 ·rw [if_pos dd];refine cU Tryz.func28 ?_;refine ak ?_;exact iL.ml (.aX (.np oT) (.aX (.bw _) .fa))
theorem Xz (x:aV) (hl:x.aq.ab.length<=1048576):aC Tryz.prog 27 [lM x] (.aE (BG x)):=by
 have hi:=aiW x.aq.bZ x.aq.ab hl;have he:BG x=!(x.aq.ab.any λt=>!t.kf):=by
  grind [BG]
 rw [he];generalize (x.aq.ab.any λt=>!t.kf)=b at*;refine bK Tryz.func27 ?_;exact dC
theorem Xy (x:aV) (t:cd):∀ (l:List cd) (n:Nat),js x n (l++[t])=js x n l++(if oC x (n+l.length) t=true then [((n+l.length:Nat):Int)] else [])
 |[],n=>by
  trivial
 |a::l,n=>by
  have ih:=Xy x t l (n+1);rw [show n+1+l.length=n+(a::l).length by grind] at ih;grind [js]
theorem OX (x:aV):∀ (l:List cd) (n:Nat),(js x n l).length<=l.length
 |[],_=>Nat.le_refl _
 |a::l,n=>by
  have ih:=OX x l (n+1);show (if _ then _ else _:List Int).length<=_;grind
theorem aiY (x:aV) (h1:x.aq.ab.length<=1000) (h2:x.cM.di.ab.length<=1000000) (h3:x.dy.gi.ab.length<=1000000):aC Tryz.prog 119 [lM x] (.ag (BF x).isEmpty 1 ((BF x).map ie) .av):=by
 have hel:(x.aq.ab.map cr).length=x.aq.ab.length:=List.length_map _;refine cU Tryz.func119 ?_
 conv=>whnf
 refine db.zd 3 3 1 rfl rfl (.inr rfl) ?_;refine db.cK (X:=Nat) (λk=>[(.aj 1, .ah (.ar 0 0)),(.aj 3, .ah (.ag (js x 0 (x.aq.ab.take k)).isEmpty 1 ((js x 0 (x.aq.ab.take k)).map ie) (.dB 7))),(.aj 12, .ah (cv 18 cr x.aq)),(.aj 13, .ah (.aa .i64 x.aq.ab.length)),(.aj 14, .ah (.aa .i64 k)),(.af 0, .au 41 (DW x)),
  (.aJ 7, .aN 3 1 (js x 0 (x.aq.ab.take k)).length)]) 8 (λk=>k<=x.aq.ab.length) (λk=>x.aq.ab.length - k) dd 0 (Nat.zero_le _) ⟨rfl,rfl,rfl,rfl,rfl,rfl,?_,rfl,rfl,rfl,rfl,rfl,rfl,rfl,trivial⟩ ?_
 ·show bs.ah (ae.aa .i64 ((x.aq.ab.map cr).length:Nat))=_;rw [hel]
 rintro k hk;refine cn ?_;refine ⟨λh=>?_,λh=>?_⟩
 ·have h:=of_decide_eq_true h;have hlt:k<x.aq.ab.length:=om;have hg:=lN cr hlt;have htj:=List.take_succ_eq_append_getElem hlt;have hln:=OX x (x.aq.ab.take k) 0;rw [List.length_take,Nat.min_eq_left hk] at hln;have hF:=Xy x x.aq.ab[k] (x.aq.ab.take k) 0;rw [<-htj,List.length_take,Nat.min_eq_left hk,Nat.zero_add] at hF;have hlw:=ae4 x.cM k (Nat.le_trans h2 dd);have hgw:=Xv x.dy k (Nat.le_trans h3 dd);have hgl:=aiJ x.dy (Nat.le_trans h3 dd);have w1:IntKind.i64.wrap ((k:Int)+1)=((k+1:Nat):Int):=by grind [bj]
  generalize x.aq.ab[k]=t at*;generalize js x 0 (x.aq.ab.take k)=L at*;refine ak ?_;refine ⟨λhe=>?_,λhe=>?_⟩
  ·conv=>whnf
   have hcan:oC x k t=false:=by grind [oC]
   rw [hcan,if_neg dd,List.append_nil] at hF;refine ⟨k+1,om,by grind,⟨rfl,rfl,?_,rfl,rfl,rfl,rfl,rfl,?_,rfl,rfl,rfl,?_,rfl,trivial⟩⟩
   ·show bs.ah _=bs.ah (ae.ag (js x 0 (x.aq.ab.take (k+1))).isEmpty 1 ((js x 0 (x.aq.ab.take (k+1))).map ie) (.dB 7));rw [hF]
   ·exact dh
   ·show bs.aN _ 1 _=bs.aN _ 1 (js x 0 (x.aq.ab.take (k+1))).length;rw [hF]
  ·refine ak ?_;refine ⟨λhw=>?_,λhw=>?_⟩
   ·conv=>whnf
    have hcan:oC x k t=false:=by grind [oC]
    rw [hcan,if_neg dd,List.append_nil] at hF;refine ⟨k+1,om,by grind,⟨rfl,rfl,?_,rfl,rfl,rfl,rfl,rfl,?_,rfl,rfl,rfl,?_,rfl,trivial⟩⟩
    ·show bs.ah _=bs.ah (ae.ag (js x 0 (x.aq.ab.take (k+1))).isEmpty 1 ((js x 0 (x.aq.ab.take (k+1))).map ie) (.dB 7));rw [hF]
    ·exact dh
    ·show bs.aN _ 1 _=bs.aN _ 1 (js x 0 (x.aq.ab.take (k+1))).length;rw [hF]
   ·refine ak ?_;refine ⟨λhg=>?_,λhg=>?_⟩
    ·refine ak ?_;cases hl:DL x.dy with
     |none=>
      refine iV ?_;have hcan:oC x k t=false:=by grind [oC]
      rw [hcan,if_neg dd,List.append_nil] at hF;refine ⟨k+1,om,by grind,⟨rfl,rfl,?_,rfl,rfl,rfl,rfl,rfl,?_,rfl,rfl,rfl,?_,rfl,trivial⟩⟩
      ·show bs.ah _=bs.ah (ae.ag (js x 0 (x.aq.ab.take (k+1))).isEmpty 1 ((js x 0 (x.aq.ab.take (k+1))).map ie) (.dB 7));rw [hF]
      ·exact dh
      ·show bs.aN _ 1 _=bs.aN _ 1 (js x 0 (x.aq.ab.take (k+1))).length;rw [hF]
     |some y=>
      obtain ⟨first,up⟩:=y;refine cC ?_;refine ⟨λhn=>?_,λhn=>?_⟩
      ·conv=>whnf
       have hcan:oC x k t=false:=by grind [oC]
       rw [hcan,if_neg dd,List.append_nil] at hF;refine ⟨k+1,om,by grind,⟨rfl,rfl,?_,rfl,rfl,rfl,rfl,rfl,?_,rfl,rfl,rfl,?_,rfl,trivial⟩⟩
       ·show bs.ah _=bs.ah (ae.ag (js x 0 (x.aq.ab.take (k+1))).isEmpty 1 ((js x 0 (x.aq.ab.take (k+1))).map ie) (.dB 7));rw [hF]
       ·exact dh
       ·show bs.aN _ 1 _=bs.aN _ 1 (js x 0 (x.aq.ab.take (k+1))).length;rw [hF]
      ·conv=>whnf
       have hcan:oC x k t=true:=by grind [oC]
       rw [hcan,if_pos rfl] at hF;refine ⟨⟨(List.length_map _).symm,dG (by grind) dd⟩,?_⟩
       conv=>whnf
       refine ⟨k+1,om,by grind,⟨rfl,rfl,?_,rfl,rfl,rfl,rfl,rfl,?_,rfl,rfl,rfl,?_,rfl,trivial⟩⟩
       ·show bs.ah (ae.ag _ 1 _ _)=bs.ah (ae.ag (js x 0 (x.aq.ab.take (k+1))).isEmpty 1 ((js x 0 (x.aq.ab.take (k+1))).map ie) (.dB 7));rw [hF,List.map_append];cases L with
        |nil=>rfl
        |cons b L'=>rfl
       ·exact dh
       ·show bs.aN _ 1 _=bs.aN _ 1 (js x 0 (x.aq.ab.take (k+1))).length;simp_all
    ·conv=>whnf
     have hcan:oC x k t=true:=by grind [oC]
     rw [hcan,if_pos rfl] at hF;refine ⟨⟨(List.length_map _).symm,dG (by grind) dd⟩,?_⟩
     conv=>whnf
     refine ⟨k+1,om,by grind,⟨rfl,rfl,?_,rfl,rfl,rfl,rfl,rfl,?_,rfl,rfl,rfl,?_,rfl,trivial⟩⟩
     ·show bs.ah (ae.ag _ 1 _ _)=bs.ah (ae.ag (js x 0 (x.aq.ab.take (k+1))).isEmpty 1 ((js x 0 (x.aq.ab.take (k+1))).map ie) (.dB 7));rw [hF,List.map_append];cases L with
      |nil=>rfl
      |cons b L'=>rfl
     ·exact dh
     ·show bs.aN _ 1 _=bs.aN _ 1 (js x 0 (x.aq.ab.take (k+1))).length;simp_all
 ·have h:=of_decide_eq_false h;obtain rfl:k=x.aq.ab.length:=om;rw [List.take_length];exact bm
theorem aiZ (p:Int) {n:Nat} (h0:0<n) (hn:n<=1000):0<=(IntKind.i64.wrap (p.tmod n+n)).tmod n/\((IntKind.i64.wrap (p.tmod n+n)).tmod n).toNat=sM p n/\sM p n<n:=by
 have a1:=Int.tmod_lt_of_pos p (show (0:Int)<n by omega);have a2:=Int.tmod_lt_of_pos (-p) (show (0:Int)<n by omega);rw [Int.neg_tmod] at a2;rw [bj om om];have b1:=Int.tmod_nonneg (n:Int) (show 0<=p.tmod n+n by omega);have b2:=Int.tmod_lt_of_pos (p.tmod n+n) (show (0:Int)<n by omega);grind [sM]
theorem Kj (x:aV) (p:Int) (h1:x.aq.ab.length<=1000) (h2:x.cM.di.ab.length<=1000000) (h3:x.dy.gi.ab.length<=1000000):aC Tryz.prog 69 [lM x, .aa .i64 p] (.aw [.aa .i64 (((qI x p).map (·.1)).getD 0), .aE (((qI x p).map (·.2)).getD false), .aE (qI x p).isSome]):=by
 have hA:=aiY x h1 h2 h3;have hlA:(BF x).length<=1000:=Nat.le_trans (OX x x.aq.ab 0) h1;unfold qI;generalize BF x=A at*;cases A with
 |nil=>
  refine bK Tryz.func69 ?_;exact bm
 |cons a l=>
  obtain ⟨hm1,hm2,hm3⟩:=aiZ p (Nat.succ_pos l.length) hlA;have hel:(((a::l).map ie).length:Int)=((l.length+1:Nat):Int):=by simp_all
  have hz:((a::l).map ie)[sM p (l.length+1)]? =some (ie (((a::l)[sM p (l.length+1)]?).getD 0)):=by
   grind
  have hgw:=Xv x.dy (((a::l)[sM p (l.length+1)]?).getD 0) (Nat.le_trans h3 dd);show aC _ _ _ (.aw [.aa .i64 (((a::l)[sM p (l.length+1)]?).getD 0), .aE (rv x.dy (((a::l)[sM p (l.length+1)]?).getD 0)), .aE true]);generalize ((a::l)[sM p (l.length+1)]?).getD 0=z at*;refine bK Tryz.func69 ?_;refine ak ?_;refine ⟨λh=>?_,λ_=>?_⟩
  ·have h:=eq_of_beq h;rw [hel] at h;omega
  conv=>whnf
  refine ⟨ie z,⟨?_,?_⟩,?_⟩
  ·rw [hel];exact hm1
  ·simp_all
  exact dC
def OY (c:bu) (z:Int):List ae:=[.aa .i64 c.dD, .ai c.bY, .ai c.fO, .ai c.ia, .aa .i64 c.cR, .ag true 1 [] .av, .aa .i64 0, .aE false, .aE false, .aa .i64 0, .aa .i64 z, .aa .i64 0, .aa .i64 0, .aa .i64 0, .ai [], .ag true 1 [] .av, .aa .i64 0, .ag true 1 [] .av]
theorem XC (c:bu) {y z:Int} (h:y=z):mO (OY c y) (cr (Gt c z)):=by
 subst h;exact .aX (.bw _) (.aX (.bw _) (.aX (.bw _) (.aX (.bw _) (.aX (.bw _) (.aX (.bw _) (.aX (.bw _) (.aX (.bw _) (.aX (.bw _) (.aX (.bw _) (.aX (.bw _) (.aX (.bw _) (.aX (.bw _) (.aX (.bw _) (.aX (.bw _) (.aX (.bw _) (.aX (.bw _) (.aX (.eR _ _ _) .fa)))))))))))))))))
theorem XB {q:Bool} {sz:Nat} {l:List (List ae)} {e e':List ae} (h:mO e e'):iL (.ag q sz (l++[e]) .av) (.ag q sz (l++[e']) .av):=by
 refine Xc (by simp) λi a b ha hb=>?_
 rcases Nat.lt_or_ge i l.length with hi|hi
 ·grind [mO.E5]
 grind
theorem ai2 (l:List cd):fL (l.map cr).flatten=true:=xa (λ_=>rfl) l
theorem ai1 (x:aV) (c:bu) (h1:x.aq.ab.length<=1000) (ht:0<=x.ca/\x.ca<1000000):aC Tryz.prog 35 [lM x,tX c] (.aw [lM (qJ x c).1, .aa .i64 (qJ x c).2.1, .aa .i64 (qJ x c).2.2]):=by
 have hel:(x.aq.ab.map cr).length=x.aq.ab.length:=List.length_map _;have w1:IntKind.i64.wrap (x.ca+1)=x.ca+1:=bj om om;unfold qJ
 by_cases h40:40<=x.aq.ab.length
 ·rw [if_pos h40];refine cU Tryz.func35 ?_
  conv=>whnf
  refine ⟨λ_=>?_,λh=>absurd (of_decide_eq_false h) (by rw [hel];omega)⟩;exact bm
 ·rw [if_neg h40];obtain ⟨model,table,group,⟨tq,T⟩,time,ops⟩:=x;dsimp only at*;cases T with
  |nil=>
   refine aC.Ex dW (fn:=Tryz.f35) aG rfl aG rfl rfl ?_;refine db.wh (se dW jd _ _ _ _ ?_)
   conv=>whnf
   refine fu (by rw [hel];omega) ?_
   conv=>whnf
   refine ⟨0,_,_,_,rfl,mi.xR (aeL _) rfl,rfl,?_⟩
   conv=>whnf
   refine ⟨⟨rfl,by show 0<1;decide,dG (by simp_all) dd⟩,?_⟩;refine ak ?_;refine yE.yF (.gM (yE.zV ?_) (.gM (.mh rfl) (.gM (.mh rfl) .mZ)))
   repeat (first|exact yE.mZ|refine yE.gM (.mh rfl) ?_|fail "end")
   refine yE.gM (.H4 (.zf (t:=78) (els:=[OY c (IntKind.i64.wrap (time+1))]) rfl rfl (λel hel=>by rw [List.mem_singleton] at hel;subst hel;rfl) (Nat.le_refl _) rfl rfl) (XB (l:=[]) (XC c w1))) ?_;refine yE.gM (show Am.km _ (.aa .i64 (IntKind.i64.wrap (time+1))) _ from by rw [w1];exact .mh rfl) ?_
   repeat (first|exact yE.mZ|refine yE.gM (.mh rfl) ?_|fail "end")
  |cons s r=>
   have hcs:nz Tryz.prog 74 [.ag (cj.bZ ⟨tq,s::r⟩) 18 ((s::r).map cr) .av] 78 18 ((s::r).map cr).length ((s::r).map cr).flatten:=by
    grind [cj.bZ,NN]
   refine aC.Ex dW (fn:=Tryz.f35) aG rfl aG rfl rfl ?_;refine db.wh (se dW jd _ _ _ _ ?_)
   conv=>whnf
   refine fu (by rw [hel];omega) ?_
   conv=>whnf
   refine ⟨0,_,_,_,rfl,mi.tF hcs rfl,rfl,?_⟩
   conv=>whnf
   refine ⟨(s::r).map cr,⟨rfl,λel hel=>by obtain ⟨z,_,rfl⟩:=List.mem_map.1 hel;rfl,rfl,ai2 _,dG (by grind) dd⟩,?_⟩;refine ak ?_;refine iL.ml (.aX (iL.np ?_) (.aX (iL.mj (congrArg (λk:Nat=>ae.aa .i64 k) (List.length_map _))) (.aX (.bw _) .fa)))
   repeat (first|exact mO.fa|refine mO.aX (iL.bw _) ?_|refine mO.aX (iL.eR _ _ _) ?_|fail "end")
   have hlast:∀ (L:List ae),L=OY c (IntKind.i64.wrap (time+1))->iL (ae.ag false 18 ((s::r).map cr++[L]) .av) (ae.ag false 18 (((s::r)++[Gt c (time+1)]).map cr) .av):=λL hL=>by
    grind [XB,XC]
   refine mO.aX (hlast _ rfl) ?_;exact mO.aX (iL.mj (congrArg (ae.aa .i64) w1)) oT
def nf (x:aV) (who:Int) (u:dt) (n:Nat):List ae:=[cv 17 dY x.br.aA.b8,cv 8 iF x.br.aA.aQ, .aa .i64 x.br.eC, .aa .i64 x.br.iH,cv 2 iJ x.br.dO,cv 4 ej x.br.de, .aa .i64 x.br.fz,
 cv 2 bA x.cM.eW,cv 2 bA x.cM.di, .aa .i64 x.dy.nH,cv 2 dz x.dy.gi, .aL 31 0 18 n true, .aa .i64 x.ca,cv 7 cI x.bG, .aa .i64 who, .aa .i64 u.gu, .aa .i64 u.pk]
def ga (x:aV) (who:Int) (u:dt):List (Am.aS×bs):=[(.af 16, .au 235 (nf x who u x.aq.ab.length)),(.af 31, .aR 78 ((x.aq.ab.map cr).flatten))]
theorem XD {f:cd->cd} {l:List cd} {n:Nat} (h:n<l.length):l.modify n f=l.set n (f l[n]):=by
 induction l generalizing n with
 |nil=>simp at h
 |cons t l ih=>
  cases n with
  |zero=>rfl
  |succ n=>grind
theorem B8 {l:List cd} {n:Int} {f:cd->cd} (h0:0<=n) (h:n<l.length):∃ k:Nat,n=k/\∃ hk:k<l.length,gA l n f=l.set k (f l[k]):=by
 refine ⟨n.toNat,om,om,?_⟩;grind [gA,XD]
theorem Km {l:List cd} {n:Int} {f:cd->cd} (h:n<0\/(l.length:Int)<=n):gA l n f=l:=by
 grind [gA,List.modify_eq_self]
theorem xj (l:List cd):((l.map cr).flatten).length=l.length*18:=pq (enc:=cr) (sz:=18) (λ_=>rfl) l
theorem XE {L:List ae} {x:ae} {k:Nat} (h:k+1<=L.length):(L.take k++[x]++L.drop (k+1)).length=L.length:=by
 grind
theorem O3 (x:aV) (who:Int) (u:dt) (n:Int):bz Tryz.prog 195 [.ar 16 0, .aa .i64 n] (aD (ga x who u)) 32
  (cG 32 (λr es=>r= .cE (.aw [])/\es=ga (kD x n) who u)):=by
 by_cases h0:0<=n
 ·by_cases h1:n<x.aq.ab.length
  ·obtain ⟨k,rfl,hk,hset⟩:=B8 (f:=λt=>{t with kf:=true,pW:=x.ca}) h0 h1;have hx:kD x k={x with aq:=⟨x.aq.dI,x.aq.ab.set k {x.aq.ab[k] with kf:=true,pW:=x.ca}⟩}:=by
    grind [kD,gy]
   rw [hx];refine bn Tryz.func195 ?_;refine ak ?_;have o1:0+(k:Int).toNat*18+8=k*18+8:=om;have o2:0+(k:Int).toNat*18+12=k*18+12:=om;have hfl:=xj x.aq.ab;refine eJ ?_;rw [o1];refine ak ?_;rw [o2];refine ⟨Nat.le_trans om (Nat.le_of_eq (XE om).symm),?_⟩;refine ak ?_;refine ⟨_,_,⟨rfl,rfl⟩,rfl,⟨rfl,rfl⟩,⟨?_,rfl,?_,rfl,trivial⟩⟩
   ·exact congrArg (λn=>bs.au 235 (nf x who u n)) (List.length_set).symm
   ·have s1:=G2 (enc:=cr) (sz:=18) (λ_=>rfl) (l:=x.aq.ab) (i:=k) hk (b:={x.aq.ab[k] with kf:=true}) (k:=k*18+8) (p:=(cr x.aq.ab[k]).take 8) (s:=(cr x.aq.ab[k]).drop 9) (y:= .aE x.aq.ab[k].kf) (x:= .aE true) rfl rfl rfl;have hk2:k<(x.aq.ab.set k {x.aq.ab[k] with kf:=true}).length:=by simp_all
    have s2:=G2 (enc:=cr) (sz:=18) (λ_=>rfl) (l:=x.aq.ab.set k {x.aq.ab[k] with kf:=true}) (i:=k) hk2 (b:={x.aq.ab[k] with kf:=true,pW:=x.ca}) (k:=k*18+12) (p:=(cr {x.aq.ab[k] with kf:=true}).take 12) (s:=(cr {x.aq.ab[k] with kf:=true}).drop 13) (y:= .aa .i64 x.aq.ab[k].pW) (x:= .aa .i64 x.ca) (by rw [List.getElem_set_self];rfl) rfl rfl;rw [<-s1,List.set_set] at s2;exact congrArg (bs.aR _) s2
  ·have hx:kD x n=x:=by
    unfold kD gy;rw [Km (.inr om)]
   rw [hx];refine bn Tryz.func195 ?_;exact bm
 ·have hx:kD x n=x:=by
   unfold kD gy;rw [Km (.inl om)]
  rw [hx];refine bn Tryz.func195 ?_;exact bm
theorem O4 {l:List cd} {k:Nat} (hk:k<l.length) (b:cd):((l.map cr).flatten).take (k*18)++cr b++((l.map cr).flatten).drop (k*18+18)=((l.set k b).map cr).flatten:=by
 have h:=DZ (enc:=cr) (sz:=18) (λ_=>rfl) (l.take k) (l.drop (k+1)) l[k] b;grind [List.drop_eq_getElem_cons,List.take_append_drop]
structure Kk (t:cd):Prop where
 G3:t.jB.ab.length<=1048576
 O1:t.dT.kB.ab.length<=1048576
 O0:t.dT.mD.ab.length<=1048576
 O2:t.dN.bY.length<=1048576
 OZ:0<=t.mX/\t.mX<=1048576
theorem Kl (x:aV) (k:Nat) (u:dt) (hk:k<x.aq.ab.length) (ht:Kk x.aq.ab[k]) (hu:u.gu=1\/u.gu=2\/u.gu=3\/u.gu=5):bz Tryz.prog 233 [.ar 16 0] (aD (ga x k u)) 32
  (cG 32 (λr es=>r= .cE (.aw [])/\es=ga (jT x k u) k u)):=by
 obtain ⟨k',hk',hk2,hset⟩:=B8 (l:=x.aq.ab) (n:=k) (f:=λt=>nJ t u) om om;obtain rfl:k=k':=om;have hx:jT x k u={x with aq:=⟨x.aq.dI,x.aq.ab.set k (nJ x.aq.ab[k] u)⟩}:=by
  grind [jT,gy]
 rw [hx];have hA:=WN x.aq.ab[k] u ht.G3 ht.O1 ht.O0 ht.O2 ht.OZ hu;have o1:0+(k:Int).toNat*18=k*18:=om;have hfl:=xj x.aq.ab;have hL:=vA (enc:=cr) (sz:=18) (λ_=>rfl) hk;refine bn Tryz.func233 ?_;refine cC ?_;rw [o1];refine cC ?_;rw [o1];refine cC ?_;refine ak ?_;refine ⟨_,_,⟨rfl,rfl⟩,rfl,⟨rfl,rfl⟩,⟨?_,rfl,?_,rfl,trivial⟩⟩
 ·exact congrArg (λn=>bs.au 235 (nf x k u n)) (List.length_set).symm
 ·exact congrArg (bs.aR _) (O4 hk _)
theorem Ao {T:Nat} {x:aV} (h:fS T x) (hT:T<=1000000):∀ t∈x.aq.ab,Kk t:=λt ht=>by
 have h1:=h.oG t ht;have h2:=V4 kS ht;have h3:=V4 kR ht;have h4:=h.vF;have h5:=h.vE;have h6:kS t=t.jB.ab.length:=rfl;have h7:kR t=t.mX.toNat:=rfl;have h8:=h1.vG;exact ⟨om,Nat.le_trans h1.yK.1 dd,Nat.le_trans h1.yK.2 dd,Nat.le_trans h1.rK dd,om⟩
theorem XF (x:aV) (who:Int) (u:dt) (h:bX) (ht:∀ t∈x.aq.ab,Kk t):bz Tryz.prog 235 [.ar 16 0, .aK (bA h)] (aD (ga x who u)) 32
  (cG 32 (λr es=>r= .cE (.aw [])/\es=ga (jE x h) who u)):=by
 obtain ⟨lk,n⟩:=h
 by_cases h0:0<=n
 ·by_cases h1:n<x.aq.ab.length
  ·obtain ⟨k,rfl,hk,hset⟩:=B8 (f:=λt=>nJ t ⟨1,lk⟩) h0 h1;have hx:jE x ⟨lk,k⟩={x with aq:=⟨x.aq.dI,x.aq.ab.set k (nJ x.aq.ab[k] ⟨1,lk⟩)⟩}:=by
    grind [jE,gy]
   rw [hx];have htk:=ht x.aq.ab[k] (List.getElem_mem hk);have hA:=WN x.aq.ab[k] ⟨1,lk⟩ htk.G3 htk.O1 htk.O0 htk.O2 htk.OZ (.inl rfl);have o1:0+(k:Int).toNat*18=k*18:=om;have hfl:=xj x.aq.ab;have hL:=vA (enc:=cr) (sz:=18) (λ_=>rfl) hk;show bz _ _ [.ar 16 0, .aK [.aa .i64 lk, .aa .i64 (k:Int)]] _ _ _;refine bn Tryz.func235 ?_;refine eJ ?_;rw [o1];refine cC ?_;rw [o1];refine cC ?_;refine ak ?_;refine ⟨_,_,⟨rfl,rfl⟩,rfl,⟨rfl,rfl⟩,⟨?_,rfl,?_,rfl,trivial⟩⟩
   ·exact congrArg (λn=>bs.au 235 (nf x who u n)) (List.length_set).symm
   ·exact congrArg (bs.aR _) (O4 hk _)
  ·have hx:jE x ⟨lk,n⟩=x:=by
    unfold jE gy;rw [Km (.inr (by simp_all))]
   rw [hx];show bz _ _ [.ar 16 0, .aK [.aa .i64 lk, .aa .i64 n]] _ _ _;refine bn Tryz.func235 ?_;exact bm
 ·have hx:jE x ⟨lk,n⟩=x:=by
   unfold jE gy;rw [Km (.inl (by show n<0;omega))]
  rw [hx];show bz _ _ [.ar 16 0, .aK [.aa .i64 lk, .aa .i64 n]] _ _ _;refine bn Tryz.func235 ?_;exact bm
theorem ai7 {T:Nat} (x:aV) (k:Nat) (u:dt) (hT:T<=1000000) (hx:fS T x) (hk:k<x.aq.ab.length) (hu:u.gu=1):bz Tryz.prog 198 [.ar 16 0] (aD (ga x k u)) 32
  (cG 32 (λr es=>r= .cE (.aw [])/\es=ga (yB x k u) k u)):=by
 have ht:=Ao hx hT x.aq.ab[k] (List.getElem_mem hk);have hh:=hx.nO;have hA:=afv x.cM k u.pk om om;unfold yB;generalize sB x.cM k u.pk=y at*;obtain ⟨tb,has⟩:=y;dsimp only at*;have hB:=Kl {x with cM:=tb} k u hk ht (.inl hu);cases has with
 |true=>
  rw [if_pos rfl];refine bn Tryz.func198 ?_;exact bm
 |false=>
  rw [if_neg dd];refine bn Tryz.func198 ?_;exact bm
theorem ai4 {T:Nat} (x:aV) (k:Nat) (u:dt) (hT:T<=1000000) (hx:fS T x) (hk:k<x.aq.ab.length) (hu:u.gu=2):bz Tryz.prog 199 [.ar 16 0] (aD (ga x k u)) 32
  (cG 32 (λr es=>r= .cE (.aw [])/\es=ga (yA x k u) k u)):=by
 have ht:=Ao hx hT x.aq.ab[k] (List.getElem_mem hk);have hh:=hx.nO;have hA:=afx x.cM k u.pk om om;have hG:=V9 hx k u (by rw [hu];decide);have hbt:=Eh (T:=T) k u hx (by rw [hu];decide);unfold yA at*;generalize iO x.cM k u.pk=y at*;obtain ⟨tb,o⟩:=y;dsimp only at*;have hB:=Kl {x with cM:=tb} k u hk ht (.inr (.inl hu));cases o with
 |none=>
  refine bn Tryz.func199 ?_;exact bm
 |some n=>
  have hg:=XF (jT {x with cM:=tb} k u) k u ⟨u.pk,n⟩ (λt htm=>by
   have htm:t∈gA x.aq.ab k λt=>nJ t u:=htm
   exact Ao hbt hT t htm)
  refine bn Tryz.func199 ?_;exact dC
theorem ai6 {T:Nat} (x:aV) (k:Nat) (u:dt) (hT:T<=1000000) (hx:fS T x) (hk:k<x.aq.ab.length) (hu:u.gu=5):bz Tryz.prog 202 [.ar 16 0] (aD (ga x k u)) 32
  (cG 32 (λr es=>r= .cE (.aw [])/\es=ga (Gu x k u) k u)):=by
 have ht:=Ao hx hT x.aq.ab[k] (List.getElem_mem hk);have hB:=Kl x k u hk ht (.inr (.inr (.inr hu)));have hkb:k<(jT x k u).aq.ab.length:=by
  show k<(gA x.aq.ab k _).length;rw [Ei];exact hk
 have hL:Gu x k u=gy (jT x k u) k λt=>{t with pW:=(jT x k u).ca}:=rfl
 rw [hL];generalize jT x k u=z at*;obtain ⟨k',hk',hk2,hset⟩:=B8 (l:=z.aq.ab) (n:=k) (f:=λt=>{t with pW:=z.ca}) om om;obtain rfl:k=k':=om;have hz:gy z k (λt=>{t with pW:=z.ca})={z with aq:=⟨z.aq.dI,z.aq.ab.set k {z.aq.ab[k] with pW:=z.ca}⟩}:=by
  grind [gy]
 rw [hz];have o2:0+(k:Int).toNat*18+12=k*18+12:=om;have hfl:=xj z.aq.ab;refine bn Tryz.func202 ?_;refine eJ ?_;rw [o2];refine ak ?_;refine ⟨_,_,⟨rfl,rfl⟩,rfl,⟨rfl,rfl⟩,⟨?_,rfl,?_,rfl,trivial⟩⟩
 ·exact congrArg (λn=>bs.au 235 (nf z k u n)) (List.length_set).symm
 ·have s2:=G2 (enc:=cr) (sz:=18) (λ_=>rfl) (l:=z.aq.ab) (i:=k) hkb (b:={z.aq.ab[k] with pW:=z.ca}) (k:=k*18+12) (p:=(cr z.aq.ab[k]).take 12) (s:=(cr z.aq.ab[k]).drop 13) (y:= .aa .i64 z.aq.ab[k].pW) (x:= .aa .i64 z.ca) rfl rfl rfl;exact congrArg (bs.aR _) s2
theorem ai5 (g:l6) (th upto:Int) (hl:g.gi.ab.length<=1000000):aC Tryz.prog 238 [l9 g, .aa .i64 th, .aa .i64 upto] (.aw [l9 (zO g th upto).1, .aE (zO g th upto).2]):=by
 unfold zO
 by_cases h0:upto<=g.nH
 ·rw [if_pos h0];exact aiK g th upto om h0
 ·rw [if_neg h0]
  by_cases h1:rv g th=true
  ·rw [if_pos h1];exact aiM g th upto hl h0 h1
  ·rw [if_neg h1];exact aiL g th upto hl h0 (by simpa using h1)
theorem ai8 (x:aV) (k:Nat) (u:dt) (hg:x.dy.gi.ab.length<=1000000) (hk:k<x.aq.ab.length):bz Tryz.prog 201 [.ar 16 0] (aD (ga x k u)) 32
  (cG 32 (λr es=>r= .cE (.aw [])/\es=ga (vu x k) k u)):=by
 have hu:Gx x k=x.aq.ab[k].ua:=by
  grind [Gx]
 have hJ:=ai5 x.dy k x.aq.ab[k].ua hg;unfold vu;rw [hu];generalize zO x.dy k x.aq.ab[k].ua=y at*;obtain ⟨g,kept⟩:=y;dsimp only at*;have hE:=O3 {x with dy:=g} k u k;have o9:0+(k:Int).toNat*18+9=k*18+9:=om;have hfl:=xj x.aq.ab;have hL:=Ki (enc:=cr) (sz:=18) (λ_=>rfl) hk (j:=9) (x:= .aa .i64 x.aq.ab[k].ua) rfl;refine bn Tryz.func201 ?_;refine ak ?_;rw [o9];refine ⟨_,hL,?_⟩;refine ak ?_;cases kept with
 |true=>
  rw [if_pos rfl];exact bm
 |false=>
  rw [if_neg dd];exact bm
def An (x:aV) (k:Nat) (u:dt):aV:=
 jT (gy {x with br:=(dR x.br (lK x k)).1,bG:=⟨(x.bG.eI (dR x.br (lK x k)).2.2.ab).dI,(x.bG.eI (dR x.br (lK x k)).2.2.ab).ab⟩} k λt=>
  {t with dT:=(dR x.br (lK x k)).2.1,lh:=x.ca,ua:=(x.bG.eI (dR x.br (lK x k)).2.2.ab).ab.length}) k u
theorem ai3 (x:aV) (k:Nat) (u:dt):vr x k u=if (lK x k).dD=13/\(dR x.br (lK x k)).2.1.vk=0 then yz (An x k u) k else An x k u:=rfl
theorem O5 {T:Nat} {m:bM} (h:ji T m) (hT:T<=1000000):py m:=
 ⟨h.ja,by have:=h.qM;omega,Nat.le_trans h.yH dd,λs hs=>by obtain ⟨g,g1,g2⟩:=h.vC s hs;grind [vL],Nat.le_trans h.yI dd,λw hw=>Nat.le_trans (h.vD w hw).1 dd⟩
theorem Kn {l:List cd} {k:Nat} (hk:k<l.length) {b:cd} {p y x s:List ae} (h1:cr l[k]=p++(y++s)) (h2:cr b=p++(x++s)) {i j:Nat} (hi:i=k*18+p.length) (hj:j=i+y.length):
  ((l.map cr).flatten).take i++x++((l.map cr).flatten).drop j=((l.set k b).map cr).flatten:=by
 subst hj;subst hi;have e:l=l.take k++l[k]::l.drop (k+1):=by simp_all
 have hl:(((l.take k).map cr).flatten).length=k*18:=by grind [xj]
 have e2:(l.map cr).flatten=(((l.take k).map cr).flatten++p)++(y++(s++((l.drop (k+1)).map cr).flatten)):=by
  grind
 have e3:((l.set k b).map cr).flatten=(((l.take k).map cr).flatten++p)++(x++(s++((l.drop (k+1)).map cr).flatten)):=by
  grind
 have h3:(((l.take k).map cr).flatten++p).length=k*18+p.length:=by grind
 grind [List.drop_left']
theorem ajb (u:dt) (t:cd):(nJ t u).dN=t.dN:=by
 grind [nJ]
theorem O6 {L:List ae} {a b c d e:ae} {k:Nat} (h:k+5<=L.length):(L.take k++[a,b,c,d,e]++L.drop (k+5)).length=L.length:=by
 grind [List.length_cons]
theorem XG (l:List aH):fL (l.map cI).flatten=true:=xa (λ_=>rfl) l
theorem ajc (a b:cj aH) (hq:a.ab=[]->a.dI=true) (hl:a.ab.length+b.ab.length<=1000000):
  aC Tryz.prog 236 [(.ag false 1 [[cv 7 cI a],[cv 7 cI b]] .av)] (cv 7 cI ⟨(a.eI b.ab).dI,(a.eI b.ab).ab⟩):=by
 have h:=aht a.bZ b.bZ (a.ab.map cI) (b.ab.map cI) (λe he=>by obtain ⟨z,_,rfl⟩:=List.mem_map.1 he;rfl) (λe he=>by obtain ⟨z,_,rfl⟩:=List.mem_map.1 he;rfl) (XG _) (XG _) (by grind);have e:cv 7 cI ⟨(a.eI b.ab).dI,(a.eI b.ab).ab⟩= .ag (a.ab.map cI++b.ab.map cI).isEmpty 7 (a.ab.map cI++b.ab.map cI) .av:=by
  show ae.ag ((a.dI && b.ab.isEmpty) && (a.ab++b.ab).isEmpty) 7 ((a.ab++b.ab).map cI) .av=_;rw [List.map_append];refine congrArg (λq=>ae.ag q 7 (a.ab.map cI++b.ab.map cI) .av) ?_;cases ha:a.ab with
  |nil=>
   simp_all
  |cons x r=>simp
 rw [e];exact h
def oI (a:l7) (time:Int) (up:Nat) (t:cd):cd:={t with dT:=a,lh:=time,ua:=up}
theorem aja {l:List cd} {k:Nat} (hk:k<l.length) (a:l7) (time:Int) (up:Nat):
  List.take (k*18+9) (List.take (k*18+11) (List.take (k*18+13) (l.map cr).flatten++yD a++List.drop (k*18+13+5) (l.map cr).flatten)++[.aa .i64 time]++List.drop (k*18+11+1) (List.take (k*18+13) (l.map cr).flatten++yD a++List.drop (k*18+13+5) (l.map cr).flatten))++[.aa .i64 up]++
   List.drop (k*18+9+1) (List.take (k*18+11) (List.take (k*18+13) (l.map cr).flatten++yD a++List.drop (k*18+13+5) (l.map cr).flatten)++[.aa .i64 time]++List.drop (k*18+11+1) (List.take (k*18+13) (l.map cr).flatten++yD a++List.drop (k*18+13+5) (l.map cr).flatten))=((l.set k (oI a time up l[k])).map cr).flatten:=by
 have h1:=Kn hk (b:={l[k] with dT:=a}) (p:=(cr l[k]).take 13) (y:=yD l[k].dT) (s:=[]) (x:=yD a) rfl rfl (i:=k*18+13) (j:=k*18+13+5) rfl rfl;have k1:k<(l.set k {l[k] with dT:=a}).length:=by simp_all
 have e1:(l.set k {l[k] with dT:=a})[k]'k1={l[k] with dT:=a}:=by simp_all
 have h2:=Kn k1 (b:={l[k] with dT:=a,lh:=time}) (p:=(cr {l[k] with dT:=a}).take 11) (y:=[.aa .i64 l[k].lh]) (s:=(cr {l[k] with dT:=a}).drop 12) (x:=[.aa .i64 time]) (by rw [e1];rfl) rfl (i:=k*18+11) (j:=k*18+11+1) rfl rfl;rw [List.set_set] at h2;have k2:k<(l.set k {l[k] with dT:=a,lh:=time}).length:=by simp_all
 have e2:(l.set k {l[k] with dT:=a,lh:=time})[k]'k2={l[k] with dT:=a,lh:=time}:=by simp_all
 have h3:=Kn k2 (b:=oI a time up l[k]) (p:=(cr {l[k] with dT:=a,lh:=time}).take 9) (y:=[.aa .i64 l[k].ua]) (s:=(cr {l[k] with dT:=a,lh:=time}).drop 10) (x:=[.aa .i64 up]) (by rw [e2];rfl) rfl (i:=k*18+9) (j:=k*18+9+1) rfl rfl;simp_all
theorem ai9 {T:Nat} (x:aV) (k:Nat) (u:dt) (hT:T<=100000) (hx:eN T x) (hk:k<x.aq.ab.length) (hu:u.gu=3)
  (hAn:bz Tryz.prog 237 [.ar 16 0] (aD (ga (An x k u) k u)) 32 (cG 32 (λr es=>r= .cE (.aw [])/\es=ga (yz (An x k u) k) k u))):bz Tryz.prog 200 [.ar 16 0] (aD (ga x k u)) 32
  (cG 32 (λr es=>r= .cE (.aw [])/\es=ga (vr x k u) k u)):=by
 have hc:lK x k=x.aq.ab[k].dN:=by
  grind [lK]
 have hth:=hx.gC.oG _ (List.getElem_mem hk);have hD:=OT x.br x.aq.ab[k].dN (O5 hx.jb om) (Nat.le_trans hth.rK dd) (Nat.le_trans hth.uu dd) (Nat.le_trans hth.vH dd);have hdo:=Eg hx.jb x.aq.ab[k].dN;have hops:=hx.sS;have hfew:=hx.jb.ja.qL;have hfl:=xj x.aq.ab;have o0:0+(k:Int).toNat*18=k*18:=om;have hL5:=vA (enc:=cr) (sz:=18) (λ_=>rfl) hk;rw [ai3];unfold An at*;rw [hc] at hAn ⊢;change bz _ _ _ (aD (ga (jT (gy _ k (oI (dR x.br x.aq.ab[k].dN).2.1 x.ca (x.bG.eI (dR x.br x.aq.ab[k].dN).2.2.ab).ab.length)) k u) k u)) _ (cG 32 (λr es=>r= .cE (.aw [])/\es=ga (yz (jT (gy _ k (oI (dR x.br x.aq.ab[k].dN).2.1 x.ca (x.bG.eI (dR x.br x.aq.ab[k].dN).2.2.ab).ab.length)) k u) k) k u)) at hAn;change bz _ _ _ _ _ (cG 32 (λr es=>r= .cE (.aw [])/\es=ga (if x.aq.ab[k].dN.dD=13/\(dR x.br x.aq.ab[k].dN).2.1.vk=0 then yz (jT (gy _ k (oI (dR x.br x.aq.ab[k].dN).2.1 x.ca (x.bG.eI (dR x.br x.aq.ab[k].dN).2.2.ab).ab.length)) k u) k else (jT (gy _ k (oI (dR x.br x.aq.ab[k].dN).2.1 x.ca (x.bG.eI (dR x.br x.aq.ab[k].dN).2.2.ab).ab.length)) k u)) k u));generalize dR x.br x.aq.ab[k].dN=y at*;obtain ⟨m,a,ops⟩:=y;have hcnt:=hdo.BS.Ee;have hmf:=hdo.BS.z7.qL;have han:=hdo.Of;dsimp only at*;have hC:=ajc x.bG ops hx.uv om;have hthk:=Ao hx.gC om x.aq.ab[k] (List.getElem_mem hk);obtain ⟨k',hk',hk2,hset⟩:=B8 (l:=x.aq.ab) (n:=k) (f:=oI a x.ca (x.bG.eI ops.ab).ab.length) om om;obtain rfl:k=k':=om;have hX2:gy {x with br:=m,bG:=⟨(x.bG.eI ops.ab).dI,(x.bG.eI ops.ab).ab⟩} k (oI a x.ca (x.bG.eI ops.ab).ab.length)={x with br:=m,bG:=⟨(x.bG.eI ops.ab).dI,(x.bG.eI ops.ab).ab⟩,aq:=⟨x.aq.dI,x.aq.ab.set k (oI a x.ca (x.bG.eI ops.ab).ab.length x.aq.ab[k])⟩}:=by
  grind [gy]
 rw [hX2] at hAn ⊢;have hel:∀ h:k<(x.aq.ab.set k (oI a x.ca (x.bG.eI ops.ab).ab.length x.aq.ab[k])).length,Kk ((x.aq.ab.set k (oI a x.ca (x.bG.eI ops.ab).ab.length x.aq.ab[k]))[k]'h):=λh=>by
  rw [List.getElem_set_self];exact ⟨hthk.G3,Nat.le_trans han.1 dd,Nat.le_trans han.2 dd,hthk.O2,hthk.OZ⟩
 have hB:=Kl {x with br:=m,bG:=⟨(x.bG.eI ops.ab).dI,(x.bG.eI ops.ab).ab⟩,aq:=⟨x.aq.dI,x.aq.ab.set k (oI a x.ca (x.bG.eI ops.ab).ab.length x.aq.ab[k])⟩} k u (by simp_all)
  (hel _) (.inr (.inr (.inl hu)))
 have hZ1:k<(jT {x with br:=m,bG:=⟨(x.bG.eI ops.ab).dI,(x.bG.eI ops.ab).ab⟩,aq:=⟨x.aq.dI,x.aq.ab.set k (oI a x.ca (x.bG.eI ops.ab).ab.length x.aq.ab[k])⟩} k u).aq.ab.length:=by
  show k<(gA (x.aq.ab.set k _) k _).length;grind [Ei]
 have hZ2:((jT {x with br:=m,bG:=⟨(x.bG.eI ops.ab).dI,(x.bG.eI ops.ab).ab⟩,aq:=⟨x.aq.dI,x.aq.ab.set k (oI a x.ca (x.bG.eI ops.ab).ab.length x.aq.ab[k])⟩} k u).aq.ab[k]'hZ1).dN=x.aq.ab[k].dN:=by
  have hm:(jT {x with br:=m,bG:=⟨(x.bG.eI ops.ab).dI,(x.bG.eI ops.ab).ab⟩,aq:=⟨x.aq.dI,x.aq.ab.set k (oI a x.ca (x.bG.eI ops.ab).ab.length x.aq.ab[k])⟩} k u).aq.ab.map (·.dN)=(x.aq.ab.set k (oI a x.ca (x.bG.eI ops.ab).ab.length x.aq.ab[k])).map (·.dN):=by
   show (gA (x.aq.ab.set k _) k _).map (·.dN)=_;grind [gA,XD,List.map_set,ajb]
  have:=congrArg (λl=>l[k]?) hm;simp only [List.getElem?_map,List.getElem?_eq_getElem hZ1,List.getElem?_set_self hk,Option.map_some] at this;exact Option.some.inj this
 generalize jT {x with br:=m,bG:=⟨(x.bG.eI ops.ab).dI,(x.bG.eI ops.ab).ab⟩,aq:=⟨x.aq.dI,x.aq.ab.set k (oI a x.ca (x.bG.eI ops.ab).ab.length x.aq.ab[k])⟩} k u=Z at*;have hL0:=Ki (enc:=cr) (sz:=18) (λ_=>rfl) hZ1 (j:=0) (x:= .aa .i64 (Z.aq.ab[k]'hZ1).dN.dD) rfl;rw [hZ2] at hL0;have o00:0+(k:Int).toNat*18+0=k*18+0:=om;refine bn Tryz.func200 ?_;refine ak ?_;rw [o0];refine ak ?_;have hQ:=Eu hL5 0 5 dd;refine ak ?_;refine ⟨Nat.le_trans om (Nat.le_of_eq (O6 om).symm),?_⟩
 conv=>whnf
 refine ⟨Nat.le_trans om (Nat.le_of_eq ((XE (Nat.le_trans om (Nat.le_of_eq (O6 om).symm))).trans (O6 om)).symm),?_⟩
 conv=>whnf
 refine bz.tE (es:=ga {x with br:=m,bG:=⟨(x.bG.eI ops.ab).dI,(x.bG.eI ops.ab).ab⟩,aq:=⟨x.aq.dI,x.aq.ab.set k (oI a x.ca (x.bG.eI ops.ab).ab.length x.aq.ab[k])⟩} k u) (es':=ga Z k u) ⟨?_,rfl,?_,rfl,trivial⟩ rfl rfl (uQ rfl rfl rfl) dd rfl rfl hB ?_
 ·exact congrArg (λn=>bs.au 235 (nf {x with br:=m,bG:=⟨(x.bG.eI ops.ab).dI,(x.bG.eI ops.ab).ab⟩} k u n)) (List.length_set).symm
 ·exact congrArg (bs.aR _) ((aja hk a x.ca _).trans (by simp_all))
 refine ak ?_;rw [o0];refine ⟨_,hL0,?_⟩
 conv=>whnf
 refine ⟨λh1=>?_,λh1=>?_⟩
 ·have h1:=eq_of_beq h1;refine ak ?_;refine ⟨λh2=>?_,λh2=>?_⟩
  ·have h2:=eq_of_beq h2;rw [if_pos ⟨h1,h2⟩];exact bm
  ·rw [if_neg (λq=>by simp_all)];exact bm
 ·rw [if_neg (λq=>by simp_all)];exact bm
end Go.Proofs.YtffboamedcmpaaaGreatDoor
