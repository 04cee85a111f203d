import Derived.MapKept
import Derived.Maps.RangeRun
import Derived.Test.YtffboamedcmpaaaGreatDoorAe
set_option linter.all false
set_option maxHeartbeats 4000000
set_option maxRecDepth 100000
namespace Go.Am
open Go.RowKit
section
variable {P:Program} {T:iw} {b:jL P} {σ:eK} {D:Nat->Prop} {g:gX} {a:Act} {w w':World}
theorem oH.By (c w):oH c w w:=⟨rfl,rfl,rfl,rfl,λ_ _=>rfl,rfl,λ_ h=>h,rfl⟩
theorem iE.Vx {r nt H n c K} (k e) {bt x0 isNil} (hs:σ (.ay k)= .dc bt [x0, .a8 isNil 1 [] .fW])
  (h:iE P r nt H c (fc (fc σ (.eT n) (.eU e 1 0)) (.ay k) (.dc bt [x0, .a8 isNil 1 [] (.hJ n)])) (n+1) K):iE P r nt H c σ n K:=by
 refine ⟨λb Z a w L s=>?_⟩;obtain ⟨g,E,z,U,hn⟩:=s;obtain ⟨O,B⟩:=E.FE (t:=e) (sz:=1) (N:=0) E.sh.2;have p:fl b (fc σ (.eT n) (.eU e 1 0)) (·<n+1) (g.p7 n 0) w:=O.mQ (λi F=>by omega);have d:(fc σ (.eT n) (.eU e 1 0)) (.ay k)= .dc bt [x0, .a8 isNil 1 [] .fW]:=by trivial
 obtain ⟨A,j,_⟩:=p.iR k (by rw [d];rfl);obtain ⟨m,q,u,y⟩:=p.sc k bt _ A d j;have l:(g.p7 n 0).gF n=some (none,0):=by simp [gX.p7]
 obtain ⟨Q,_⟩:=p.ot (X:= .dc bt [x0, .a8 isNil 1 [] (.hJ n)]) (by rw [d];rfl) j (oH.By A w) (λ_=>⟨m,q,u,λi x v f Y=>by
  match i,f with
  |0,f=>grind
  |1,f=>
   simp at f;subst f;have W:=y 1 _ v rfl Y;obtain ⟨ad,I,rfl,R,S⟩:=W.nq;exact .m7 R ⟨none,0,l,aq _,λ_=> .inl ⟨S,rfl⟩⟩
  |i+2,f=>simp at f⟩)
 refine h.nM b Z a w L ⟨_,Q,⟨z.qU,z.sg,λi F=>?_⟩,U.lF B,om⟩;have J:jx (fc (fc σ (.eT n) (.eU e 1 0)) (.ay k) (.dc bt [x0, .a8 isNil 1 [] (.hJ n)])) i=jx σ i:=by
  trivial
 rw [J];exact (z.oW i F).oU B
theorem fF.Vt {f} (J:s5 P f) {k n bt x0 B K} (H:σ (.ay k)= .dc bt [x0,B]) (A:x0= .fY\/x0= .c8 k 0)
  (L:∀ (w:World) (c:Nat) (p u:Value),w.heap[c]? =some (.cells [p,u].toArray bt (0,0))->(p= .pointer none\/p= .pointer (some ⟨c,0,none⟩))->Calls P f #[.pointer (some ⟨c,0,none⟩)] w λe w'=>e= .returned (.tuple #[])/\oH c w w'/\w'.heap[c]? =some (.cells [.pointer (some ⟨c,0,none⟩),u].toArray bt (0,0)))
  (O:K (.dn []) (fc σ (.ay k) (.dc bt [.c8 k 0,B])) n):fF P f [.c8 k 0] σ n K:=by
 refine ⟨J,λb g w s h Q m=>?_⟩
 match s,Q with
 |[v],_=>
  obtain ⟨c,j,e⟩:=(m 0 _ v rfl rfl).vv;subst e;obtain ⟨r,y,z,q⟩:=h.sc k bt _ c H j
  match r,z with
  |[p,u],_=>
   have R:p= .pointer none\/p= .pointer (some ⟨c,0,none⟩):=by
    have F:=q 0 _ p rfl rfl;rcases A with rfl|rfl
    .exact .inl F.Le
    grind [F.vv]
   refine (L w c p u y R).mono ?_;rintro e w' ⟨rfl,I,N⟩;have l:(σ (.ay k)).jb=true:=by rw [H];rfl
   have E:iN g w g w':=iN.tZ I (λo=>by obtain ⟨W,Y,_,_,Z⟩:=h.iR k l;simp_all);obtain ⟨S,U⟩:=h.ot (X:= .dc bt [.c8 k 0,B]) l j I (λ_=>⟨_,N,rfl,λi x v d m=>by
    match i,d with
    |0,d=>
     simp at d m;subst d m;exact .rr j
    |1,d=>
     simp at d m;subst d m;exact (q 1 _ _ rfl rfl).oU E
    |i+2,d=>simp at d⟩)
   exact ⟨_,_,_,n,g,rfl,O,aq _, .nR rfl (λi x v d=>by simp at d),S,U⟩
theorem fl.VA (h:fl b σ D g w) {id c N sz t} (W:σ (.eT id)= .eU t sz N) (hr:g.gF id=some (some c,N)) (d:oH c w w') (I:∀ o,w'.cell? ⟨c,o,none⟩=w.cell? ⟨c,o,none⟩):
  fl b (fc σ (.eT id) .fB) D g w'/\iN g w g w':=by
 obtain ⟨x,h1,h2⟩:=h.ln id t sz N W;have:x=some c:=by simp_all
 subst this;obtain ⟨Z,a2,a3,a4,a5,_⟩:=h2 c rfl;have S:iN g w g w':=⟨⟨λk o m=>⟨m,by
  by_cases r:k=c
  .grind
  .exact d.OH r⟩,λ_ c A=>⟨A,d.FR c⟩,λ_ x N h=>⟨x,N,h,aq _,λ_=>⟨rfl,λc _=>d.FR c⟩⟩,λ_ _ N h=> .inl ⟨N,h⟩⟩,cE d.qt.symm,cE d.IH.symm,d.OI⟩
 have e0:∀ i,(fc σ (.eT id) .fB) (.ay i)=σ (.ay i):=λi=>g9 (by intro e;cases e)
 have R:∀ i v s q,(fc σ (.eT id) .fB) (.eT i)= .eU v s q->i≠id/\σ (.eT i)= .eU v s q:=λi v s q hh=>by
  grind [lX,g9]
 refine ⟨fl.qs (h.jF.Cy (.OA d Z)) (λk o m=>by rw [d.qt];exact h.lv k o m) h.pq h.oE h.pI h.oF (λid c A=>by rw [d.qt];exact h.ko id c A) (λid c N A=>by rw [d.qt];exact h.mc id c N A)
  (λf u=>by rw [d.qt];exact h.iR f (by trivial)) (λf F u l=>?_) (λi j k hi U=>h.np i j k (by trivial) (by trivial)) (λi Y k W m=>h.pJ i Y k (by trivial) m) (λf v s q O=>?_),S⟩
 .rw [e0] at u ⊢;exact (h.po l).DP S (d.wG F (λe=>a4 f u (e▸l)))
 .obtain ⟨J,p⟩:=R _ _ _ _ O;obtain ⟨x,y,H⟩:=h.ln f v s q p;refine ⟨x,y,λk m=>?_⟩;obtain ⟨b1,b2,b3,b4,b5,E,z,b6,b7⟩:=H k m;have r:k≠c:=λe=>J (a5 f v s q q p (by rw [y,m,e]))
  exact ⟨b1,by rw [d.qt];exact b2,b3,λj hl=>b4 j (by trivial),λj Q B M X U L=>b5 j Q B M X (R _ _ _ _ U).2 L,E,z,(d.wG k r).trans b6,b7⟩
def jI (s:List UInt8):List (List b9):=s.map λc=>[.ax .u8 c.toNat]
theorem n7 (s):(jI s).length=s.length:=by simp [jI]
theorem VH {s} {i:Nat} {c:UInt8} (h:s[i]? =some c):(jI s)[i]? =some [.ax .u8 c.toNat]:=by grind [jI]
theorem fF.afG {f} (hE:s5 P f) {k id n:Nat} {bt e x0} {isNil:Bool} {s:List UInt8} {K} (hs:σ (.ay k)= .dc bt [x0, .a8 isNil 1 (jI s) (.hJ id)]) (L:σ (.eT id)= .eU e 1 s.length) (H:s=[]->isNil=true)
  (Y:s=[]->∀ (w:World) (c:Nat) (p:Value),w.heap[c]? =some (.cells [p, .slice none 0 0].toArray bt (0,0))->Calls P f #[.pointer (some ⟨c,0,none⟩)] w λe w'=>e= .returned (.string ⟨[].toArray⟩)/\(Below w.heap.size w w'/\w.drawn<=w'.drawn))
  (Z:s≠[]->∀ (w:World) (c r cap:Nat) (p:Value),w.heap[c]? =some (.cells [p, .slice (some ⟨r,0,none⟩) s.length cap].toArray bt (0,0))->w.shape? r=some (e,cap)->s.length<=cap->(∀ j x,s[j]? =some x->w.cell? ⟨r,j,none⟩=some (.int .u8 x.toNat))->
   Calls P f #[.pointer (some ⟨c,0,none⟩)] w λe w'=>e= .returned (.string ⟨s.toArray⟩)/\∃ q,(Below w.heap.size w q/\w.drawn<=q.drawn)/\q.heap=w.heap/\oH r q w'/\∀ o,w'.cell? ⟨r,o,none⟩=q.cell? ⟨r,o,none⟩)
  (hk:K (.cp s) (fc σ (.eT id) .fB) n):fF P f [.c8 k 0] σ n K:=by
 refine ⟨hE,λb g w O h hl hv=>?_⟩
 match O,hl with
 |[v],_=>
  obtain ⟨c,X,ev⟩:=(hv 0 _ v rfl rfl).vv;subst ev;obtain ⟨Q,i,U,W⟩:=h.sc k bt _ c hs X
  match Q,U with
  |[p,u],_=>
   obtain ⟨ad,cap,rfl,hp,bk,N,t1,t2,t3⟩:=(W 1 _ u rfl rfl).nq;obtain ⟨R,q1,q2⟩:=h.ln id e 1 s.length L;rw [t1] at q1;obtain ⟨rfl,rfl⟩:bk=R/\N=s.length:=by simp_all
   have t4:=t3 (n7 s)
   by_cases S:s=[]
   .subst S;have hn:=H rfl;subst hn;cases hp with
    |mG l I hcc _ _ _ _=>
     cases ad with
     |some ad=>cases I
     |none=>
      rcases t4 with ⟨rfl,_⟩|⟨_,_,_,hh,_⟩
      .refine (Y rfl w c p i).mono ?_;rintro e w' ⟨rfl,B⟩;obtain ⟨k1,k2⟩:=h.ub B.1 B.2;exact ⟨_,_,_,n,g,rfl,hk,aq _, .fJ (.lW rfl),k1.xy (.eT id),k2⟩
      .cases hh
   .have hpos:0<s.length:=cm.2 S;rcases t4 with ⟨_,hz⟩|⟨r,tt,rfl,rfl,hsh⟩
    .grind [n7]
    .obtain ⟨a1,a2,a3,a4,a5,A,z,a6,a7⟩:=q2 r rfl;have hte:tt=e/\A.length=cap*1:=by
      grind [World.shape?]
     obtain ⟨rfl,hal⟩:=hte;rw [n7] at i;cases hp with
     |mG l I hcc hsz ha hone hr=>
      have d:∀ j x,s[j]? =some x->w.cell? ⟨r,j,none⟩=some (.int .u8 x.toNat):=λj x hj=>by
       have B:=VH hj;obtain ⟨blk,base,eq,_,F⟩:=ha j _ 0 _ B rfl;cases eq;have J:=hr j _ 0 _ B rfl;rw [show 0+j*1+0=j by omega] at F;rw [F];generalize l j 0=y at J;cases J;rfl
      refine (Z S w c r cap p i (by grind) (by grind [n7]) d).mono ?_;rintro e w' ⟨rfl,q,E,hh1,hw1,m⟩;obtain ⟨k1,k2⟩:=h.ub E.1 E.2;obtain ⟨k3,k4⟩:=k1.VA L t1 hw1 m;exact ⟨_,_,_,n,g,rfl,hk,aq _, .fJ (.lW rfl),k3,k2.lF k4⟩
theorem Gf.VC {f} (hE:s5 P f) {k id:Nat} {bt e x0} {isNil:Bool} {s:List UInt8} (hs:σ (.ay k)= .dc bt [x0, .a8 isNil 1 (jI s) (.hJ id)]) (i:σ (.eT id)= .eU e 1 s.length) (I:s=[]->isNil=true)
  (Z:s=[]->∀ (w:World) (c:Nat) (p:Value),w.heap[c]? =some (.cells [p, .slice none 0 0].toArray bt (0,0))->Calls P f #[.pointer (some ⟨c,0,none⟩)] w λe w'=>e= .returned (.string ⟨[].toArray⟩)/\(Below w.heap.size w w'/\w.drawn<=w'.drawn))
  (hc1:s≠[]->∀ (w:World) (c r cap:Nat) (p:Value),w.heap[c]? =some (.cells [p, .slice (some ⟨r,0,none⟩) s.length cap].toArray bt (0,0))->w.shape? r=some (e,cap)->s.length<=cap->(∀ j x,s[j]? =some x->w.cell? ⟨r,j,none⟩=some (.int .u8 x.toNat))->
   Calls P f #[.pointer (some ⟨c,0,none⟩)] w λe w'=>e= .returned (.string ⟨s.toArray⟩)/\∃ A,(Below w.heap.size w A/\w.drawn<=A.drawn)/\A.heap=w.heap/\oH r A w'/\∀ o,w'.cell? ⟨r,o,none⟩=A.cell? ⟨r,o,none⟩):Gf P f [.c8 k 0] σ [.ay k, .eT id] [(.eT id, .fB)] (.cp s):=by
 refine ⟨hE,λQ he b D g w O h hl hv=>?_⟩;have hs:Q (.ay k)= .dc bt [x0, .a8 isNil 1 (jI s) (.hJ id)]:=(he _ (by simp)).trans hs;have i:Q (.eT id)= .eU e 1 s.length:=(he _ (by simp)).trans i
 match O,hl with
 |[v],_=>
  obtain ⟨c,Y,ev⟩:=(hv 0 _ v rfl rfl).vv;subst ev;obtain ⟨R,m,W,X⟩:=h.sc k bt _ c hs Y
  match R,W with
  |[p,u],_=>
   obtain ⟨ad,cap,rfl,hp,bk,N,t1,t2,t3⟩:=(X 1 _ u rfl rfl).nq;obtain ⟨S,q1,q2⟩:=h.ln id e 1 s.length i;rw [t1] at q1;obtain ⟨rfl,rfl⟩:bk=S/\N=s.length:=by simp_all
   have t4:=t3 (n7 s)
   by_cases U:s=[]
   .subst U;have hn:=I rfl;subst hn;cases hp with
    |mG l J hcc _ _ _ _=>
     cases ad with
     |some ad=>cases J
     |none=>
      rcases t4 with ⟨rfl,_⟩|⟨_,_,_,hh,_⟩
      .refine (Z rfl w c p m).mono ?_;rintro e w' ⟨rfl,E⟩;obtain ⟨k1,k2⟩:=h.ub E.1 E.2;exact ⟨_,g,rfl, .fJ (.lW rfl),k1.xy (.eT id),k2⟩
      .cases hh
   .have hpos:0<s.length:=cm.2 U;rcases t4 with ⟨_,hz⟩|⟨r,tt,rfl,rfl,hsh⟩
    .grind [n7]
    .obtain ⟨a1,a2,a3,a4,a5,B,z,a6,a7⟩:=q2 r rfl;have hte:tt=e/\B.length=cap*1:=by
      grind [World.shape?]
     obtain ⟨rfl,hal⟩:=hte;rw [n7] at m;cases hp with
     |mG l J hcc hsz ha hone hr=>
      have d:∀ j x,s[j]? =some x->w.cell? ⟨r,j,none⟩=some (.int .u8 x.toNat):=λj x hj=>by
       have E:=VH hj;obtain ⟨blk,base,eq,_,H⟩:=ha j _ 0 _ E rfl;cases eq;have L:=hr j _ 0 _ E rfl;rw [show 0+j*1+0=j by omega] at H;rw [H];generalize l j 0=y at L;cases L;rfl
      refine (hc1 U w c r cap p m (by grind) (by grind [n7]) d).mono ?_;rintro e w' ⟨rfl,A,F,hh1,hw1,q⟩;obtain ⟨k1,k2⟩:=h.ub F.1 F.2;obtain ⟨k3,k4⟩:=k1.VA i t1 hw1 q;exact ⟨_,g,rfl, .fJ (.lW rfl),k3,k2.lF k4⟩
end
section
variable {P:Program} {T:iw} {b:jL P} {t:se} {σ:eK} {D:Nat->Prop} {g:gX} {a:Act} {w:World}
theorem iE.Jc {r nt H n c K} (k e sz) {bt isNil} (hs:σ (.ay k)= .dc bt [.a8 isNil 1 [] .fW])
  (h:iE P r nt H c (fc (fc σ (.eT n) (.eU e sz 0)) (.ay k) (.dc bt [.a8 isNil sz [] (.hJ n)])) (n+1) K):iE P r nt H c σ n K:=by
 refine ⟨λb Z a w L s=>?_⟩;obtain ⟨g,E,z,U,hn⟩:=s;obtain ⟨O,B⟩:=E.FE (t:=e) (sz:=sz) (N:=0) E.sh.2;have p:fl b (fc σ (.eT n) (.eU e sz 0)) (·<n+1) (g.p7 n 0) w:=O.mQ (λi F=>by omega);have d:(fc σ (.eT n) (.eU e sz 0)) (.ay k)= .dc bt [.a8 isNil 1 [] .fW]:=by trivial
 obtain ⟨A,j,_⟩:=p.iR k (by rw [d];rfl);obtain ⟨m,q,u,y⟩:=p.sc k bt _ A d j;have l:(g.p7 n 0).gF n=some (none,0):=by simp [gX.p7]
 obtain ⟨Q,_⟩:=p.ot (X:= .dc bt [.a8 isNil sz [] (.hJ n)]) (by rw [d];rfl) j (oH.By A w) (λ_=>⟨m,q,u,λi x v f Y=>by
  match i,f with
  |0,f=>
   simp at f;subst f;have W:=y 0 _ v rfl Y;obtain ⟨ad,I,rfl,R,S⟩:=W.nq;exact .m7 ((mR.kd isNil 1 sz).ue _ _ _ R) ⟨none,0,l,aq _,λ_=> .inl ⟨S,rfl⟩⟩
  |i+1,f=>simp at f⟩)
 refine h.nM b Z a w L ⟨_,Q,⟨z.qU,z.sg,λi F=>?_⟩,U.lF B,om⟩;have J:jx (fc (fc σ (.eT n) (.eU e sz 0)) (.ay k) (.dc bt [.a8 isNil sz [] (.hJ n)])) i=jx σ i:=by
  trivial
 rw [J];exact (z.oW i F).oU B
def PP (σ:eK) (nt:Nat):List (Nat×b9)->Prop
 |[]=>True
 |(i,v)::l=>jx σ i=v/\Nat.blt i nt=true/\PP σ nt l
theorem PP.VD {nt}:∀ {l:List (Nat×b9)},PP σ nt l->∀ x∈l,jx σ x.1=x.2/\x.1<nt
 |[],_,x,h=>by cases h
 |(i,v)::l,⟨d,e,c⟩,x,h=>by
  rcases aK.1 h with rfl|h
  .simp_all
  .exact c.VD x h
theorem Jj {c r r'} (h:w.heap[c]? =some (.loop r)):oH c w (w.putObj c (.loop r')):=by
 have l:c<w.heap.size:=(bm.1 h).1;refine ⟨rfl,rfl,rfl,World.putObj_size,λk d=>World.putObj_heap_other d,?_,λs e=>(by simp_all),rfl⟩;grind [World.shape?,World.putObj_heap_same]
def VK (K:Exit->eK->Nat->Prop) (σ:eK) (n:Nat):Option Code->Prop
 |none=>K .normal σ n
 |some .ret=>K .ret σ n
 |some (.exit id)=>K (.exit id) σ n
 |some (.goto l)=>K (.goto l) σ n
 |_=>False
def VQ (k:Nat) (σ:eK) (K:Exit->eK->Nat->Prop) (v:b9) (σ':eK) (c:Nat):Prop:=match σ' (.ay k) with
 | .kn st pend _ _ _ _ _=>match st with
  | .busy=>False
  |_=>VK K (mH σ (fc σ' (.ay k) .fB)) c pend
 |_=>False
theorem VI {n0}:∀ {l:List Deferred},CK n0 w l->∀ e∈l,e.target≠ .collected w.heap.size
 |[],_,e,h=>by cases h
 |d::ds,⟨⟨r,c,f,i,j⟩,m⟩,e,he=>by
  rcases aK.1 he with rfl|he
  .grind
  .exact VI m e he
theorem iE.Jb {nt lo n:Nat} {A:Operand} {ps:Array Tmp} {assign body:Code} {K:Exit->eK->Nat->Prop} (tm:List (Nat×b9)) (hw:PP σ nt tm) {f:FuncId} {first p:List b9} (ho:Bs nt A=true) (hf:eR σ A= .eW f first p)
  (h:fF P f (first++(.gG n::p)) (fc σ (.ay n) (.kn .ready none nt tm ps.toList assign body)) (n+1) (VQ n σ K)):iE P none nt lo (.rangeFunc A ps assign body) σ n K:=by
 refine ⟨λb t a w h0 hs=>?_⟩;obtain ⟨g,hh,s,hE,hn⟩:=hs;have hfr:eH w g (.eW f first p) (a.eval A):=by
  rcases s.OY A with h1|⟨i,rfl,hi⟩
  .rwa [hf] at h1
  .have:=ki ho;omega
 obtain ⟨vs,us,e1,l1,l2,r1,r2⟩:=hfr.CD;refine wpIn_rangeFunc λfn _=>?_
 let j:Loop:={state:= .ready,pending:=none,fn,tmps:=a.tmps,params:=ps,assign,body,defers:=w.heap.size}
 let w1:=(w.alloc (.deferred (some []))).alloc (.loop j)
 have hsz1:w1.heap.size=w.heap.size+2:=by show ((w.heap.push _).push _).size=_;simp
 have hdf:w1.heap[w.heap.size]? =some (.deferred (some [])):=(Below.heap_alloc _ _ _ (by simp)).trans (World.alloc_heap_new w _);have hlp:w1.heap[w.heap.size+1]? =some (.loop j):=by
  grind [World.alloc_heap_new]
 have hb1:Below w.heap.size w w1:=((Below.refl _ w).alloc (aq _) _).alloc (by simp) _;obtain ⟨hg1,B⟩:=hh.ub hb1;have d:g.fk n=none:=hh.sh.1;have H:=hg1.K8 (f:=n) (c:=w.heap.size+1) (X:= .kn .ready none nt tm ps.toList assign body) d rfl (.inl (by have:=hh.jF.pZ;omega)) om
  (λo ho=>by have:=hh.lv _ _ ho;omega) (λid hl e=>by have:=hh.ko id _ e;omega) (λid t' sz N N' hs e=>by have:=hh.mc id _ _ e;omega)
  ⟨j,hlp,rfl,rfl,s.qU,rfl,rfl,rfl,λx hx=>by
   obtain ⟨q1,q2⟩:=hw.VD x hx;refine ⟨q2,?_⟩;have:=s.oW x.1 q2;rw [q1] at this;exact this.oU B⟩
 have J:iN g w1 (g.sW n (w.heap.size+1)) w1:=iN.Iv d;have q:iN g w (g.sW n (w.heap.size+1)) w1:=B.lF J;have y:fl b (fc σ (.ay n) (.kn .ready none nt tm ps.toList assign body)) (·<n+1) (g.sW n (w.heap.size+1)) w1:=H.mQ λi hi=>by omega
 refine ⟨w.heap.size+1,[{target:= .collected w.heap.size,args:=#[]}],w1,{target:= .fn (.func f) us.toArray,args:=vs.toArray++#[.func (.yield (w.heap.size+1)) #[] #[]]},w1,f,
  (vs++(.func (.yield (w.heap.size+1)) #[] #[]::us)).toArray,w1,run_enterLoop_outer _ _ _ _ _,?_,λ_ _=>trivial,?_,CO none 0,?_⟩
 .simp only [resolve,e1];simp [Deferred.ofValue,Act.eval]
 .simp only [invoke];rw [h.wL];simp_all
 refine Gh ((h.vC b (g.sW n (w.heap.size+1)) w1 (vs++(.func (.yield (w.heap.size+1)) #[] #[]::us)) y (by simp [l1,l2])
  (Ph l1 (λi x v hx L=>(r1 i x v hx L).oU q) (λi x v hx L=>by
   cases i with
   |zero=>simp at hx L;subst hx L;exact .wF (gX.qR _ _ _)
   |succ i=>exact (r2 i x v (by simpa using hx) (by simpa using L)).oU q))).mono ?_)
 rintro e R ⟨v,x,σ',k,g',rfl,hk,hnn,hrep,h',E⟩;unfold VQ at hk;have S:g'.fk n=some (w.heap.size+1):=(E.oT n _ (gX.qR _ _ _)).1;cases z:σ' (.ay n) with
 |kn st pend nt' tm' ps' Y Z=>
  simp only [z] at hk;obtain ⟨r,U⟩:=h'.CB n st pend nt' tm' ps' Y Z _ z S;have I:st≠ .busy->(Instr.endLoop (w.heap.size+1)).run P R= .ok pend (R.putObj (w.heap.size+1) (.loop {r with state:= .exhausted})):=λhb=>by
   grind [run_endLoop,U.uQ,U.IC,U.IB]
  obtain ⟨hw3,F⟩:=h'.ot (X:= .fB) (by rw [z];rfl) S (Jj (r':={r with state:= .exhausted}) U.uQ) (λh=>by cases h);have fin:∀ e,K e (mH σ (fc σ' (.ay n) .fB)) k->∃ m O,K e m O/\si b t nt m O {a with defers:=[{target:= .collected w.heap.size,args:=#[]}]++a.defers} (R.putObj (w.heap.size+1) (.loop {r with state:= .exhausted})):=by
   intro e hk;have u:=(q.lF E).lF F;refine ⟨_,k,hk,g',hw3.Gc,⟨s.qU,⟨⟨w.heap.size,rfl,hE.wA,(E.lF F).wy _ _ hdf,VI s.sg⟩,s.sg.LH u.wy⟩,λi hi=>(s.oW i hi).oU u⟩,hE.lF u,om⟩
  have go:∀ (c:Code) (e:Exit),(∀ Q:Exit->Act->World->Prop,∀ a w,Q e a w->c.wpIn (rC none) 0 P Q a w)->K e (mH σ (fc σ' (.ay n) .fB)) k->c.wpIn (rC none) 0 P (λe W w'=>∃ σ' k,K e σ' k/\si b t nt σ' k W w') {a with defers:=[{target:= .collected w.heap.size,args:=#[]}]++a.defers} (R.putObj (w.heap.size+1) (.loop {r with state:= .exhausted})):=
   λc e S hk=>S _ _ _ (fin e hk)
  have main:st≠ .busy->VK K (mH σ (fc σ' (.ay n) .fB)) k pend->rangePost (rC none) 0 P (w.heap.size+1) (λe W w'=>∃ σ' k,K e σ' k/\si b t nt σ' k W w') {a with defers:=[{target:= .collected w.heap.size,args:=#[]}]++a.defers} (.returned v) R:=by
   intro hb hk;refine ⟨pend,_,I hb,?_⟩;cases pend with
   |none=>exact fin .normal hk
   |some c=>
    cases c with
    |ret=>exact go .ret .ret (λ_ _ _ h=>wpIn_ret h) hk
    |exit id=>exact go (.exit id) (.exit id) (λ_ _ _ h=>wpIn_exit h) hk
    |goto l=>exact go (.goto l) (.goto l) (λ_ _ _ h=>wpIn_goto h) hk
    |_=>exact hk.elim
  grind
 |_=>simp_all
def El:List (Nat×b9)->Nat->gC
 |[],_=> .fB
 |(i,v)::l,j=>match Nat.beq i j with|true=> .bg v|false=>El l j
def Jh:List Nat->List b9->eK->eK
 |p::ps,v::s,σ=>Jh ps s (fc σ (.ct p) (.bg v))
 |_,_,σ=>σ
def PV (σ:eK) (m:List (Nat×b9)) (p:List Nat) (args:List b9):eK:=Jh p args (λl=>match l with| .ct i=>El m i|l=>σ l)
def Mf (nt:Nat):List Nat->Bool
 |[]=>true
 |p::ps=>match Nat.blt p nt with|true=>Mf nt ps|false=>false
theorem VL:∀ l i,El l i= .fB\/∃ v,(i,v)∈l/\El l i= .bg v
 |[],_=> .inl rfl
 |(j,v)::l,i=>by
  simp only [El];cases h:Nat.beq j i with
  |true=>simp_all
  |false=>
   rcases VL l i with c|⟨e,c,d⟩
   .exact .inl c
   simp_all
theorem PQ:∀ s vs σ l,(∀ i,l≠ .ct i)->Jh s vs σ l=σ l
 |p::s,v::vs,σ,l,h=>by rw [Jh,PQ s vs _ l h,g9 (h p)]
 |[],_,_,_,_=>by trivial
 |_::_,[],_,_,_=>rfl
theorem VF {nt:Nat}:∀ (s:List Nat) (vs:List b9) (us:List Value) (σ:eK) (tmps:Array Value),vs.length=s.length->us.length=s.length->Mf nt s=true->tmps.size=nt->(∀ i,i<nt->eH w g (jx σ i) (tmps.getD i undef))->
  (∀ (i:Nat) (x:b9) (v:Value),vs[i]? =some x->us[i]? =some v->eH w g x v)->((s.zip us).foldl (λtmps (x:Nat×Value)=>tmps.setIfInBounds x.1 x.2) tmps).size=nt/\∀ i,i<nt->eH w g (jx (Jh s vs σ) i) (((s.zip us).foldl (λtmps (x:Nat×Value)=>tmps.setIfInBounds x.1 x.2) tmps).getD i undef)
 |[],vs,us,σ,tmps,hl,m,_,f,h,_=>by
  trivial
 |p::s,v::vs,u::us,σ,tmps,hl,m,hp,f,h,r=>by
  simp only [Mf] at hp;cases d:Nat.blt p nt with
  |false=>simp [d] at hp
  |true=>
   simp only [d] at hp;have l:=ki d;refine VF s vs us _ (tmps.setIfInBounds p u) (by simpa using hl) (by simpa using m) hp (by simp [f]) (λi q=>?_) (λi x y j k=>r (i+1) x y (by simpa using j) (by simpa using k))
   by_cases c:i=p
   .subst c;rw [Gx];have:(tmps.setIfInBounds i u).getD i undef=u:=by simp [f,l]
    rw [this];exact r 0 v u rfl rfl
   .rw [Ac (by grind)];have:(tmps.setIfInBounds p u).getD i undef=tmps.getD i undef:=by simp [cN (λe=>c e.symm)]
    simp_all
 |_::_,[],_,_,_,hl,_,_,_,_,_=>by simp at hl
 |_::_,_::_,[],_,_,_,m,_,_,_,_=>by simp at m
def VG (k:Nat) (K:b9->eK->Nat->Prop) (e:Exit) (σ:eK) (n:Nat):Prop:=match σ (.ay k) with
 | .kn .busy _ nt tm ps assign body=>match e with
  | .normal=>K .fU (fc σ (.ay k) (.kn .ready none nt tm ps assign body)) n
  | .ret=>K .fD (fc σ (.ay k) (.kn .done (some .ret) nt tm ps assign body)) n
  | .exit id=>K .fD (fc σ (.ay k) (.kn .done (some (.exit id)) nt tm ps assign body)) n
  | .goto l=>K .fD (fc σ (.ay k) (.kn .done (some (.goto l)) nt tm ps assign body)) n
  |_=>False
 |_=>False
def VE (P:Program) (T:iw) (r:Option Nat) (c l k:Nat) (y:Code) (K:b9->eK->Nat->Prop) (e:Exit) (σ:eK) (n:Nat):Prop:=match e with
 | .normal=>match σ (.ay k) with
  | .kn .ready pend nt tm ps assign d=>s7 P T r c l y (fc σ (.ay k) (.kn .busy pend nt tm ps assign d)) n (VG k K)
  |_=>False
 |_=>False
theorem F9.Jd (hT:jc P T) (hm:P.follows .mixedOrders=true) {k n nt:Nat} {args:List b9} {K:b9->eK->Nat->Prop} {pend:Option Code} {W:List (Nat×b9)} {y:List Nat} {m body:Code} (hb:σ (.ay k)= .kn .ready pend nt W y m body)
  (hl:args.length=y.length) (hps:Mf nt y=true) (h:∀ l,s7 P T (some l) nt n m (PV σ W y args) n (VE P T (some l) nt n k body K)):F9 P k args σ n K:=by
 refine ⟨λb g w c s hs hc hvl hv=>?_⟩;obtain ⟨r,Q⟩:=hs.CB k _ _ _ _ _ _ _ c hb hc;have hy:(Instr.yield c s.toArray).run P w= .ok (.round c r.fn ((r.params.zip s.toArray).foldl (λtmps (t,a)=>tmps.setIfInBounds t a) r.tmps) r.assign r.body) w:=
  run_yield Q.uQ (by grind [Q.DU])
 refine ⟨r.fn,_,_,_,hy,?_⟩;rw [Q.FF,Q.FG];have hpl:y.length=s.length:=om;have N:(r.params.zip s.toArray).foldl (λtmps (t,a)=>tmps.setIfInBounds t a) r.tmps=(y.zip s).foldl (λtmps (x:Nat×Value)=>tmps.setIfInBounds x.1 x.2) r.tmps:=by
  grind [Array.toList_zip,Q.DU]
 rw [N];have R:fl b (PV σ W y args) (·<n) g w:=hs.xx (λU=>PQ _ _ _ _ (λi e=>by cases e)) (λU=>PQ _ _ _ _ (λi e=>by cases e));obtain ⟨hsz,F⟩:=VF (w:=w) (g:=g) (nt:=nt) y args s (λl=>match l with| .ct i=>El W i|l=>σ l) r.tmps hl om hps Q.FH (λi hi=>by
  show eH w g (match El W i with| .bg x=>x|_=> .ga) _;rcases VL W i with I|⟨v,I,h2⟩
  .rw [I];exact .nY
  .rw [h2];exact (Q.yB (i,v) I).2) hv
 generalize (y.zip s).foldl (λtmps (x:Nat×Value)=>tmps.setIfInBounds x.1 x.2) r.tmps=tmps at hsz F ⊢
 let t:se:=⟨g,w,n,(λU c hc=>hs.pI U c hc),(λU x E=>hs.oF U x E)⟩
 have hsim:si b t nt (PV σ W y args) n {tmps:=tmps,defers:=[]} w:=⟨g,R,⟨hsz,trivial,F⟩,iN.uO _ _,aq _⟩;refine roundIn_of_wpIn trivial ?_;refine wpIn_mono ((wO hT hm m _ _ _ (h c)).nM b t _ w (aq n) hsim) ?_;rintro e a1 w1 ⟨Y,n1,O,g1,I,L,hE1,hn1⟩;unfold VE at O;cases e with
 |normal=>
  simp only at O;have hc1:g1.fk k=some c:=(hE1.oT k _ hc).1;cases B:Y (.ay k) with
  |kn z u nt' tm' ps' Z bo'=>
   simp only [B] at O;cases z with
   |ready=>
    simp only at O;obtain ⟨r1,d⟩:=I.CB k _ _ _ _ _ _ _ c B hc1;have hlt1:c<w1.heap.size:=(bm.1 d.uQ).1;obtain ⟨h2,J⟩:=I.ot (X:= .kn .busy u nt' tm' ps' Z bo') (by rw [B];rfl) hc1 (Jj (r':={r1 with state:= .busy}) d.uQ) (λ_=>
     have hE:=iN.tZ (g:=g1) (Jj (r':={r1 with state:= .busy}) d.uQ) (λo=>by obtain ⟨c',q1,_,_,q2⟩:=I.iR k (by rw [B];rfl);simp_all)
     ⟨{r1 with state:= .busy},World.putObj_heap_same hlt1,rfl,d.IB,d.FH,d.DU,d.FF,d.FG,λx E=>⟨(d.yB x E).1,(d.yB x E).2.oU hE⟩⟩)
    refine ⟨_,run_beginRound d.uQ d.IC,?_⟩;have S:si b t nt (fc Y (.ay k) (.kn .busy u nt' tm' ps' Z bo')) n1 a1 (w1.putObj c (.loop {r1 with state:= .busy})):=
     ⟨g1,h2,⟨L.qU,L.sg.LH J.wy,λi hi=>by
      show eH _ _ (jx (fc Y (.ay k) _) i) _;rw [Ac (by simp)];exact (L.oW i hi).oU J⟩,hE1.lF J,hn1⟩
    refine wpIn_mono ((wO hT hm body _ _ _ O).nM b t _ _ (aq n) S) ?_;rintro e a3 w3 ⟨σ3,n3,p,g3,h3,hf3,hE3,hn3⟩;have hc3:g3.fk k=some c:=(hE3.oT k _ hc).1;unfold VG at p;cases q:σ3 (.ay k) with
    |kn st3 pend3 nt3 tm3 ps3 as3 bo3=>
     simp only [q] at p;cases st3 with
     |busy=>
      simp only at p;obtain ⟨r3,f⟩:=h3.CB k _ _ _ _ _ _ _ c q hc3;have hlt3:c<w3.heap.size:=(bm.1 f.uQ).1;have A:∀ (j:Option Code) (x:b9) (z:LoopState),z=(if j.isNone then .ready else .done)->eH (w3.putObj c (.loop {r3 with state:=z,pending:=j})) g3 x (.bool j.isNone)->K x (fc σ3 (.ay k) (.kn z j nt3 tm3 ps3 as3 bo3)) n3->
        ∃ v w',(Instr.endRound c j).run P w3= .ok v w'/\∃ v' x σ' n' g',Ending.returned v= .returned v'/\K x σ' n'/\n<=n'/\eH w' g' x v'/\fl b σ' (·<n') g' w'/\iN g w g' w':=by
       intro j x z hst E hK;have H:=run_endRound (P:=P) j f.uQ;rw [<-hst] at H;obtain ⟨h4,hE4⟩:=h3.ot (X:= .kn z j nt3 tm3 ps3 as3 bo3) (by rw [q];rfl) hc3 (Jj (r':={r3 with state:=z,pending:=j}) f.uQ) (λ_=>
        have hE:=iN.tZ (g:=g3) (Jj (r':={r3 with state:=z,pending:=j}) f.uQ) (λo=>by obtain ⟨c',q1,_,_,q2⟩:=h3.iR k (by rw [q];rfl);simp_all)
        ⟨{r3 with state:=z,pending:=j},World.putObj_heap_same hlt3,rfl,rfl,f.FH,f.DU,f.FF,f.FG,λx E=>⟨(f.yB x E).1,(f.yB x E).2.oU hE⟩⟩)
       exact ⟨_,_,H,_,x,_,n3,g3,rfl,hK,hn3,E,h4,hE3.lF hE4⟩
      cases e with
      |normal=>exact A none .fU .ready rfl (.fJ .wB) p
      |ret=>exact A (some .ret) .fD .done rfl (.fJ .uR) p
      |exit U=>exact A (some (.exit U)) .fD .done rfl (.fJ .uR) p
      |goto l=>exact A (some (.goto l)) .fD .done rfl (.fJ .uR) p
      |_=>exact p.elim
     |_=>exact p.elim
    |_=>simp_all
   |_=>exact O.elim
  |_=>simp_all
 |_=>exact O.elim
end
section
variable {P:Program} {σ:eK}
theorem afY {w g x v u} (h:eH w g x v) (c:Gz x=some u):v=u:=by
 cases h with
 |fJ h=>exact PF h c
 |_=>cases c
theorem PY {w g}:∀ {args:List b9} {us vals:List Value},xR args=some us->vals.length=args.length->(∀ (i:Nat) x v,args[i]? =some x->vals[i]? =some v->eH w g x v)->vals=us
 |[],us,vals,h,hl,_=>by
  grind [xR]
 |x::l,us,[],h,hl,_=>by simp at hl
 |x::l,us,v::vals,h,hl,e=>by
  simp only [xR] at h;cases c:Gz x with
  |none=>simp [c] at h
  |some u=>
   cases d:xR l with
   |none=>simp [c,d] at h
   |some m=>
    simp only [c,d,aG] at h;subst h;rw [afY (e 0 x v rfl rfl) c,PY d (by simpa using hl) (λi=>e (i+1))]
theorem O2.afS {f} (O:s5 P f) {k:Nat} {args0:List b9} {us j:List Value} {bt} {cells:List b9} {res r} (U:σ (.ay k)= .dc bt cells) (B:xR args0=some us) (q:xR cells=some j)
  (Q:∀ (w:World) (c:Nat),w.heap[c]? =some (.cells j.toArray bt (0,0))->Calls P f (us++[Value.pointer (some ⟨c,0,none⟩)]).toArray w λe w'=>e= .returned r/\(Below w.heap.size w w'/\w.drawn<=w'.drawn))
  (X:∀ w g,eH w g res r):O2 P f (args0++[.c8 k 0]) σ res:=by
 refine ⟨O,λz R b D g w s h d E=>?_⟩;have S:z (.ay k)= .dc bt cells:=by
  rw [R (.ay k) ?_];exact U;clear E d B
  induction args0 with
  |nil=>simp [Eh.Ei]
  |cons x l Z=>cases x<;>simp_all [Eh.Ei]
 have J:s.take args0.length=us:=PY (w:=w) (g:=g) B (by simp_all) (λi x v Y W=>by
  grind)
 have u:s.length=args0.length+1:=by simpa using d
 obtain ⟨v,y⟩:∃ v,s[args0.length]? =some v:=⟨_,aj om⟩;obtain ⟨c,p,rfl⟩:=(E args0.length (.c8 k 0) v (by simp) y).vv;have L:s=us++[Value.pointer (some ⟨c,0,none⟩)]:=by
  rw [<-J];have:=bJ args0.length s;grind [List.drop_eq_getElem_cons]
 obtain ⟨m,F,H,I⟩:=h.sc k bt cells c S p;have N:m=j:=PY q H I;subst N;rw [L];refine (Q w c F).mono ?_;rintro e w' ⟨rfl,A⟩;obtain ⟨k1,k2⟩:=h.ub A.1 A.2;grind
end
section
variable {P:Program} {T:iw} {b:jL P} {t:se} {σ:eK} {D:Nat->Prop} {g:gX} {a:Act} {w:World}
end
section
variable {P:Program} {T:iw} {b:jL P} {t:se} {σ:eK} {D:Nat->Prop} {g:gX} {a:Act} {w:World}
def sw (d:TypeDesc):b9->Prop
 | .cp _=>d= .string
 | .ax q _=>d= .int q
 |_=>False
def qC:b9->b9->Bool
 | .cp a, .cp b=>decide (a=b)
 | .ax _ a, .ax _ b=>decide (a=b)
 |_,_=>false
abbrev rD:=List (Nat×b9×b9)
def uZ (k:b9):rD->Option b9
 |[]=>none
 |e::es=>match qC e.2.1 k with
  |true=>some e.2.2
  |false=>uZ k es
def ug (k v:b9):rD->Option rD
 |[]=>none
 |e::es=>match qC e.2.1 k with
  |true=>some ((e.1,e.2.1,v)::es)
  |false=>match ug k v es with
   |some l=>some (e::l)
   |none=>none
def Bz (k:b9):rD->rD
 |[]=>[]
 |e::es=>match qC e.2.1 k with
  |true=>es
  |false=>e::Bz k es
theorem BA {d x v F} (h:sw d x) (r:gb w F x v):MapKept.IsKey d v:=by
 cases x with
 |cp s=>cases h;cases r;trivial
 |ax q n=>cases h;cases r;rfl
 |_=>exact h.elim
theorem afX {d x y v u F} (c:sw d x) (h:sw d y) (f:gb w F x v) (i:gb w F y u):Instr.sameNow d v u=some (qC y x):=by
 cases x with
 |cp s=>
  cases c;cases y with
  |cp r=>
   cases f with|lW j=>cases i with|lW k=>
   rename_i p q;simp only [Instr.sameNow,qC,aG];rw [df,MapKept.bytes_beq,aM,<-j,<-k];constructor
   .rintro rfl;rfl
   .intro e;obtain ⟨p⟩:=p;obtain ⟨q⟩:=q;grind [Array.toList_inj]
  |ax q n=>cases h
  |_=>exact h.elim
 |ax q n=>
  cases c;cases y with
  |ax m l=>
   cases h;cases f;cases i;grind [Instr.sameNow,qC]
  |cp s=>cases h
  |_=>exact h.elim
 |_=>exact c.elim
def GA (w:World) (F:Nat->Nat->Prop) (arr:List MapEntry) (es:rD):Prop:=
 arr.length=es.length/\∀ (i:Nat) (e:MapEntry) (x:Nat×b9×b9),arr[i]? =some e->es[i]? =some x->e.born=x.1/\gb w F x.2.1 e.key/\gb w F x.2.2 e.val
theorem GA.afI {F} {e:MapEntry} {x:Nat×b9×b9} {arr es} (h:GA w F (e::arr) (x::es)):GA w F arr es:=
 ⟨by simpa using h.1,λi c j d f=>h.2 (i+1) c j (by simpa using d) (by simpa using f)⟩
theorem Mg {d k p F} (q:sw d k) (c:gb w F k p):∀ {arr:List MapEntry} {es:rD} (i:Nat),GA w F arr es->(∀ e∈es,sw d e.2.1)->
  (Instr.findNow d p arr i=some none/\uZ k es=none/\(∀ v,ug k v es=none)/\Bz k es=es)\/
  ∃ j e x,Instr.findNow d p arr i=some (some (i+j,e.val))/\arr[j]? =some e/\es[j]? =some x/\e.key=p/\uZ k es=some x.2.2/\(∀ v,ug k v es=some (es.set j (x.1,x.2.1,v)))/\Bz k es=es.eraseIdx j
 |[],[],i,_,_=> .inl ⟨rfl,rfl,λ_=>rfl,rfl⟩
 |[],_::_,_,h,_=>by have:=h.1;simp at this
 |_::_,[],_,h,_=>by have:=h.1;simp at this
 |e::arr,x::es,i,h,s=>by
  obtain ⟨_,u,O⟩:=h.2 0 e x rfl rfl;have A:=s x (by simp);have m:=afX q A c u;have y:=MapKept.sameNow_of_keys (BA q c) (BA A u);obtain ⟨r,l,f⟩:=y;rw [m] at l;simp only [aG] at l;cases z:qC x.2.1 k with
  |true=>
   rw [z] at m l;refine .inr ⟨0,e,x,?_,rfl,rfl,(f.1 l.symm).symm,?_,λv=>?_,?_⟩
   .simp [Instr.findNow,m]
   .grind [uZ]
   .grind [ug]
   grind [Bz]
  |false=>
   rw [z] at m;rcases Mg q c (i+1) h.afI (λe J=>s e (by simp [J])) with ⟨L,B,E,H⟩|⟨j,I,N,L,B,E,H,Q,R,S⟩
   .grind [Instr.findNow,uZ,ug,Bz]
   .refine .inr ⟨j+1,I,N,by grind [Instr.findNow],by simpa using B,by simpa using E,H,by grind [uZ],λv=>by grind [ug],by grind [Bz]⟩
theorem PS {d x v} (k:sw d x) (h:eH w g x v):gb w g.fP x v:=by
 cases x with
 |cp s=>cases h with|fJ h=>exact h
 |ax q n=>cases h with|fJ h=>exact h
 |_=>exact k.elim
def VM (k:Bool) (o:Option b9) (z:b9):b9:=match k,o with
 |true,some v=> .dn [v, .fU]
 |true,none=> .dn [z, .fD]
 |false,some v=>v
 |false,none=>z
variable {n:Nat} {K:b9->eK->Nat->Prop} {o:Oper}
theorem fl.Mb (h:fl b σ D g w) {m c l es} (s:σ (.ay m)= .iD (.jq l es)\/σ (.ay m)= .kh (.jq l es)) (r:g.fk m=some c):
  ∃ arr:List MapEntry,w.heap[c]? =some (.map arr.toArray l)/\GA w g.fP arr es:=by
 rcases s with s|s
 .exact h.xz m _ c s r
 .obtain ⟨q,d,arr,v,y,f⟩:=h.pJ m _ c s r;have u:∀ k o,(b.Cx k o/\¬b.sU k)->g.fP k o/\w.cell? ⟨k,o,none⟩=b.pH.cell? ⟨k,o,none⟩:=λk o p=>⟨h.pq k o p.1,by unfold World.cell?;rw [h.jF.wv k (b.Ox k o p.1) p.2]⟩
  exact ⟨arr,(h.jF.wv c q d).trans v,y,λi e x j d=>⟨(f i e x j d).1,(f i e x j d).2.1.ka u,(f i e x j d).2.2.ka u⟩⟩
theorem qu.Ja {m} (p:o.op= .makeMap m none) (c:K (.gi n) (fc σ (.ay n) (.iD (.jq 0 []))) (n+1)):qu P o σ n K:=by
 refine ⟨λb g a w h _=>?_⟩;obtain ⟨k,l⟩:=h.Iz h.sh.1 (X:= .iD (.jq 0 [])) rfl (.map #[] 0) (λq w' _ f _=>⟨[],f,rfl,λi e x d=>by simp at d⟩);refine ⟨.value (.map (some w.heap.size)), .map (some w.heap.size),_, .gi n,_,n+1,_,?_, .inl rfl,c,aZ n, .uc (gX.qR _ _ _),k.mQ (λj r=>by omega),l⟩;simp [execOp,p,Instr.makeMap,Result.andThen]
theorem qu.Bw (hT:jc P T) {mt kt et d} (hm:P.underlying mt=some (.map kt et)) (R:P.underlying kt=some d) {ti n0 b0 H} (hz0:hU T et=some ⟨ti,n0,b0,H⟩) {q z} (hz:Bl ti H=some (q,z)) (hq:LA P et=some q)
  {x k B} (J:o.op= .lookup mt x k B) {m s es} (hx:eR σ x= .gi m) (hs:σ (.ay m)= .iD (.jq s es)\/σ (.ay m)= .kh (.jq s es)) (S:sw d (eR σ k)) (Y:∀ e∈es,sw d e.2.1) (r) (ho:uZ (eR σ k) es=r)
  (hK:K (VM B r z) σ (n+1)):qu P o σ n K:=by
 refine ⟨λb g a w h U=>?_⟩;have N:=U x (by simp [J,Op.operands]);have Z:=U k (by simp [J,Op.operands]);rw [hx] at N;obtain ⟨c,hc,ex⟩:=N.Bb;obtain ⟨arr,E,F⟩:=h.Mb hs hc;have I:=PS S Z;obtain ⟨zv,hzr,A⟩:=Vr (w:=w) (g:=g) hT hz0 hz hq;have O:∀ {y:b9} {u:Value} {p:Bool},eH w g y u->eH w g (.dn [y,match p with|true=> .fU|false=> .fD]) (.tuple #[u, .bool p]):=fun {y u p} hy=> .nR (vs:=[_,_]) rfl (λi z v E F=>by
  match i,E,F with
  |0,E,F=>simp_all
  |1,E,F=>cases E;cases F;cases p<;>first|exact .fJ .wB|exact .fJ .uR
  |i+2,E,_=>cases E)
 have L:∀ l,(Instr.lookup mt (.map (some c)) (a.eval k) B).run P w= .ok l w->eH w g (VM B r z) l->∃ nx l w' v Q n' X,(execOp a.eval o).run P w= .ok nx w'/\(nx= .value l\/(nx= .skip/\l=undef))/\K v Q n'/\n<=n'/\eH w' X v l/\fl b Q (·<n') X w'/\iN g w X w':=
  λl U f=>⟨.value l,l,w,_,σ,n+1,g,by simp [execOp,J,ex,U], .inl rfl,hK,aZ n,f,h.uV (aZ n),iN.uO g w⟩
 rcases Mg S I 0 ⟨F.1,F.2⟩ Y with ⟨q1,W,_⟩|⟨j,e,y,q1,W,q3,q4,q5,_⟩
 .rw [ho] at W;subst W;refine L (if B then .tuple #[zv, .bool false] else zv) ?_ ?_
  .cases B<;>simp [Instr.lookup,run_underlying hm,MapKept.run_getObj_map E,MapKept.run_checkKey R (BA S I),MapKept.run_findKey R q1,hzr,Result.andThen]
  .cases B
   .exact A
   .exact O (p:=false) A
 .rw [ho] at q5;subst q5;have f:=(F.2 j e y W q3).2.2;refine L (if B then .tuple #[e.val, .bool true] else e.val) ?_ ?_
  .cases B<;>simp [Instr.lookup,run_underlying hm,MapKept.run_getObj_map E,MapKept.run_checkKey R (BA S I),MapKept.run_findKey R q1,Result.andThen]
  .cases B
   .exact .fJ f
   .exact O (p:=true) (.fJ f)
theorem Jk {c es es' l clock'} (h:w.heap[c]? =some (.map es l)):oH c w {w with heap:=w.heap.setIfInBounds c (.map es' clock')}/\(w.heap.setIfInBounds c (.map es' clock'))[c]? =some (.map es' clock'):=by
 have d:c<w.heap.size:=(bm.1 h).1;have e:(w.heap.setIfInBounds c (.map es' clock'))[c]? =some (.map es' clock'):=by simp [d]
 exact ⟨⟨rfl,rfl,rfl,by simp,λk f=>by simp [Ne.symm f],by grind [World.shape?],λs i=>(by simp_all),rfl⟩,e⟩
def Eo (c:Nat) (es:rD) (k v:b9):Option rD->Lb
 |some l=> .jq c l
 |none=> .jq (c+1) (es++[(c,k,v)])
theorem afU {mt kt et d} (hm:P.underlying mt=some (.map kt et)) (O:P.underlying kt=some d) (h:fl b σ (·<n) g w) {m c l es} (W:g.fk m=some c) (hs:σ (.ay m)= .iD (.jq l es))
  {k v u F} (R:sw d k) (p:gb w g.fP k u) (I:gb w g.fP v F) (Z:∀ e∈es,sw d e.2.1):
  ∃ w',(Instr.mapUpdate mt (.map (some c)) u F).run P w= .ok () w'/\fl b (fc σ (.ay m) (.iD (Eo l es k v (ug k v es)))) (·<n) g w'/\iN g w g w':=by
 obtain ⟨r,B,s⟩:=h.xz m _ c hs W;have S:(σ (.ay m)).jb=true:=by rw [hs];rfl
 rcases Mg R p 0 ⟨s.1,s.2⟩ Z with ⟨q1,U,q3,_⟩|⟨j,e,y,q1,U,q3,q4,q5,q6,_⟩
 .obtain ⟨J,Y⟩:=Jk (es':=r.toArray.push {key:=u,val:=F,born:=l}) (clock':=l+1) B;refine ⟨_,?_,h.ot (X:= .iD (Eo l es k v (ug k v es))) S W J (λ_=>?_)⟩
  .simp [Instr.mapUpdate,run_underlying hm,MapKept.run_getObj_map B,MapKept.run_checkKey O (BA R p),MapKept.run_findKey O q1,MapKept.run_setObj_map _ B,Result.andThen]
  .rw [q3 v];have E:=iN.tZ (g:=g) J (λo ho=>by obtain ⟨c',z,_,_,N⟩:=h.iR m S;simp_all);refine ⟨r++[{key:=u,val:=F,born:=l}],by simpa using Y,by simp [s.1],λi e x f q=>?_⟩
   by_cases hi:i<r.length
   .rw [aS hi] at f;rw [aS om] at q;obtain ⟨z,H,L⟩:=s.2 i e x f q;exact ⟨z,H.ka E.jC,L.ka E.jC⟩
   .rw [aW om] at f;rw [aW om] at q;rw [s.1] at f;cases Q:i - es.length with
    |zero=>
     simp [Q] at f q;subst f q;exact ⟨rfl,p.ka E.jC,I.ka E.jC⟩
    |succ j=>simp [Q] at f
 .obtain ⟨J,Y⟩:=Jk (es':=r.toArray.modify j λe=>{e with key:=u,val:=F}) (clock':=l) B;refine ⟨_,?_,h.ot (X:= .iD (Eo l es k v (ug k v es))) S W J (λ_=>?_)⟩
  .have Q:(r[j]?.map (·.key)).getD u=u:=by rw [U];simp [q4]
   simp [Instr.mapUpdate,run_underlying hm,MapKept.run_getObj_map B,MapKept.run_checkKey O (BA R p),MapKept.run_findKey O q1,Q,MapKept.run_keyThatStays (BA R p),MapKept.run_setObj_map _ B,Result.andThen]
  .rw [q6 v];have E:=iN.tZ (g:=g) J (λo ho=>by obtain ⟨c',z,_,_,N⟩:=h.iR m S;simp_all);refine ⟨r.modify j λe=>{e with key:=u,val:=F},by simpa using Y,by simp [s.1],λi e' x f q=>?_⟩;rw [cH] at f
   by_cases A:j=i
   .subst A;have hlt:j<es.length:=by grind
    rw [di hlt] at q;simp only [U,du,Option.map_eq_map,bz,aG] at f q;subst f q;obtain ⟨z,H,L⟩:=s.2 j e y U q3;have N:=H.ka E.jC;rw [q4] at N;exact ⟨z,N,I.ka E.jC⟩
   .rw [List.getElem?_set_ne A] at q;simp only [A,cK,Option.map_eq_map,Option.map_id'] at f;obtain ⟨z,H,L⟩:=s.2 i e' x f q;exact ⟨z,H.ka E.jC,L.ka E.jC⟩
theorem qu.pu {mt kt et d} (I:P.underlying mt=some (.map kt et)) (H:P.underlying kt=some d) {x k v} (p:o.op= .mapUpdate mt x k v\/o.op= .insert mt x k v) {m l es} (O:eR σ x= .gi m) (L:σ (.ay m)= .iD (.jq l es))
  (y:sw d (eR σ k)) (N:Ef (eR σ v)=true) (s:∀ e∈es,sw d e.2.1) (r) (J:ug (eR σ k) (Gl (eR σ v)) es=r)
  (E:K .ga (fc σ (.ay m) (.iD (Eo l es (eR σ k) (Gl (eR σ v)) r))) (n+1)):qu P o σ n K:=by
 refine ⟨λb g a w h j=>?_⟩;have f:∀ z∈[x,k,v],z∈o.op.operands:=λz S=>by grind [Op.operands]
 have i:=j x (f x (by simp));have q:=j k (f k (by simp));have u:=j v (f v (by simp));rw [O] at i;obtain ⟨c,F,B⟩:=i.Bb;obtain ⟨w',Q,A,R⟩:=afU I H h F L y (PS y q) (Gs N u) s;rw [J] at A;refine ⟨.skip,undef,w', .ga,_,n+1,g,?_, .inr ⟨rfl,rfl⟩,E,aZ n, .nY,A.uV (aZ n),R⟩;rcases p with e|e<;>simp [execOp,e,B,Q,Result.andThen]
theorem qu.afH {mt kt et d} (hm:P.underlying mt=some (.map kt et)) (L:P.underlying kt=some d) {A} (hop:o.op= .call A) (hcal:A.callee= .builtin .delete) (B:A.argTypes[0]? =some mt) {x k} (U:A.args=#[x,k])
  {m l es} (f:eR σ x= .gi m) (hs:σ (.ay m)= .iD (.jq l es)) (N:sw d (eR σ k)) (Y:∀ e∈es,sw d e.2.1) (r) (Q:Bz (eR σ k) es=r)
  (hK:K (.dn []) (fc σ (.ay m) (.iD (.jq l r))) (n+1)):qu P o σ n K:=by
 refine ⟨λb g a w h hr=>?_⟩;have H:=hr x (by grind [Op.operands,Call.operands]);have Z:=hr k (by grind [Op.operands,Call.operands]);rw [f] at H;obtain ⟨c,W,ex⟩:=H.Bb;obtain ⟨s,u,q⟩:=h.xz m _ c hs W;have z:=PS N Z;have O:(σ (.ay m)).jb=true:=by rw [hs];rfl
 have J:∀ {w':World},(Builtin.delete_ A.argTypes o.type #[a.eval x,a.eval k]).run P w= .ok (.tuple #[]) w'->(execOp a.eval o).run P w= .ok (.value (.tuple #[])) w':=by
  intro w' hb;obtain ⟨dst,op,ty,pos,R,S⟩:=o;grind [xK,builtin,Sem.run_bind,Result.andThen_ok,Sem.run_pure]
 rcases Mg N z 0 ⟨q.1,q.2⟩ Y with ⟨q1,q2,_,q4⟩|⟨j,e,y,q1,q2,q3,q4,q5,q6,q7⟩
 .rw [Q] at q4;subst q4;obtain ⟨I,hh⟩:=Jk (es':=s.toArray) (clock':=l) u;obtain ⟨k1,k2⟩:=h.ot (X:= .iD (.jq l r)) O W I (λ_=>by
   have E:=iN.tZ (g:=g) I (λo Q=>by obtain ⟨c',a1,_,_,a4⟩:=h.iR m O;simp_all);exact ⟨s,hh,q.1,λi e x p f=>⟨(q.2 i e x p f).1,(q.2 i e x p f).2.1.ka E.jC,(q.2 i e x p f).2.2.ka E.jC⟩⟩)
  refine ⟨.value (.tuple #[]), .tuple #[],_, .dn [],_,n+1,g,J ?_, .inl rfl,hK,aZ n, .nR (vs:=[]) rfl (λi x v u=>by simp at u),k1.uV (aZ n),k2⟩;simp [Builtin.delete_,B,ex,run_underlying hm,MapKept.run_getObj_map u,MapKept.run_checkKey L (BA N z),MapKept.run_findKey L q1,MapKept.run_setObj_map _ u,Result.andThen]
 .rw [Q] at q7;subst q7;obtain ⟨I,hh⟩:=Jk (es':=s.toArray.eraseIdxIfInBounds j) (clock':=l) u;have hlt:j<s.length:=(aB.1 q2).1;obtain ⟨k1,k2⟩:=h.ot (X:= .iD (.jq l (es.eraseIdx j))) O W I (λ_=>by
   have E:=iN.tZ (g:=g) I (λo Q=>by obtain ⟨c',a1,_,_,a4⟩:=h.iR m O;simp_all);refine ⟨s.eraseIdx j,by simp_all,by grind,λi e x p f=>?_⟩;rw [List.getElem?_eraseIdx] at p f
   by_cases F:i<j
   .rw [ak F] at p f;exact ⟨(q.2 i e x p f).1,(q.2 i e x p f).2.1.ka E.jC,(q.2 i e x p f).2.2.ka E.jC⟩
   .rw [ai F] at p f;exact ⟨(q.2 _ e x p f).1,(q.2 _ e x p f).2.1.ka E.jC,(q.2 _ e x p f).2.2.ka E.jC⟩)
  refine ⟨.value (.tuple #[]), .tuple #[],_, .dn [],_,n+1,g,J ?_, .inl rfl,hK,aZ n, .nR (vs:=[]) rfl (λi x v u=>by simp at u),k1.uV (aZ n),k2⟩;simp [Builtin.delete_,B,ex,run_underlying hm,MapKept.run_getObj_map u,MapKept.run_checkKey L (BA N z),MapKept.run_findKey L q1,MapKept.run_setObj_map _ u,Result.andThen]
theorem qu.Vw {mt kt et} (s:P.underlying mt=some (.map kt et)) {x} (p:o.op= .range mt x) {m l es} (y:eR σ x= .gi m) (v:σ (.ay m)= .iD (.jq l es)\/σ (.ay m)= .kh (.jq l es))
  (k:K (.gH n) (fc σ (.ay n) (.iD (.sZ m l [] l))) (n+1)):qu P o σ n K:=by
 refine ⟨λb g a w h u=>?_⟩;have r:=u x (by simp [p,Op.operands]);rw [y] at r;obtain ⟨c,d,f⟩:=r.Bb;obtain ⟨e,i,F⟩:=h.Mb v d;obtain ⟨z,A⟩:=h.Iz h.sh.1 (X:= .iD (.sZ m l [] l)) rfl (.mapIter (some c) l #[] l) (λB w' E q _=>⟨c,(E.oT _ _ d).1,q⟩);refine ⟨.value (.pointer (some ⟨w.heap.size,0,none⟩)), .pointer (some ⟨w.heap.size,0,none⟩),_, .gH n,_,n+1,_,?_, .inl rfl,k,aZ n, .vt (gX.qR _ _ _),z.mQ (λj H=>by omega),A⟩;simp [execOp,p,f,Instr.range,run_underlying s,MapKept.run_getObj_map i,Result.andThen]
theorem qu.Vv {x} (L:o.op= .next x false) {i m s p l seen es} (hx:eR σ x= .gH i) (hi:σ (.ay i)= .iD (.sZ m s seen p)) (hs:σ (.ay m)= .iD (.jq l es)\/σ (.ay m)= .kh (.jq l es))
  (hlt:∀ e∈es,e.1<s) (hsc:s<=p) (d:∀ e∈es,e.1∉seen->K (.dn [.fU,e.2.1,e.2.2]) (fc σ (.ay i) (.iD (.sZ m s (seen++[e.1]) l))) (n+1))
  (h0:(∀ e∈es,e.1∈seen)->K (.dn [.fD]) σ (n+1)):qu P o σ n K:=by
 refine ⟨λb g a w h hr=>?_⟩;have Q:=hr x (by simp [L,Op.operands]);rw [hx] at Q;obtain ⟨r,hc,ex⟩:=Q.Lc;obtain ⟨c,H,N⟩:=h.xz i _ r hi hc;obtain ⟨q,hb,f⟩:=h.Mb hs H;have B:∀ e∈q,∃ y∈es,e.born=y.1/\gb w g.fP y.2.1 e.key/\gb w g.fP y.2.2 e.val:=λe Y=>by
  obtain ⟨j,W,I⟩:=bC Y;have z:j<es.length:=by rw [<-f.1];exact W
  exact ⟨es[j],aI z,f.2 j e _ (by simp_all) (aj z)⟩
 have S:∀ {U:Value} {w':World},(Instr.next (.pointer (some ⟨r,0,none⟩)) false o.type).run P w= .ok U w'->(execOp a.eval o).run P w= .ok (.value U) w':=λu=>by simp [execOp,L,ex,u,Result.andThen]
 rcases run_next_at w o.type r c s p seen.toArray q.toArray l N hb (λe Y=>by
   grind) hsc with ⟨q0,u⟩|⟨e,Y,A,R,u⟩
 .refine ⟨.value (.tuple #[.bool false]),_,w, .dn [.fD],σ,n+1,g,S u, .inl rfl,h0 λy hy=>?_,aZ n, .nR (vs:=[_]) rfl (λi x v d f=>?_),h.uV (aZ n),iN.uO g w⟩
  .obtain ⟨j,W,I⟩:=bC hy;have z:j<q.length:=by rw [f.1];exact W
   have F:=(f.2 j _ _ (aj z) (aj W)).1;rw [I] at F;rw [<-F];have hf:leftOf q.toArray seen.toArray=#[]:=Array.eq_empty_of_size_eq_zero q0;grind [leftOf,Array.filter_eq_empty_iff]
  .match i,d,f with
   |0,d,f=>cases d;cases f;exact .fJ .uR
   |i+1,d,_=>cases d
 .have Z:e∈q/\e.born∉seen:=by
   grind [leftOf]
  obtain ⟨y,hy,e1,e2,e3⟩:=B e Z.1;obtain ⟨g1,E⟩:fl b σ (·<n) g A/\iN g w g A:=by
   rcases R with rfl|rfl
   .grind [iN.uO]
   .exact h.ub (w':=w.drew) ⟨rfl,rfl,rfl,aq _,λ_ _=>rfl⟩
  have O:A.heap[r]? =some (.mapIter (some c) s seen.toArray p):=by rcases R with rfl|rfl<;>exact N
  have J:r<A.heap.size:=(bm.1 O).1;have hh:(Go.ChangeMaps.setBlock A r (.mapIter (some c) s (seen.toArray.push e.born) l)).heap[r]? =some (.mapIter (some c) s (seen.toArray.push e.born) l):=by simp [Go.ChangeMaps.setBlock,J]
  have hw:oH r A (Go.ChangeMaps.setBlock A r (.mapIter (some c) s (seen.toArray.push e.born) l)):=
   ⟨rfl,rfl,rfl,by simp [Go.ChangeMaps.setBlock],λk hk=>by grind [Go.ChangeMaps.setBlock],by grind [World.shape?],λds hd=>(by simp_all),rfl⟩
  obtain ⟨k1,k2⟩:=g1.ot (X:= .iD (.sZ m s (seen++[y.1]) l)) (by rw [hi];rfl) hc hw (λ_=>⟨c,H,by rw [hh,e1];simp⟩);refine ⟨.value (.tuple #[.bool true,e.key,e.val]),_,_, .dn [.fU,y.2.1,y.2.2],_,n+1,g,S u, .inl rfl,d y hy (by simp_all),aZ n,?_,k1.uV (aZ n),E.lF k2⟩;have hE:=E.lF k2;refine .nR (vs:=[_,_,_]) rfl (λi x v d f=>?_)
  match i,d,f with
  |0,d,f=>cases d;cases f;exact .fJ .wB
  |1,d,f=>cases d;cases f;exact .fJ (e2.ka hE.jC)
  |2,d,f=>cases d;cases f;exact .fJ (e3.ka hE.jC)
  |i+3,d,_=>cases d
theorem qu.Vu {x} (z:o.op= .entry x) {i m k f l s seen es} (Y:eR σ x= .gH i) (R:σ (.ay i)= .iD (.sZ m k (seen++[s]) f)) (X:σ (.ay m)= .iD (.jq l es)\/σ (.ay m)= .kh (.jq l es))
  (S:f=l) (U:(es.map (·.1)).Nodup) (y) (Z:(s,y)∈es) (N:K (.dn [y.1,y.2]) σ (n+1)):qu P o σ n K:=by
 refine ⟨λb g a w h W=>?_⟩;have B:=W x (by simp [z,Op.operands]);rw [Y] at B;obtain ⟨r,Q,L⟩:=B.Lc;obtain ⟨c,E,H⟩:=h.xz i _ r R Q;obtain ⟨d,O,e⟩:=h.Mb X E;subst S;have I:d.map (·.born)=es.map (·.1):=by
  apply cY;intro j;rw [bU,bU]
  by_cases u:j<d.length
  .have p:j<es.length:=by rw [<-e.1];exact u
   rw [aj u,aj p];simp only [bz];rw [(e.2 j _ _ (aj u) (aj p)).1]
  .rw [bs om,bs (by rw [<-e.1];omega)];rfl
 obtain ⟨j,u,F⟩:=bC Z;have p:j<d.length:=by rw [e.1];exact u
 have J:=e.2 j _ _ (aj p) (aj u);rw [F] at J;obtain ⟨p1,p2,p3⟩:=J;have A:=run_entry_at (P:=P) w r c k seen.toArray d.toArray f d[j] (by rw [H,p1];simp) O (by simp) (by simp_all);refine ⟨.value (.tuple #[d[j].key,d[j].val]),_,w,_,σ,n+1,g,by simp [execOp,z,L,A,Result.andThen], .inl rfl,N,aZ n,?_,h.uV (aZ n),iN.uO g w⟩;refine .nR (vs:=[_,_]) rfl (λi x v q e=>?_)
 match i,q,e with
 |0,q,e=>cases q;cases e;exact .fJ p2
 |1,q,e=>cases q;cases e;exact .fJ p3
 |i+2,q,_=>cases q
def gX.Je (F:Nat->Nat->Prop) (c:Nat):gX:=⟨F,λi=>if i=0 then some c else none,λ_=>none⟩
structure Md (P:Program) (f:FuncId) (clock:Nat) (es:rD) (args:List b9) (res:b9):Prop where
 afL:s5 P f
 afN:∀ (w:World) (F:Nat->Nat->Prop) (c:Nat) (arr:List MapEntry) (vals:List Value),sX P w->(∀ k o,F k o->k<w.heap.size)->w.heap[c]? =some (.map arr.toArray clock)->GA w F arr es->vals.length=args.length->
  (∀ (i:Nat) (x:b9) (v:Value),args[i]? =some x->vals[i]? =some v->eH w (gX.Je F c) x v)->
  Calls P f vals.toArray w λe w'=>∃ v F',e= .returned v/\(Below w.heap.size w w'/\w.drawn<=w'.drawn)/\(∀ k o,F k o->F' k o)/\(∀ k o,F' k o->F k o\/(w.heap.size<=k/\k<w'.heap.size))/\gb w' F' res v
theorem fl.afJ (w F q) (f:∀ k o,F k o->k<w.heap.size) (args) {c l es arr} (v:w.heap[c]? =some (.map arr.toArray l)) (j:GA w F arr es):
  fl (P:=P) (jL.A5 w F q f) (fc (sj args) (.ay 0) (.kh (.jq l es))) (·<1) (gX.Je F c) w:=by
 have u:∀ d k,(gX.Je F c).fk d=some k->d=0/\k=c:=λd k h=>by
  grind [gX.Je]
 have z:∀ d,(fc (sj args) (.ay 0) (.kh (.jq l es))) (.ay d)=if d=0 then .kh (.jq l es) else .fB:=λd=>by
  by_cases h:d=0
  .grind [lX]
  .rw [g9 (λe=>h (by cases e;rfl)),ai h];rfl
 have r:∀ d,((fc (sj args) (.ay 0) (.kh (.jq l es))) (.ay d)).jb=true->False:=λd h=>by
  rw [z] at h;split at h<;>cases h
 refine fl.qs (sV.K4 _ _ _) f (λ_ _ h=>h) (λ_ _ h _ _=>h) (λd k h=>by grind) (λ_ _ h=>by cases h) (λd k h=>by grind) (λ_ _ _ h=>by cases h)
  (λd h=>(r d h).elim) (λd _ h=>(r d h).elim) (λd _ _ h=>(r d h).elim) (λd X k s A=>?_) (λd t B N s=>?_)
 .obtain ⟨rfl,rfl⟩:=u d k A;rw [z,ak rfl] at s;cases s;have y:∀ k o,F k o->((jL.A5 (P:=P) w F q f).Cx k o/\¬(jL.A5 (P:=P) w F q f).sU k)/\w.cell? ⟨k,o,none⟩=w.cell? ⟨k,o,none⟩:=λk o h=>⟨⟨h,λe=>e⟩,rfl⟩
  exact ⟨(bm.1 v).1,λh=>h,arr,v,j.1,λi e x m p=>⟨(j.2 i e x m p).1,(j.2 i e x m p).2.1.ka y,(j.2 i e x m p).2.2.ka y⟩⟩
 trivial
theorem afT (args c es):fc (sj args) (.ay 0) (.kh (.jq c es))=CQ (fc (λ_=> .fB) (.ay 0) (.kh (.jq c es))) args:=by
 funext l;cases l with
 |ay i=>cases i<;>rfl
 |_=>rfl
theorem Md.afM (y:jc P T) (N:P.follows .mixedOrders=true) {f fn c} (z:P.funcs[f]? =some fn) (e:fn.body=some c) (A:(fn.name== "runtime.NumGoroutine")=false) {l es args res} (L:Nat.ble args.length fn.ntmps=true) (j:pN fn.ntmps fn.results.toList=true)
  (h:s7 P T none fn.ntmps 1 c (fc (sj args) (.ay 0) (.kh (.jq l es))) 1 (Bt mR T fn res)):Md P f l es args res:=by
 have h:=wO y N _ _ _ _ h;rw [afT,Vg] at h;refine ⟨pL z e A,λw F k E B u q m s p Q=>(fF.IR (fF.Bm y z e A L j h) w F u q ((fl.afJ w F u q [] m s).xx (λ_=>rfl) (λ_=>rfl)) p λi x v R S=>Q i x v R S).mono ?_⟩;rintro _ w' ⟨v,x,U,X,W,J,d,r,O,e,H,I⟩;exact ⟨v,_,J,e,λk o d=> .inl (H k o d),λk o d=>d.elim (I k o) .inr,CP.Pn (λ_ _ h=>h) O d r⟩
theorem fF.Vs {f res n m l es K} (hp:Md P f l es [.gi 0] res) (I:σ (.ay m)= .iD (.jq l es)) (E:K res σ n):fF P f [.gi m] σ n K:=by
 refine ⟨hp.afL,λb g w s h H J=>?_⟩
 match s,H with
 |[v],_=>
  obtain ⟨c,B,e⟩:=(J 0 _ v rfl rfl).Bb;subst e;obtain ⟨r,y,d⟩:=h.xz m _ c I B;refine (hp.afN w g.fP c r [.map (some c)] h.DS h.lv y d rfl (λi x u j k=>?_)).mono ?_
  .match i,j,k with
   |0,j,k=>cases j;cases k;exact .uc (by simp [gX.Je])
   |i+1,j,_=>cases j
  .rintro e w' ⟨v,q,rfl,d,p,z,A⟩;exact ⟨v,res,σ,n,{g with fP:=q},rfl,E,aq _, .fJ A,h.CA d.1 d.2 p z,h.A7 d.1 d.2 p⟩
end
section
variable {P:Program} {T:iw} {b:jL P} {t:se} {σ:eK} {D:Nat->Prop} {g:gX} {a:Act} {w:World}
mutual
def qB:b9->Bool
 | .a8 _ _ [] .dm=>true
 | .a8 _ _ [] .fW=>true
 | .a8 _ _ _ _=>false
 | .gJ _ _=>false
 | .eN c=>BB c
 | .dn c=>BB c
 | .eW _ f c=>match BB f with|true=>BB c|false=>false
 | .gm _ v=>qB v
 |_=>true
def BB:List b9->Bool
 |[]=>true
 |x::l=>match qB x with|true=>BB l|false=>false
end
def PW:gC->Bool
 | .bg x=>qB x
 | .dc _ cells=>BB cells
 | .mP _ _=>true
 | .iD (.sZ _ _ _ _)=>true
 | .kh _=>true
 | .fB=>true
 |_=>false
def Ep:List (fQ×gC)->Bool
 |[]=>true
 |(.eT _,_)::_=>false
 |(_,c)::es=>match PW c with|true=>Ep es|false=>false
theorem BC:∀ {l:List b9},BB l=true->∀ (i:Nat) x,l[i]? =some x->qB x=true
 |[],_,i,x,h=>by simp at h
 |c::s,d,i,x,h=>by
  simp only [BB] at d;cases e:qB c with
  |false=>simp [e] at d
  |true=>
   simp only [e] at d;cases i with
   |zero=>simp_all
   |succ i=>exact BC d i x (by simpa using h)
theorem PX:∀ {es:List (fQ×gC)},Ep es=true->(∀ l,PW (eJ es l)=true)/\∀ k,eJ es (.eT k)= .fB
 |[],_=>⟨λ_=>rfl,λ_=>rfl⟩
 |(l',c)::es,h=>by
  have s:Ep es=true/\PW c=true/\∀ k,l'≠ .eT k:=by
   cases l' with
   |eT k=>cases h
   |ct k=>
    grind [Ep]
   |ay k=>
    grind [Ep]
  obtain ⟨d,f,i⟩:=s;obtain ⟨q,j⟩:=PX d;refine ⟨λl=>?_,λk=>?_⟩
  .by_cases e:l=l'
   .subst e;rw [eJ,lX];exact f
   .rw [eJ,g9 e];exact q l
  .rw [eJ,g9 (λe=>i k e.symm)];exact j k
theorem gb.GB {F F' x v} (h:gb w F x v) (l:qB x=true):gb w F' x v:=by
 induction h with
 |kS k n=>exact .kS k n
 |rq b=>exact .rq b
 |wB=>exact .wB
 |uR=>exact .uR
 |lW h=>exact .lW h
 |A9 hl _ m=>simp only [qB] at l;exact .A9 hl (λi x v d r=>m i x v d r (BC l i x d))
 |wC hl _ m=>simp only [qB] at l;exact .wC hl (λi x v d r=>m i x v d r (BC l i x d))
 |IF=>exact .IF
 | @mG N sz els z c vals p y s A q _ m=>
  cases els with
  |nil=>exact .mG vals p y s (λi u j x d=>by simp at d) q (λi u j x d=>by simp at d)
  |cons e es=>simp [qB] at l
 |DV f=>exact .DV f
 |ID=>exact .ID
 |FK _ m=>simp only [qB] at l;exact .FK (m l)
 |IE=>exact .IE
theorem eH.Me {g':gX} {m:Nat} {x v} (h:eH w g x v) (j:qB x=true) (r:lh m x=true) (d:∀ i c,i<m->g.fk i=some c->g'.fk i=some c):eH w g' x v:=by
 induction h with
 |fJ h=>exact .fJ (h.GB j)
 |sd hl _ p=>simp only [qB] at j;simp only [lh] at r;exact .sd hl (λi x v f k=>p i x v f k (BC j i x f) (qX r i x f))
 |nR hl _ p=>simp only [qB] at j;simp only [lh] at r;exact .nR hl (λi x v f k=>p i x v f k (BC j i x f) (qX r i x f))
 |rr h=>simp only [lh] at r;exact .rr (d _ _ (ki r) h)
 |vu vals A h=>simp [qB] at j
 |m7 h H=>
  rename_i N O q I J n c;cases q with
  |cons e es=>trivial
  |nil=>
   cases I with
   |dm=>exact .m7 (h.GB rfl) trivial
   |fW=>exact .m7 (h.GB rfl) H
   |je id=>simp [qB] at j
   |hJ id=>simp [qB] at j
 |oV h A F hl B=>simp only [lh] at r;exact .oV (d _ _ (ki r) h) A F hl B
 |wD hl E _ _ u y=>
  simp only [qB] at j;simp only [lh] at r;rename_i z L _ _ _ _;cases s:BB z with
  |false=>simp [s] at j
  |true=>
   simp only [s] at j;cases l:sn m z with
   |false=>simp [l] at r
   |true=>
    simp only [l] at r;exact .wD hl E (λi x v f k=>u i x v f k (BC s i x f) (qX l i x f)) (λi x v f k=>y i x v f k (BC j i x f) (qX r i x f))
 |wE _ p=>simp only [qB] at j;simp only [lh] at r;exact .wE (p j r)
 |vt h=>simp only [lh] at r;exact .vt (d _ _ (ki r) h)
 |wF h=>simp only [lh] at r;exact .wF (d _ _ (ki r) h)
 |uc h=>simp only [lh] at r;exact .uc (d _ _ (ki r) h)
 |nY=>exact .nY
theorem iE.PH {r:Option Nat} {nt lo n m:Nat} {c K es} (s id:Nat) {isNil:Bool} {sz:Nat} {els:List (List b9)} {bt} (he:oJ σ m es) (h0:lo<=m) (hsafe:Ep es=true) (hsn:s<nt)
  (hs:σ (.ct s)= .bg (.a8 isNil sz els (.hJ id))) (hrow:σ (.eT id)= .eU bt sz els.length) (hid:lo<=id) (hne:els≠[]) (hels:∀ el∈els,∀ x∈el,qB x=true)
  (h:iE P r nt lo c (eJ ((.ct s, .bg (.eP m 0 sz els.length true))::(.ay m, .eY bt els.flatten)::es)) (m+1) K):iE P r nt lo c σ n K:=by
 refine ⟨λb t a w hl hsim=>h.nM b t a w hl ?_⟩;obtain ⟨g,J,hf,W,hn⟩:=hsim;obtain ⟨q1,q2⟩:=PX hsafe;have A:=hf.oW s hsn;unfold jx at A;rw [hs] at A;obtain ⟨ad,cap,hv,hp,ht⟩:=A.nq;obtain ⟨bk,N,t1,t2,t3⟩:=ht;obtain ⟨bk',r1,r2⟩:=J.ln id bt sz els.length hrow;rw [r1] at t1;obtain ⟨e1,e2⟩:bk'=bk/\els.length=N:=by simp_all
 subst e1 e2;have hpos:0<els.length:=cm.2 hne;rcases t3 rfl with ⟨_,e⟩|⟨c1,bt',rfl,rfl,S⟩
 .omega
 obtain ⟨a1,a2,a3,a4,a5,arr,z,a6,a7⟩:=r2 c1 rfl;have hnew:∀ o,¬t.DY.fP c1 o:=by
  rcases W.zQ id c1 _ r1 with ⟨N0,e⟩|e
  .have:=t.IG id _ e;omega
  .exact e
 let I:gX:=⟨λk o=>g.fP k o/\k≠c1,λi=>if i=m then some c1 else if i<m then g.fk i else none,λi=>if i<m/\i≠id then g.gF i else none⟩
 have B:∀ i k,i<m->g.fk i=some k->I.fk i=some k:=λi k hi f=>by grind
 have u:∀ i k,I.fk i=some k->(i=m/\k=c1)\/(i<m/\g.fk i=some k):=λi k f=>by
  grind
 let d:eK:=eJ ((.ct s, .bg (.eP m 0 sz els.length true))::(.ay m, .eY bt els.flatten)::es)
 have sm:d (.ay m)= .eY bt els.flatten:=by simp only [d,eJ];grind [g9,lX]
 have sb:∀ i,i≠m->d (.ay i)=eJ es (.ay i):=λi hi=>by simp only [d,eJ];grind [g9]
 have sr:∀ i,d (.eT i)= .fB:=λi=>by simp only [d,eJ];grind [g9]
 have Q:∀ i,eJ es (.ay i)≠ .fB->eJ es (.ay i)=σ (.ay i)/\i<m/\yM m (σ (.ay i))=true:=λi hne=>by
  rcases he.xJ (.ay i) with F|⟨F,h2,h3⟩
  .exact absurd F hne
  .exact ⟨F,ki h2,h3⟩
 have U:∀ i,(eJ es (.ay i)).jb=true->eJ es (.ay i)≠ .fB:=λi hl e=>by rw [e] at hl;cases hl
 have harr:arr.length=cap*sz:=by
  grind [World.shape?]
 cases hp with
 |mG vals hnil hc hsz ha hone hrep=>
 have R:∀ (p:Nat) x v,els.flatten[p]? =some x->arr[p]? =some v->gb w I.fP x v:=λp x v H hv=>by
  obtain ⟨el,f1,f2,f3⟩:=FV sz els hsz p x H;obtain ⟨blk,base,g1',g2',g3'⟩:=ha _ el _ x f1 f2;cases g1';rw [bZ,f3] at g3';have hcv:w.cell? ⟨c1,p,none⟩=some v:=by grind [ru]
  rw [hcv] at g3';cases g3';exact (hrep _ el _ x f1 f2).GB (hels el (bh f1) x (bh f2))
 refine ⟨I,fl.qs J.jF (λk o f=>J.lv k o f.1) (λk o f=>⟨J.pq k o f,λe=>by subst e;rcases a1 with a1|a1;exact absurd (b.Ox _ o f) om;exact b.TG _ o f a1⟩) (λk o f hlt H=>J.oE k o f.1 hlt H) (λi k f=>?_) (λi x H=>?_) (λi k f=>?_) (λi k N f=>?_)
  (λi hl=>?_) (λi k hl f=>?_) (λi j k hi hj hik hjk=>?_) (λi Y k hY f=>?_) (λi t' sz' N hs'=>by grind),⟨hf.qU,hf.sg,λi hi=>?_⟩,⟨⟨λk o f=>?_,λi k f=>?_,λi bk N O=>?_,λi k N O=>?_⟩,W.wA,W.yz,W.wy⟩,om⟩
 .grind
 .grind
 .rcases u i k f with ⟨_,e⟩|⟨_,e⟩
  .rw [e];exact a2
  .exact J.ko i k e
 .simp only [I] at f;split at f
  .exact J.mc i k N f
  .cases f
 .by_cases y:i=m
  .grind
  .have hl':(eJ es (.ay i)).jb=true:=by grind
   obtain ⟨Z,u2,_⟩:=Q i (U i hl');obtain ⟨k,v1,v2,v3,v4⟩:=J.iR i (by grind);grind
 .by_cases y:i=m
  .subst y;rcases u i k f with ⟨_,e⟩|⟨e,_⟩
   .subst e;show qP w I k (d (.ay i));rw [sm];exact ⟨arr,z,a6,by rw [pK sz els hsz,harr];exact bI _ hc,a7,R⟩
   .omega
  .have hl':(eJ es (.ay i)).jb=true:=by grind
   obtain ⟨Z,u2,u3⟩:=Q i (U i hl');rcases u i k f with ⟨e,_⟩|⟨_,L⟩
   .exact absurd e y
   show qP w I k (d (.ay i));rw [sb i y];have E:=J.po L;have l:=q1 (.ay i);rw [Z] at l ⊢;cases H:σ (.ay i) with
   |dc t' cells=>
    rw [H] at E l u3;obtain ⟨arr',w1,w2,w3⟩:=E;exact ⟨arr',w1,w2,λj x v F h2=>(w3 j x v F h2).Me (BC l j x F) (qX u3 j x F) B⟩
   |mP s' pos=>rw [H] at E;exact E
   |iD X=>
    rw [H] at E l u3;cases X with
    |jq clock es'=>cases l
    |sZ k' since seen last=>
     obtain ⟨q,w1,w2⟩:=E;exact ⟨q,B _ _ (ki u3) w1,w2⟩
   |eY _ _=>rw [H] at l;cases l
   |kn=>rw [H] at l;cases l
   |_=>trivial
 .by_cases y:i=m
  .grind
  .have hi':(eJ es (.ay i)).jb=true:=by grind
   obtain ⟨Z,u2,_⟩:=Q i (U i hi');rcases u i k hik with ⟨e,_⟩|⟨_,L⟩
   .exact absurd e y
   by_cases hjm:j=m
   .grind
   .have hj':(eJ es (.ay j)).jb=true:=by grind
    obtain ⟨v1,v2,_⟩:=Q j (U j hj');rcases u j k hjk with ⟨e,_⟩|⟨_,hk''⟩
    .exact absurd e hjm
    exact J.np i j k (by grind) (by grind) L hk''
 .by_cases y:i=m
  .grind
  .have hY:d (.ay i)= .kh Y:=hY;rw [sb i y] at hY;obtain ⟨Z,_,_⟩:=Q i (by rw [hY];simp);rcases u i k f with ⟨e,_⟩|⟨_,L⟩
   .exact absurd e y
   exact J.pJ i Y k (by grind) L
 .by_cases hi2:i=s
  .subst hi2;show eH w I (jx d i) _;have e:jx d i= .eP m 0 sz els.length true:=by unfold jx;simp only [d,eJ];rw [lX]
   rw [e,hv];exact .oV (by simp [I]) (λ_=>rfl) rfl hc (λ_=>⟨rfl,rfl,bt',S⟩)
  .show eH w I (jx d i) _;have e:d (.ct i)=eJ es (.ct i):=by simp only [d,eJ];grind [g9]
   unfold jx;rw [e];rcases he.xJ (.ct i) with F|⟨F,_,h3⟩
   .rw [F];exact .nY
   .have O:=hf.oW i hi;have l:=q1 (.ct i);unfold jx at O;rw [F] at l ⊢;cases H:σ (.ct i) with
    |bg x=>rw [H] at O h3 l;exact O.Me l h3 B
    |_=>exact .nY
 .obtain ⟨Z,u2⟩:=W.jC k o f;grind
 .obtain ⟨Z,u2⟩:=W.oT i k f;exact ⟨B i k (by have:=t.OG i k f;omega) Z,u2⟩
 .have F:=t.IG i _ O;obtain ⟨bk',N',Z,u2,u3⟩:=W.zR i bk N O;grind
 .simp only [I] at O;split at O
  .exact W.zQ i k N O
  .cases O
end
section
variable {P:Program} {T:iw} {b:jL P} {t:se} {σ:eK} {D:Nat->Prop} {g:gX} {a:Act} {w:World}
theorem eH.Ek {g' m x v} (h:eH w g x v) (c:lh m x=true) (F:g'.fP=g.fP) (H:∀ i,i<m->g'.fk i=g.fk i) (I:∀ i,i<m->g'.gF i=g.gF i):eH w g' x v:=by
 induction h with
 |fJ h=>exact .fJ (by rw [F];exact h)
 |sd hl _ j=>
  simp only [lh] at c;exact .sd hl (λi x v d e=>j i x v d e (qX c i x d))
 |nR hl _ j=>
  simp only [lh] at c;exact .nR hl (λi x v d e=>j i x v d e (qX c i x d))
 |rr h=>simp only [lh] at c;exact .rr (by simp_all)
 |vu vals p h=>exact .vu vals (by rw [F];exact p) (by rw [F];exact h)
 |m7 h q=>
  refine .m7 (by rw [F];exact h) ?_;rename_i B _ _ _;cases B with
  |dm=>trivial
  |fW=>exact q
  |je id=>
   simp only [lh] at c;obtain ⟨k,N,d,e,l⟩:=q;exact ⟨k,N,by simp_all,e,l⟩
  |hJ id=>
   simp only [lh] at c;obtain ⟨k,N,d,e,l⟩:=q;exact ⟨k,N,by simp_all,e,l⟩
 |oV h p A hl y=>simp only [lh] at c;exact .oV (by simp_all) p A hl y
 |wD hl z _ _ r s=>
  simp only [lh] at c;rename_i u E _ _ _ _;cases f:sn m u with
  |false=>simp [f] at c
  |true=>
   simp only [f] at c;exact .wD hl z (λi x v d e=>r i x v d e (qX f i x d)) (λi x v d e=>s i x v d e (qX c i x d))
 |wE _ j=>
  simp only [lh] at c;exact .wE (j c)
 |vt h=>simp only [lh] at c;exact .vt (by simp_all)
 |wF h=>simp only [lh] at c;exact .wF (by simp_all)
 |uc h=>simp only [lh] at c;exact .uc (by simp_all)
 |nY=>exact .nY
theorem qP.Ma {g' m c X} (h:qP w g c X) (H:yM m X=true) (F:g'.fP=g.fP) (A:∀ i,i<m->g'.fk i=g.fk i) (B:∀ i,i<m->g'.gF i=g.gF i):qP w g' c X:=by
 cases X with
 |dc t cells=>
  obtain ⟨j,l,p,u⟩:=h;exact ⟨j,l,p,λi x v f E=>(u i x v f E).Ek (qX H i x f) F A B⟩
 |eY t cells=>
  obtain ⟨j,z,l,p,u,L⟩:=h;exact ⟨j,z,l,p,u,λi x v f E=>by grind⟩
 |mP s pos=>exact h
 |iD X=>
  cases X with
  |jq clock es=>
   obtain ⟨j,l,p,u⟩:=h;exact ⟨j,l,p,λi e x N f=>by grind⟩
  |sZ k y seen I=>
   obtain ⟨q,O,J⟩:=h;exact ⟨q,by grind [yM,ki],J⟩
 |kn st pend nt tm ps assign body=>
  obtain ⟨r,d⟩:=h;exact ⟨r,d.uQ,d.IC,d.IB,d.FH,d.DU,d.FF,d.FG,λx f=>⟨(d.yB x f).1,(d.yB x f).2.Ek (Pw H x f) F A B⟩⟩
 |_=>trivial
inductive Jf where
 |gO (v:b9)
 |wR (clock:Nat) (es:rD)
def VP (n:Nat):Jf->b9
 | .gO v=>v
 | .wR _ _=> .gi n
def uf (σ:eK) (m n:Nat) (es:List (fQ×gC)) (x:Jf):eK:=λl=>match l with
 | .ct i=>σ (.ct i)
 | .eT i=>match Nat.blt i m with|true=>eJ es (.eT i)|false=>σ (.eT i)
 | .ay i=>match Nat.blt i m with
  |true=>eJ es (.ay i)
  |false=>match x with
   | .gO _=>σ (.ay i)
   | .wR clock es=>match Nat.beq i n with|true=> .iD (.jq clock es)|false=>σ (.ay i)
def afK (m:Nat) (σ:eK) (v:b9):Jf->Prop
 | .gO r=>v=r/\lh m r=true
 | .wR clock es=>∃ k,m<=k/\v= .gi k/\σ (.ay k)= .iD (.jq clock es)
def yP:List (fQ×gC)->Bool
 |[]=>true
 |(_, .kh _)::_=>false
 |_::es=>yP es
theorem Mh:∀ {es:List (fQ×gC)},yP es=true->∀ l X,eJ es l≠ .kh X
 |[],_,l,X=>by simp [eJ]
 |(l',c)::es,h,l,X=>by
  rw [eJ]
  by_cases e:l=l'
  .subst e;rw [lX];intro d;subst d;cases h
  .rw [g9 e];refine Mh ?_ l X;cases c<;>first|exact h|cases h
def gP (m:Nat) (Q:Jf->List (fQ×gC)->Prop) (v:b9) (σ:eK) (c:Nat):Prop:=∃ x e,Q x e/\yP e=true/\afK m σ v x/\oJ σ m e
theorem oJ.Jg {m es} (f:oJ σ m es):∀ id,eJ es (.ay id)≠ .fB->eJ es (.ay id)=σ (.ay id)/\id<m/\yM m (σ (.ay id))=true:=λid e=>by
 rcases f.xJ (.ay id) with h|⟨h,c,d⟩
 .exact absurd h e
 .exact ⟨h,ki c,d⟩
theorem oJ.PO {m es} (d:oJ σ m es):∀ id,eJ es (.eT id)≠ .fB->eJ es (.eT id)=σ (.eT id)/\id<m:=λid e=>by
 rcases d.xJ (.eT id) with h|⟨h,c,f⟩
 .exact absurd h e
 .exact ⟨h,ki c⟩
theorem fl.Vy {m n:Nat} {es:List (fQ×gC)} {b:jL P} {g:gX} {w:World} (hw:oJ σ m es) (hpl:yP es=true) (s:fl b σ (·<n) g w):
  ∃ (x:Nat->Prop) (tr:∀ {w':World},sV x w.heap.size w w'->sV b.sU b.pH.heap.size b.pH w'),(∀ c,x c->b.wu c)/\(∀ id c,eJ es (.ay id)= .fB->(σ (.ay id)).jb=true->g.fk id=some c->¬x c)/\(∀ id t sz N c H,m<=id->σ (.eT id)= .eU t sz N->g.gF id=some (some c,H)->¬x c)/\(∀ k,k<b.pH.heap.size->¬b.sU k->¬x k)/\fl ⟨w,λk o=>g.fP k o/\¬x k,x,λw' B=>b.K3 w' (tr B),λk o p=>s.lv k o p.1,λ_ _ p=>p.2⟩ (eJ es) (·<m) (g.kH m) w:=by
 have u:∀ id c,(g.kH m).fk id=some c->g.fk id=some c/\id<m:=λid c d=>by
  simp only [gX.kH] at d;split at d
  .exact ⟨d,by assumption⟩
  .cases d
 have r:∀ id c,(g.kH m).gF id=some c->g.gF id=some c/\id<m:=λid c d=>by
  simp only [gX.kH] at d;split at d
  .exact ⟨d,by assumption⟩
  .cases d
 have L:∀ id,id<m->(g.kH m).fk id=g.fk id:=λid h=>by simp [gX.kH,h]
 have Q:∀ id,id<m->(g.kH m).gF id=g.gF id:=λid h=>by simp [gX.kH,h]
 have I:=hw.Jg;have hrw:=hw.PO;have v:∀ id,(eJ es (.ay id)).jb=true->eJ es (.ay id)≠ .fB:=λid q e=>by rw [e] at q;cases q
 let x:Nat->Prop:=λc=>(∃ id,(eJ es (.ay id)).jb=true/\g.fk id=some c)\/(∃ id t sz N H,eJ es (.eT id)= .eU t sz N/\g.gF id=some (some c,H))
 have l:∀ c,x c->b.wu c:=λc d=>by
  rcases d with ⟨id,y,A⟩|⟨id,t,sz,N,H,y,A⟩
  .obtain ⟨c',O,W,_⟩:=s.iR id (by rw [<-(I id (v id y)).1];exact y);rw [A] at O;cases O;exact W
  .obtain ⟨S,O,W⟩:=s.ln id t sz N (by grind);simp_all
 have E:∀ id c,eJ es (.ay id)= .fB->(σ (.ay id)).jb=true->g.fk id=some c->¬x c:=λid c hm q d he=>by
  rcases he with ⟨z,y,A⟩|⟨z,t,sz,N,H,y,A⟩
  .obtain ⟨J,U,_⟩:=I z (v z y);have:=s.np id z c q (by simp_all) d A;grind
  .obtain ⟨S,O,W⟩:=s.ln z t sz N (by grind);simp_all
 have R:∀ id t sz N c H,m<=id->σ (.eT id)= .eU t sz N->g.gF id=some (some c,H)->¬x c:=λid t sz N c H hm q d he=>by
  obtain ⟨S,O,W⟩:=s.ln id t sz N q;grind
 have f:∀ k,k<b.pH.heap.size->¬b.sU k->¬x k:=λk y A X=>by
  rcases l k X with h|h
  .omega
  .exact A h
 have tr:∀ {w':World},sV x w.heap.size w w'->sV b.sU b.pH.heap.size b.pH w':=fun {w'} B=>by
  have hsz:=s.jF.pZ;exact s.jF.Cy ⟨B.Ir,B.It,B.Is,B.pZ,λk p hn=>B.wv k om (f k p hn),λk p=>B.zN k om⟩
 refine ⟨x,tr,l,E,R,f,?_⟩;refine fl.qs (sV.K4 _ _ _) s.lv (λ_ _ p=>p.1) (λk o p _ B=>⟨p,B⟩) (λid c d=>(u id c d).2) (λid c d=>(r id c d).2) (λid c d=>s.ko id c (u id c d).1) (λid c N d=>s.mc id c N (r id _ d).1)
  (λid q=>?_) (λid c q d=>?_) (λi j k hi hj Z hcj=>?_) (λid Y c F _=>absurd F (Mh hpl _ _)) (λid t' sz N F=>?_)
 .obtain ⟨J,U,_⟩:=I id (v id q);obtain ⟨c,y,A,X,h4⟩:=s.iR id (by simp_all);exact ⟨c,by simp_all, .inr (.inl ⟨id,q,y⟩),X,h4⟩
 .obtain ⟨J,U,e3⟩:=I id (v id q);rw [J] at q ⊢;exact (s.po (u id c d).1).Ma e3 rfl L Q
 .obtain ⟨J,_,_⟩:=I i (v i hi);obtain ⟨U,_,_⟩:=I j (v j hj);exact s.np i j k (by simp_all) (by simp_all) (u _ _ Z).1 (u _ _ hcj).1
 .obtain ⟨J,U⟩:=hrw id (by rw [F];simp);obtain ⟨S,y,A⟩:=s.ln id t' sz N (by simp_all);refine ⟨S,by simp_all,λk p=>?_⟩;obtain ⟨b1,b2,b3,b4,b5,b6⟩:=A k p;refine ⟨.inr (.inr ⟨id,t',sz,N,N,F,by rw [y,p]⟩),b2,b3,λj q d=>?_,λj t'' sz'' M M' hj hr=>?_,b6⟩
  .grind
  grind
theorem fF.I9 {f:FuncId} {args:List b9} {m n:Nat} {K:b9->eK->Nat->Prop} {Q:Jf->List (fQ×gC)->Prop} {es:List (fQ×gC)} (hw:oJ σ m es) (hro:yP es=true) (hmn:m<=n) (hargs:sn m args=true)
  (h:fF P f args (eJ es) m (gP m Q)) (hK:∀ x es',Q x es'->K (VP n x) (uf σ m n es' x) (n+1)):fF P f args σ n K:=by
 refine ⟨h.wL,λb g w vals F hvl hv=>?_⟩;obtain ⟨ex,tr,exMine,hid0,R,notMine,hsim⟩:=F.Vy hw hro;have I:=λd c (hm:m<=d)=>hid0 d c (j3 λh=>absurd (hw.Jg d h).2.1 (by omega))
 have ownc:∀ d,d<m->(g.kH m).fk d=g.fk d:=λd h=>by simp [gX.kH,h]
 have rowc:∀ d,d<m->(g.kH m).gF d=g.gF d:=λd h=>by simp [gX.kH,h]
 refine (h.vC _ (g.kH m) w vals hsim hvl λi x v hx hv'=>(hv i x v hx hv').Ek (qX hargs i x hx) rfl ownc rowc).mono ?_;rintro e w' ⟨v,x,σ1,n1,g1,rfl,⟨y,es',hq,hro',hout,hw'⟩,hmn1,hrep,s,hE⟩;have hb1:=hw'.Jg;have hrw1:=hw'.PO;have isb1:∀ d,(eJ es' (.ay d)).jb=true->eJ es' (.ay d)≠ .fB:=λd A e=>by rw [e] at A;cases A
 have hsz:w.heap.size<=w'.heap.size:=hE.wA;have hfr:=F.sh;obtain ⟨kk,L⟩:∃ kk:Option Nat,(∀ c,kk=some c->∃ l O k,y= .wR l O/\m<=k/\σ1 (.ay k)= .iD (.jq l O)/\x= .gi k/\g1.fk k=some c)/\(∀ l O,y= .wR l O->kk≠none):=by
  cases y with
  |gO r=>exact ⟨none,(λc p=>by cases p),(λ_ _ p=>by cases p)⟩
  |wR l O=>
   obtain ⟨k,Z,q2,q3⟩:=hout;obtain ⟨c,q4,_⟩:=s.iR k (by rw [q3];rfl);exact ⟨some c,(λc' hc'=>⟨l,O,k,rfl,Z,q3,q2,by cases hc';exact q4⟩),(λ_ _ _=>by simp)⟩
 let g':gX:=⟨g1.fP,λi=>if i<m then g1.fk i else if i=n then kk else g.fk i,λi=>if i<m then g1.gF i else g.gF i⟩
 have go1:∀ i,i<m->g'.fk i=g1.fk i:=λi q=>by simp [g',q]
 have J:∀ i,i<m->g'.gF i=g1.gF i:=λi q=>by simp [g',q]
 have S:∀ i,m<=i->i≠n->g'.fk i=g.fk i:=λi q E=>by grind
 have gon:g'.fk n=kk:=by grind
 have gr2:∀ i,m<=i->g'.gF i=g.gF i:=λi q=>by grind
 have hF1:∀ c o,g1.fP c o->c<w.heap.size->¬ex c->g.fP c o:=λc o u H h3=>(s.oE c o u H h3).1
 have hC:zP g w g' w':=by
  refine ⟨hE.jC,λd c p=>?_,λd bk N W=>?_,λd c N W=>?_⟩
  .by_cases q:d<m
   .rw [go1 d q];exact hE.oT d c (by simp_all)
   .rw [S d om (λe=>by simp_all)];exact ⟨p,s.jF.zN c (F.ko d c p)⟩
  .by_cases q:d<m
   .rw [J d q];exact hE.zR d bk N (by simp_all)
   .rw [gr2 d om];exact ⟨bk,N,W,aq _,λ_=>⟨rfl,λc p=>s.jF.zN c (F.mc d c N (by rw [W,p]))⟩⟩
  .by_cases q:d<m
   .rw [J d q] at W;rcases hE.zQ d c N W with ⟨N0,u⟩|u
    .simp_all
    .exact .inr u
   simp_all
 have ob:∀ d,d<m->uf σ m n es' y (.ay d)=eJ es' (.ay d):=λd q=>by
  have:Nat.blt d m=true:=by simp_all
  simp only [uf,this]
 have ob2:∀ d,m<=d->d≠n->uf σ m n es' y (.ay d)=σ (.ay d):=λd q hne=>by
  have u:Nat.blt d m=false:=by
   grind [ki]
  have H:Nat.beq d n=false:=by
   grind [Nat.eq_of_beq_eq_true]
  simp only [uf,u];grind
 have obn:uf σ m n es' y (.ay n)=match y with| .gO _=>σ (.ay n)| .wR l O=> .iD (.jq l O):=by
  have u:Nat.blt n m=false:=by
   grind [ki]
  have H:Nat.beq n n=true:=Nat.beq_refl n;simp only [uf,u];cases y<;>simp only [H]
 have orr:∀ d,d<m->uf σ m n es' y (.eT d)=eJ es' (.eT d):=λd q=>by
  grind [Nat.blt_eq,uf]
 have orr2:∀ d,m<=d->uf σ m n es' y (.eT d)=σ (.eT d):=λd q=>by
  grind [ki,uf]
 have kind:∀ d c,(uf σ m n es' y (.ay d)).jb=true->g'.fk d=some c->
   (∃ k,(d<m/\k=d\/d=n/\m<=k)/\(σ1 (.ay k)).jb=true/\g1.fk k=some c/\uf σ m n es' y (.ay d)=σ1 (.ay k))\/(m<=d/\(σ (.ay d)).jb=true/\g.fk d=some c/\uf σ m n es' y (.ay d)=σ (.ay d)):=λd c A p=>by
  by_cases q:d<m
  .grind
  .by_cases E:d=n
   .subst E;rw [gon] at p;obtain ⟨l,O,k,e1,e2,e3,e4,e5⟩:=L.1 c p;subst e1;exact .inl ⟨k, .inr ⟨rfl,e2⟩,by rw [e3];rfl,e5,by rw [obn,e3]⟩
   .rw [ob2 d om E] at A ⊢;rw [S d om E] at p;exact .inr ⟨om,A,p,rfl⟩
 have new1:∀ k c,(σ1 (.ay k)).jb=true->g1.fk k=some c->w.heap.size<=c\/ex c:=λk c A p=>by
  obtain ⟨c',Z,q2,_⟩:=s.iR k A;rw [p] at Z;cases Z;exact q2
 have old1:∀ d c,m<=d->(σ (.ay d)).jb=true->g.fk d=some c->¬(w.heap.size<=c\/ex c):=λd c hm A p h=>by
  rcases h with h|h
  .have:=F.ko d c p;omega
  .exact I d c hm A p h
 have X:∀ c,w.heap.size<=c\/ex c->b.wu c:=λc h=>by
  rcases h with h|h
  .exact .inl (av F.jF.pZ h)
  .exact exMine c h
 have hout':fl b (uf σ m n es' y) (·<n+1) g' w':=by
  refine fl.qs (tr s.jF) s.lv (λk o hk=>(hE.jC k o (F.pq k o hk)).1) (λk o hk hlt hx=>F.oE k o (hF1 k o hk (aX hlt F.jF.pZ) (notMine k hlt hx)) hlt hx)
   (λd c p=>?_) (λd c p=>?_) (λd c p=>?_) (λd c N p=>?_) (λd A=>?_) (λd c A p=>?_) (λi j c q hj hci hcj=>?_) (λd Y c B p=>?_) (λd t' sz N B=>?_)
  .by_cases q:d<m
   .show d<n+1;omega
   .by_cases E:d=n
    .show d<n+1;omega
    .rw [S d om E] at p;have:=F.pI d c p;show d<n+1;omega
  .by_cases q:d<m
   .show d<n+1;omega
   .rw [gr2 d om] at p;have:=F.oF d c p;show d<n+1;omega
  .by_cases q:d<m
   .rw [go1 d q] at p;exact s.ko d c p
   .by_cases E:d=n
    .subst E;rw [gon] at p;obtain ⟨_,_,k,_,_,_,_,e5⟩:=L.1 c p;exact s.ko k c e5
    .rw [S d om E] at p;exact aX (F.ko d c p) hsz
  .by_cases q:d<m
   .rw [J d q] at p;exact s.mc d c N p
   .rw [gr2 d om] at p;exact aX (F.mc d c N p) hsz
  ·
   by_cases q:d<m
   .rw [ob d q] at A;obtain ⟨e1,_,_⟩:=hb1 d (isb1 d A);obtain ⟨c,u,H,h3,h4⟩:=s.iR d (by rw [<-e1];exact A);exact ⟨c,by rw [go1 d q];exact u,X c H,h3,h4⟩
   .by_cases E:d=n
    .subst E;cases y with
     |gO r=>
      rw [obn] at A;obtain ⟨c,u,_⟩:=F.iR d A;rw [hfr.1] at u;cases u
     |wR l O=>
      cases U:kk with
      |none=>exact absurd U (L.2 l O rfl)
      |some c=>
       obtain ⟨_,_,k,_,e2,e3,_,e5⟩:=L.1 c U;obtain ⟨c',u,H,h3,h4⟩:=s.iR k (by rw [e3];rfl);rw [e5] at u;cases u;exact ⟨c,by rw [gon,U],X c H,h3,h4⟩
    .rw [ob2 d om E] at A;obtain ⟨c,u,H,h3,h4⟩:=F.iR d A;refine ⟨c,by rw [S d om E];exact u,H,aX h3 hsz,λo ho=>h4 o (hF1 c o ho h3 (I d c om A u))⟩
  ·
   by_cases q:d<m
   .rw [ob d q] at A ⊢;obtain ⟨e1,_,e3⟩:=hb1 d (isb1 d A);rw [e1];exact (s.po (by rw [<-go1 d q];exact p)).Ma e3 rfl go1 J
   .by_cases E:d=n
    .subst E;rw [gon] at p;obtain ⟨l,O,k,e1,e2,e3,e4,e5⟩:=L.1 c p;subst e1;rw [obn];have:=s.po e5;rw [e3] at this;exact this
    .rw [ob2 d om E] at A ⊢;rw [S d om E] at p;exact (F.po p).Iu hC (s.jF.wv c (F.ko d c p) (I d c om A p))
  ·
   rcases kind i c q hci with ⟨k,u,H,h3,_⟩|⟨u,H,h3,_⟩<;>rcases kind j c hj hcj with ⟨k',h1',h2',h3',_⟩|⟨h1',h2',h3',_⟩
   .have:=s.np k k' c H h2' h3 h3';omega
   .exact absurd (new1 k c H h3) (old1 j c h1' h2' h3')
   .exact absurd (new1 k' c h2' h3') (old1 i c u H h3)
   .exact F.np i j c H h2' h3 h3'
  ·
   by_cases q:d<m
   .rw [ob d q] at B;exact absurd B (Mh hro' _ _)
   .by_cases E:d=n
    .subst E;rw [gon] at p;obtain ⟨l,O,k,e1,_⟩:=L.1 c p;subst e1;rw [obn] at B;cases B
    .rw [ob2 d om E] at B;rw [S d om E] at p;exact F.pJ d Y c B p
  ·
   by_cases q:d<m
   .rw [orr d q] at B;obtain ⟨e1,_⟩:=hrw1 d (by rw [B];simp);obtain ⟨bk,u,H⟩:=s.ln d t' sz N (by rw [<-e1];exact B);refine ⟨bk,by rw [J d q];exact u,λc p=>?_⟩;obtain ⟨b1,b2,b3,b4,b5,b6⟩:=H c p;refine ⟨X c b1,b2,b3,λj A hc'=>?_,λj t'' sz'' M M' hj W=>?_,b6⟩
    .rcases kind j c A hc' with ⟨k,Z,q2,q3,_⟩|⟨Z,q2,q3,_⟩
     .exact b4 k q2 q3
     .exact old1 j c Z q2 q3 b1
    .by_cases hjm:j<m
     .rw [orr j hjm] at hj;obtain ⟨e2,_⟩:=hrw1 j (by rw [hj];simp);exact b5 j t'' sz'' M M' (by rw [<-e2];exact hj) (by rw [<-J j hjm];exact W)
     .rw [orr2 j om] at hj;rw [gr2 j om] at W;exfalso;rcases b1 with b1|b1
      .have:=F.mc j c M' W;have:w.heap.size<=c:=b1;omega
      .exact R j t'' sz'' M c M' om hj W b1
   .rw [orr2 d om] at B;obtain ⟨bk,u,H⟩:=F.ln d t' sz N B;refine ⟨bk,by rw [gr2 d om];exact u,λc p=>?_⟩;obtain ⟨b1,b2,b3,b4,b5,arr,z,b6,b7⟩:=H c p;have hne:¬ex c:=R d t' sz N c N om B (by rw [u,p]);refine ⟨b1,aX b2 hsz,λo ho=>b3 o (hF1 c o ho b2 hne),λj A hc'=>?_,λj t'' sz'' M M' hj W=>?_,arr,z,(s.jF.wv c b2 hne).trans b6,b7⟩
    .rcases kind j c A hc' with ⟨k,Z,q2,q3,_⟩|⟨Z,q2,q3,_⟩
     .rcases new1 k c q2 q3 with h|h
      .omega
      .exact hne h
     .exact b4 j q2 q3
    .by_cases hjm:j<m
     .rw [orr j hjm] at hj;obtain ⟨e2,_⟩:=hrw1 j (by rw [hj];simp);obtain ⟨bk',Z,q2⟩:=s.ln j t'' sz'' M (by grind);rw [J j hjm] at W;rw [W] at Z;cases Z;exfalso;rcases (q2 c rfl).1 with h|h
      .have:w.heap.size<=c:=h;omega
      .exact hne h
     grind
 refine ⟨v,VP n y,uf σ m n es' y,n+1,g',rfl,hK y es' hq,aZ n,?_,hout',⟨hC,hE.wA,hE.yz,hE.wy⟩⟩;cases y with
 |gO r=>
  obtain ⟨rfl,W⟩:=hout;exact hrep.Ek W rfl go1 J
 |wR l O=>
  cases U:kk with
  |none=>exact absurd U (L.2 l O rfl)
  |some c=>
   obtain ⟨_,_,k,_,e2,e3,e4,e5⟩:=L.1 c U;subst e4;obtain ⟨c',Z,rfl⟩:=hrep.Bb;rw [e5] at Z;cases Z;exact .uc (by rw [gon,U])
end
section
variable {P:Program} {T:iw} {σ:eK}
structure VB (P:Program) (f:FuncId) (args:List b9) (R:b9->Prop):Prop where
 afQ:s5 P f
 afR:∀ (w:World) (F:Nat->Nat->Prop) (vals:List Value),sX P w->(∀ k o,F k o->k<w.heap.size)->vals.length=args.length->(∀ (i:Nat) (x:b9) (v:Value),args[i]? =some x->vals[i]? =some v->gb w F x v)->
  Calls P f vals.toArray w λe w'=>∃ v F' res,e= .returned v/\(Below w.heap.size w w'/\w.drawn<=w'.drawn)/\(∀ k o,F k o->F' k o)/\(∀ k o,F' k o->F k o\/(w.heap.size<=k/\k<w'.heap.size))/\R res/\gb w' F' res v
def VS (R:b9->Prop) (T:iw) (fn:Func) (e:Exit) (σ:eK) (c:Nat):Prop:=
 match e with
 | .normal=>match qY σ T fn.results.toList with|some v=>∃ r,R r/\CP mR σ (Br v) r|none=>False
 | .ret=>match qY σ T fn.results.toList with|some v=>∃ r,R r/\CP mR σ (Br v) r|none=>False
 |_=>False
end
section
variable {P:Program} {T:iw} {b:jL P} {σ:eK} {D:Nat->Prop} {g:gX} {w:World}
theorem fl.PJ (h:fl b σ D g w) (x):fl b (fc σ (.eT 0) (.bg x)) D g w:=by
 have f:=h.xy (.eT 0);refine fl.qs f.jF f.lv f.pq f.oE f.pI f.oF f.ko f.mc (λd l=>?_) (λd c l m=>?_) (λi j k p q=>?_) (λd Y c s m=>?_) (λd t z N s=>?_)
 .rw [g9 (by intro e;cases e)] at l;exact h.iR d l
 .rw [g9 (by intro e;cases e)] at l ⊢;exact h.po m
 .rw [g9 (by intro e;cases e)] at p q;exact h.np i j k p q
 .rw [g9 (by intro e;cases e)] at s;exact h.pJ d Y c s m
 .by_cases e:d=0
  .grind [lX]
  .have r:(fc σ (.eT 0) (.bg x)) (.eT d)=σ (.eT d):=g9 (by simp_all);rw [r] at s;obtain ⟨u,v,y⟩:=h.ln d t z N s;grind [g9,lX]
theorem fl.Mc (h:fl b σ D g w):fl b (fc σ (.eT 0) (.bg .ga)) D g w:=h.PJ _
theorem fl.Vz (h:fl b σ D g w):fl b (fc σ (.eT 1) (.bg .ga)) D g w:=by
 have f:=h.xy (.eT 1);refine fl.qs f.jF f.lv f.pq f.oE f.pI f.oF f.ko f.mc (λd l=>?_) (λd c l m=>?_) (λi j k p q=>?_) (λd Y c s m=>?_) (λd t z N s=>?_)
 .rw [g9 (by intro e;cases e)] at l;exact h.iR d l
 .rw [g9 (by intro e;cases e)] at l ⊢;exact h.po m
 .rw [g9 (by intro e;cases e)] at p q;exact h.np i j k p q
 .rw [g9 (by intro e;cases e)] at s;exact h.pJ d Y c s m
 .by_cases e:d=1
  .grind [lX]
  .have r:(fc σ (.eT 1) (.bg .ga)) (.eT d)=σ (.eT d):=g9 (by simp_all);rw [r] at s;obtain ⟨u,v,x⟩:=h.ln d t z N s;grind [g9,lX]
theorem fF.CR {f args n K} (h:fF P f args (fc σ (.eT 0) (.bg .ga)) n (λv σ' c=>K v (fc σ' (.eT 0) .fB) c)):fF P f args σ n K:=
 ⟨h.wL,λb g w l s q r=>(h.vC b g w l s.Mc q r).mono λ_ _ ⟨v,x,_,c,p,e,d,i,j,k,m⟩=>⟨v,x,_,c,p,e,d,i,j,k.xy _,m⟩⟩
theorem fF.PG {f args n K} (h:fF P f args (fc σ (.eT 1) (.bg .ga)) n (λv σ' c=>K v (fc σ' (.eT 1) .fB) c)):fF P f args σ n K:=
 ⟨h.wL,λb g w l s q r=>(h.vC b g w l s.Vz q r).mono λ_ _ ⟨v,x,_,c,p,e,d,i,j,k,m⟩=>⟨v,x,_,c,p,e,d,i,j,k.xy _,m⟩⟩
theorem iE.Ad {r nt l n c K} (h:iE P r nt l c (fc σ (.eT 0) (.bg .ga)) n K):iE P r nt l c σ n K:=
 ⟨λb t a w e s=>h.nM b t a w e (by
  obtain ⟨g,d,f,E,j⟩:=s;exact ⟨g,d.Mc,f.uU (λi=>by trivial),E,j⟩)⟩
theorem iE.PI {r nt l n c K} (h:iE P r nt l c (fc σ (.eT 0) .fB) n K):iE P r nt l c σ n K:=
 ⟨λb t a w e s=>h.nM b t a w e (by
  obtain ⟨g,d,f,E,j⟩:=s;exact ⟨g,d.xy _,f.uU (λi=>by trivial),E,j⟩)⟩
structure rE (P:Program) (f:FuncId) (args:List b9) (e:TypeId) (sz len:Nat) (cells:List b9):Prop where
 afO:s5 P f
 afP:∀ (w:World) (F:Nat->Nat->Prop) (vals:List Value),sX P w->(∀ k o,F k o->k<w.heap.size)->vals.length=args.length->(∀ (i:Nat) (x:b9) (v:Value),args[i]? =some x->vals[i]? =some v->gb w F x v)->
  Calls P f vals.toArray w λed w'=>∃ c cap F',ed= .returned (.slice (some ⟨c,0,none⟩) len cap)/\(Below w.heap.size w w'/\w.drawn<=w'.drawn)/\(∀ k o,F k o->F' k o)/\(∀ k o,F' k o->F k o\/(w.heap.size<=k/\k<w'.heap.size))/\
   w.heap.size<=c/\c<w'.heap.size/\(∀ o,¬F' c o)/\len<=cap/\(∃ t,w'.shape? c=some (t,cap*sz))/\qP w' ⟨F',λ_=>none,λ_=>none⟩ c (.eY e cells)
def VR (T:iw) (fn:Func) (e:TypeId) (sz len:Nat) (cells:List b9) (x:Exit) (σ:eK) (c:Nat):Prop:=
 match x with
 | .normal=>∃ k,qY σ T fn.results.toList=some [.eP k 0 sz len true]/\σ (.ay k)= .eY e cells
 | .ret=>∃ k,qY σ T fn.results.toList=some [.eP k 0 sz len true]/\σ (.ay k)= .eY e cells
 |_=>False
theorem VJ (args x):fc (sj args) (.eT 0) (.bg x)=CQ (fc (λ_=> .fB) (.eT 0) (.bg x)) args:=by
 funext l;cases l with
 |eT i=>cases i<;>rfl
 |_=>rfl
theorem afV (T fn e sz len cells) {x σ n} (h:VR T fn e sz len cells x σ n):yN T fn (λv σ _=>∃ k,v= .eP k 0 sz len true/\σ (.ay k)= .eY e cells) x σ n:=by
 cases x<;>first|exact h|(obtain ⟨k,c,d⟩:=h;simp only [yN,c];exact ⟨k,rfl,d⟩)
theorem rE.arc (B:jc P T) (W:P.follows .mixedOrders=true) {f fn c} (E:P.funcs[f]? =some fn) (j:fn.body=some c) (H:(fn.name== "runtime.NumGoroutine")=false) {args e sz len cells} (U:Nat.ble args.length fn.ntmps=true) (m:pN fn.ntmps fn.results.toList=true)
  (h:s7 P T none fn.ntmps 0 c (fc (sj args) (.eT 0) (.bg .ga)) 0 (VR T fn e sz len cells)):rE P f args e sz len cells:=by
 have h:=(wO B W _ _ _ _ h).OW λ_ _ _ q=>afV T fn e sz len cells q
 rw [VJ] at h;refine ⟨pL E j H,λw F N A y u X=>(fF.IR (fF.Bm B E j H U m h) w F A y (fl.LG w F A y).Mc u λi x v Y Z=> .fJ (X i x v Y Z)).mono ?_⟩;rintro _ w' ⟨v,x,σ',n',O,S,⟨k,rfl,d⟩,r,I,j,Q,R⟩;obtain ⟨c,p,ad,L,rfl,p3,p4,p5,p6⟩:=eH.qS r;obtain ⟨_,rfl,tt,s⟩:=p6 rfl;obtain ⟨c',J,l2,l3,l4⟩:=I.iR k (by rw [d];rfl);rw [L] at J;cases J;obtain ⟨l,z,m1,m2,m3,m4⟩:=I.sY k e cells c d L;exact ⟨c,p,O.fP,S,j,Q,R,l2.resolve_right (λh=>h),l3,l4,p5,⟨tt,s⟩,l,z,m1,m2,m3,m4⟩
theorem qx.xT {f args e sz len n cells} (hp:rE P f (vD args) e sz len cells) (p:vF args=true):qx P 0 f args σ n [] [(.ay n, .eY e cells)] (.eP n 0 sz len true):=by
 refine ⟨hp.afO,λU _ b D g w l _ h d I L hv=>?_⟩;refine (hp.afP w g.fP l h.DS h.lv (by grind [IV]) (λi x v hx O=>?_)).mono ?_
 .grind [I1,Gs]
 .rintro Y w' ⟨c,r,W,rfl,j,m,u,y,z,A,B,⟨S,E⟩,H⟩;have Q:=h.CA j.1 j.2 m u;have s:=h.A7 j.1 j.2 m;have R:=Q.K8 (f:=n) (c:=c) (X:= .eY e cells) d rfl (.inl (av h.jF.pZ y)) z A (λk Z F=>?_) (λk t sz N q hs J=>?_) ?_
  .refine ⟨_,_,rfl, .oV (gX.qR _ _ _) (λ_=>rfl) rfl B (λ_=>⟨rfl,rfl,S,E⟩),R,s.lF (iN.Iv d)⟩
  .have:=h.ko k c F;omega
  .have:=h.mc k c q J;omega
  trivial
theorem fF.Bv {f args e sz len n cells K} (hp:rE P f (vD args) e sz len cells) (p:vF args=true) (r:K (.eP n 0 sz len true) (fc σ (.ay n) (.eY e cells)) (n+1)):fF P f args σ n K:=by
 have h:=qx.xT (σ:=σ) (n:=n) hp p;refine ⟨h.D5,λb g w l s u x=>(h.D6 σ (λ_ h=>by cases h) b _ g w l (λi q=>by omega) s s.sh.1 s.sh.2 u x).mono ?_⟩;rintro y w' ⟨v,m,c,d,j,k⟩;exact ⟨v,_,_,n+1,m,c,r,aZ n,d,j.mQ (λi q=>by omega),k⟩
end
section
variable {P:Program} {T:iw} {b:jL P} {σ:eK} {D:Nat->Prop} {g:gX} {w:World}
def xV:List (fQ×gC)->Bool
 |[]=>true
 |(.ay i, .dc ..)::u=>(u.all λx=>!((fQ.ay i).CC x.1)) && xV u
 |(.ay i, .eY ..)::u=>(u.all λx=>!((fQ.ay i).CC x.1)) && xV u
 |_=>false
theorem Ji:∀ {es:List (fQ×gC)} {l:fQ},eJ es l≠ .fB->l∈es.map (·.1)
 |[],l,h=>absurd rfl h
 |(l',c)::es,l,h=>by
  by_cases e:l=l'
  .subst e;simp
  .rw [eJ,g9 e] at h;simp [Ji h]
theorem PU:∀ {es:List (fQ×gC)},xV es=true->(∀ l,(eJ es l= .fB\/((∃ i,l= .ay i)/\(eJ es l).jb=true)))/\(∀ l X,eJ es l≠ .kh X)/\(∀ (σ:eK) l,jP σ es l=match eJ es l with| .fB=>σ l|c=>c)/\∀ l,l∈es.map (·.1)->eJ es l≠ .fB
 |[],_=>⟨λl=> .inl rfl,λl X h=>(by cases h),λσ l=>rfl,λl k=>(by cases k)⟩
 |(y,c)::es,h=>by
  obtain ⟨i,m,d,A,p⟩:∃ i,y= .ay i/\c.jb=true/\(es.all λx=>!((fQ.ay i).CC x.1))=true/\xV es=true:=by
   unfold xV at h;split at h
   .trivial
   .rename_i i t s z q;cases q;rw [az] at h;exact ⟨i,rfl,rfl,h.1,h.2⟩
   .rename_i i t s z q;cases q;rw [az] at h;exact ⟨i,rfl,rfl,h.1,h.2⟩
   .cases h
  subst m;obtain ⟨r,u,v,B⟩:=PU p;have j:eJ es (.ay i)= .fB:=by
   grind [Ji,fQ.IA]
  refine ⟨λl=>?_,λl X f=>?_,λσ l=>?_,λl k=>?_⟩
  .by_cases e:l= .ay i
   .subst e;exact .inr ⟨⟨i,rfl⟩,by rw [eJ,lX];exact d⟩
   .rw [eJ,g9 e];exact r l
  .by_cases e:l= .ay i
   .subst e;rw [eJ,lX] at f;subst f;cases d
   .rw [eJ,g9 e] at f;exact u l X f
  .rw [jP,v]
   by_cases e:l= .ay i
   .subst e;rw [j,eJ,lX,lX];cases c<;>first|rfl|cases d
   .rw [eJ,g9 e,g9 e]
  .by_cases e:l= .ay i
   .subst e;rw [eJ,lX];intro e;rw [e] at d;cases d
   .rw [eJ,g9 e];grind
end
section
variable {P:Program} {T:iw} {b:jL P} {σ:eK} {D:Nat->Prop} {g:gX} {w:World}
def xU (σ:eK) (m:Nat) (es:List (fQ×gC)):eK:=λl=>match l with
 | .ct i=>σ (.ct i)
 | .eT i=>match Nat.blt i m with|true=>eJ es (.eT i)|false=>σ (.eT i)
 | .ay i=>match eJ es (.ay i) with| .fB=>σ (.ay i)|c=>c
def En (σ:eK):Nat->Bool
 |0=>true
 |k+1=>match σ (.ay k) with
  | .kh _=>false
  |_=>En σ k
theorem VN:∀ {m:Nat},En σ m=true->∀ i,i<m->∀ X,σ (.ay i)≠ .kh X
 |0,_,i,h,_=>absurd h (jZ _)
 |m+1,h,i,d,X=>by
  rw [En] at h;rcases bu i m with c|c
  .exact VN (by grind) i c X
  grind
theorem fF.xS {f:FuncId} {args:List b9} {m n:Nat} {K:b9->eK->Nat->Prop} {es es':List (fQ×gC)} {res:b9} (hw:oJ σ m es) (hpl:yP es=true) (hpl':yP es'=true) (hsame:∀ l,eJ es' l= .fB↔eJ es l= .fB) (hmn:m<=n) (hargs:sn m args=true) (hnr:En σ m=true)
  (h:fF P f args (eJ es) m (gP m (λx e=>x= .gO res/\e=es'))) (hK:K res (xU σ m es') n):fF P f args σ n K:=by
 refine ⟨h.wL,λb g w vals A hvl hv=>?_⟩;obtain ⟨ex,tr,exMine,F,R,notMine,hsim⟩:=A.Vy hw hpl;have hb:=hw.Jg;have S:=hsame;have ownc:∀ d,d<m->(g.kH m).fk d=g.fk d:=λd h=>by simp [gX.kH,h]
 have rowc:∀ d,d<m->(g.kH m).gF d=g.gF d:=λd h=>by simp [gX.kH,h]
 refine (h.vC _ (g.kH m) w vals hsim hvl λi x v hx hv'=>(hv i x v hx hv').Ek (qX hargs i x hx) rfl ownc rowc).mono ?_;rintro e w' ⟨v,v',σ1,n1,g1,rfl,⟨y,Q,⟨rfl,rfl⟩,_,⟨rfl,hres⟩,hw'⟩,hmn1,hrep,r,hE⟩;have hrw1:=hw'.PO;have hb1:=hw'.Jg;have hsz:w.heap.size<=w'.heap.size:=hE.wA;have hF1:∀ c o,g1.fP c o->c<w.heap.size->¬ex c->g.fP c o:=λc o B H I=>(r.oE c o B H I).1
 let g':gX:=⟨g1.fP,λi=>if i<m then g1.fk i else g.fk i,λi=>if i<m then g1.gF i else g.gF i⟩
 have W:∀ i,i<m->g'.fk i=g1.fk i:=λi p=>by simp [g',p]
 have J:∀ i,i<m->g'.gF i=g1.gF i:=λi p=>by simp [g',p]
 have go2:∀ i,m<=i->g'.fk i=g.fk i:=λi p=>by grind
 have gr2:∀ i,m<=i->g'.gF i=g.gF i:=λi p=>by grind
 have E:∀ i c,g.fk i=some c->g'.fk i=some c:=λi c q=>by
  by_cases p:i<m
  .rw [W i p];exact (hE.oT i c (by simp_all)).1
  simp_all
 have hC:zP g w g' w':=by
  refine ⟨hE.jC,λd c q=>⟨E d c q,?_⟩,λd bk N Z=>?_,λd c N Z=>?_⟩
  .by_cases p:d<m
   .exact (hE.oT d c (by simp_all)).2
   .exact r.jF.zN c (A.ko d c q)
  .by_cases p:d<m
   .rw [J d p];exact hE.zR d bk N (by simp_all)
   .rw [gr2 d om];exact ⟨bk,N,Z,aq _,λ_=>⟨rfl,λc q=>r.jF.zN c (A.mc d c N (by rw [Z,q]))⟩⟩
  .by_cases p:d<m
   .rw [J d p] at Z;rcases hE.zQ d c N Z with ⟨N0,B⟩|B
    .simp_all
    .exact .inr B
   simp_all
 have hnoro:∀ d Y,d<m->σ (.ay d)≠ .kh Y:=λd Y p=>VN hnr d p Y
 have og:∀ d,eJ es (.ay d)≠ .fB->xU σ m Q (.ay d)=σ1 (.ay d):=λd X=>by
  have L:eJ Q (.ay d)≠ .fB:=λe=>X ((S _).1 e)
  obtain ⟨e1,_,_⟩:=hb1 d L;rw [<-e1];show (match eJ Q (.ay d) with| .fB=>σ (.ay d)|c=>c)=eJ Q (.ay d);simp_all
 have on:∀ d,eJ es (.ay d)= .fB->xU σ m Q (.ay d)=σ (.ay d):=λd he=>by
  show (match eJ Q (.ay d) with| .fB=>σ (.ay d)|c=>c)=σ (.ay d);rw [(S _).2 he]
 have orr:∀ d,d<m->xU σ m Q (.eT d)=eJ Q (.eT d):=λd p=>by
  grind [Nat.blt_eq,xU]
 have orr2:∀ d,m<=d->xU σ m Q (.eT d)=σ (.eT d):=λd p=>by
  grind [ki,xU]
 have gv:∀ d,eJ es (.ay d)≠ .fB->d<m:=λd h=>(hb d h).2.1
 have O:∀ d c,(xU σ m Q (.ay d)).jb=true->g'.fk d=some c->(eJ es (.ay d)≠ .fB/\(σ1 (.ay d)).jb=true/\g1.fk d=some c)\/(eJ es (.ay d)= .fB/\(σ (.ay d)).jb=true/\g.fk d=some c):=λd c u q=>by
  by_cases p:eJ es (.ay d)= .fB
  .rw [on d p] at u;obtain ⟨c',B,_⟩:=A.iR d u;have:=E d c' B;rw [q] at this;cases this;exact .inr ⟨p,u,B⟩
  .rw [og d p] at u;rw [W d (gv d p)] at q;exact .inl ⟨p,u,q⟩
 have new1:∀ k c,(σ1 (.ay k)).jb=true->g1.fk k=some c->w.heap.size<=c\/ex c:=λk c u q=>by
  obtain ⟨c',q1,q2,_⟩:=r.iR k u;rw [q] at q1;cases q1;exact q2
 have old1:∀ d c,eJ es (.ay d)= .fB->(σ (.ay d)).jb=true->g.fk d=some c->¬(w.heap.size<=c\/ex c):=λd c hm u q h=>by
  rcases h with h|h
  .have:=A.ko d c q;omega
  .exact F d c hm u q h
 have mine1:∀ c,w.heap.size<=c\/ex c->b.wu c:=λc h=>by
  rcases h with h|h
  .exact .inl (av A.jF.pZ h)
  .exact exMine c h
 refine ⟨v,v',xU σ m Q,n,g',rfl,hK,aq n,hrep.Ek hres rfl W J,?_,⟨hC,hE.wA,hE.yz,hE.wy⟩⟩;refine fl.qs (tr r.jF) r.lv (λk o hk=>(hE.jC k o (A.pq k o hk)).1) (λk o hk hlt hx=>A.oE k o (hF1 k o hk (aX hlt A.jF.pZ) (notMine k hlt hx)) hlt hx)
   (λd c q=>?_) (λd c q=>?_) (λd c q=>?_) (λd c N q=>?_) (λd u=>?_) (λd c u q=>?_) (λi j c p hj hci hcj=>?_) (λd Y c s q=>?_) (λd t' sz N s=>?_)
 .by_cases p:d<m
  .show d<n;omega
  .rw [go2 d om] at q;exact A.pI d c q
 .by_cases p:d<m
  .show d<n;omega
  .rw [gr2 d om] at q;exact A.oF d c q
 .by_cases p:d<m
  .rw [W d p] at q;exact r.ko d c q
  .rw [go2 d om] at q;exact aX (A.ko d c q) hsz
 .by_cases p:d<m
  .rw [J d p] at q;exact r.mc d c N q
  .rw [gr2 d om] at q;exact aX (A.mc d c N q) hsz
 .by_cases p:eJ es (.ay d)= .fB
  .rw [on d p] at u;obtain ⟨c,B,H,I,h4⟩:=A.iR d u;exact ⟨c,E d c B,H,aX I hsz,λo ho=>h4 o (hF1 c o ho I (F d c p u B))⟩
  .rw [og d p] at u;obtain ⟨c,B,H,I,h4⟩:=r.iR d u;exact ⟨c,by rw [W d (gv d p)];exact B,mine1 c H,I,h4⟩
 .rcases O d c u q with ⟨p,H,I⟩|⟨p,H,I⟩
  .rw [og d p];have L:eJ Q (.ay d)≠ .fB:=λe=>p ((S _).1 e)
   exact (r.po I).Ma (hb1 d L).2.2 rfl W J
  .rw [on d p];exact (A.po I).Iu hC (r.jF.wv c (A.ko d c I) (F d c p H I))
 .rcases O i c p hci with ⟨B,H,I⟩|⟨B,H,I⟩<;>rcases O j c hj hcj with ⟨h1',h2',h3'⟩|⟨h1',h2',h3'⟩
  .exact r.np i j c H h2' I h3'
  .exact absurd (new1 i c H I) (old1 j c h1' h2' h3')
  .exact absurd (new1 j c h2' h3') (old1 i c B H I)
  .exact A.np i j c H h2' I h3'
 .by_cases p:eJ es (.ay d)= .fB
  .rw [on d p] at s
   by_cases hm:d<m
   .cases hgo:g.fk d with
    |some c0=>
     have:=E d c0 hgo;rw [q] at this;cases this;exact A.pJ d Y c s hgo
    |none=>exact absurd s (hnoro d Y hm)
   .rw [go2 d om] at q;exact A.pJ d Y c s q
  .exfalso;have L:eJ Q (.ay d)≠ .fB:=λe=>p ((S _).1 e)
   have s:(match eJ Q (.ay d) with| .fB=>σ (.ay d)|c=>c)= .kh Y:=s;cases hx:eJ Q (.ay d)<;>simp only [hx] at s<;>first|exact L hx|cases s
   exact Mh hpl' _ _ hx
 .by_cases p:d<m
  .rw [orr d p] at s;obtain ⟨e1,_⟩:=hrw1 d (by rw [s];simp);obtain ⟨bk,B,H⟩:=r.ln d t' sz N (by rw [<-e1];exact s);refine ⟨bk,by rw [J d p];exact B,λc q=>?_⟩;obtain ⟨b1,b2,b3,b4,b5,b6⟩:=H c q;refine ⟨mine1 c b1,b2,b3,λj u hc'=>?_,λj t'' U M M' hj Z=>?_,b6⟩
   .rcases O j c u hc' with ⟨q1,q2,q3⟩|⟨q1,q2,q3⟩
    .exact b4 j q2 q3
    .exact old1 j c q1 q2 q3 b1
   .by_cases hjm:j<m
    .rw [orr j hjm] at hj;obtain ⟨e2,_⟩:=hrw1 j (by rw [hj];simp);exact b5 j t'' U M M' (by rw [<-e2];exact hj) (by rw [<-J j hjm];exact Z)
    .rw [orr2 j om] at hj;rw [gr2 j om] at Z;exfalso;rcases b1 with b1|b1
     .have:=A.mc j c M' Z;have:w.heap.size<=c:=b1;omega
     .exact R j t'' U M c M' om hj Z b1
  .rw [orr2 d om] at s;obtain ⟨bk,B,H⟩:=A.ln d t' sz N s;refine ⟨bk,by rw [gr2 d om];exact B,λc q=>?_⟩;obtain ⟨b1,b2,b3,b4,b5,arr,z,b6,b7⟩:=H c q;have X:¬ex c:=R d t' sz N c N om s (by rw [B,q]);refine ⟨b1,aX b2 hsz,λo ho=>b3 o (hF1 c o ho b2 X),λj u hc'=>?_,λj t'' U M M' hj Z=>?_,arr,z,(r.jF.wv c b2 X).trans b6,b7⟩
   .rcases O j c u hc' with ⟨q1,q2,q3⟩|⟨q1,q2,q3⟩
    .rcases new1 j c q2 q3 with h|h
     .omega
     .exact X h
    .exact b4 j q2 q3
   .by_cases hjm:j<m
    .rw [orr j hjm] at hj;obtain ⟨e2,_⟩:=hrw1 j (by rw [hj];simp);obtain ⟨bk',q1,q2⟩:=r.ln j t'' U M (by grind);rw [J j hjm] at Z;rw [Z] at q1;cases q1;exfalso;rcases (q2 c rfl).1 with h|h
     .have:w.heap.size<=c:=h;omega
     .exact X h
    grind
theorem fF.L8 {f args m n K es res} (j:oJ σ m es) (p:yP es=true) (c:m<=n) (r:sn m args=true) (d:En σ m=true)
  (h:fF P f args (eJ es) m (gP m (λx e=>x= .gO res/\e=es))) (i:K res (xU σ m es) n):fF P f args σ n K:=
 fF.xS j p p (λ_=>j2) c r d h i
def Em:List (fQ×gC)->Bool
 |[]=>true
 |(_, .fB)::_=>false
 |_::es=>Em es
theorem VO:∀ {es:List (fQ×gC)},Em es=true->∀ {l:fQ},l∈es.map (·.1)->eJ es l≠ .fB
 |[],_,_,h=>by cases h
 |(j,c)::es,d,l,h=>by
  have f:c≠ .fB:=by intro e;subst e;cases d
  have i:Em es=true:=by cases c<;>first|exact d|cases d
  by_cases e:l=j
  .subst e;rw [eJ,lX];exact f
  .rw [eJ,g9 e];refine VO i ?_;simp_all
theorem yQ {es es'} (h:es'.map (·.1)=es.map (·.1)) (c:Em es=true) (d:Em es'=true) (l):eJ es' l= .fB↔eJ es l= .fB:=by
 grind [VO,Ji]
end
section
variable {P:Program} {T:iw} {b:jL P} {σ:eK} {D:Nat->Prop} {g:gX} {w:World}
structure yO (P:Program) (f:FuncId) (args:List b9) (nil:Bool) (sz:Nat) (els:List (List b9)):Prop where
 PK:s5 P f
 PL:∀ (w:World) (F:Nat->Nat->Prop) (vals:List Value),sX P w->(∀ k o,F k o->k<w.heap.size)->vals.length=args.length->(∀ (i:Nat) (x:b9) (v:Value),args[i]? =some x->vals[i]? =some v->gb w F x v)->
  Calls P f vals.toArray w λed w'=>∃ ad F',ed= .returned (.slice ad els.length els.length)/\(Below w.heap.size w w'/\w.drawn<=w'.drawn)/\(∀ k o,F k o->F' k o)/\(∀ k o,F' k o->F k o\/(w.heap.size<=k/\k<w'.heap.size))/\
   gb w' F' (.a8 nil sz els .dm) (.slice ad els.length els.length)
def VT (T:iw) (fn:Func) (i:Bool) (sz:Nat) (els:List (List b9)) (e:Exit) (σ:eK) (c:Nat):Prop:=
 match e with
 | .normal=>qY σ T fn.results.toList=some [.a8 i sz els .fW]
 | .ret=>qY σ T fn.results.toList=some [.a8 i sz els .fW]
 |_=>False
theorem afW (T fn i sz els) {e σ n} (h:VT T fn i sz els e σ n):yN T fn (λv _ _=>v= .a8 i sz els .fW) e σ n:=by
 cases e<;>first|exact h|(simp only [yN];rw [show qY σ T fn.results.toList=_ from h];rfl)
theorem yO.ard (s:jc P T) (L:P.follows .mixedOrders=true) {f fn c} (u:P.funcs[f]? =some fn) (d:fn.body=some c) (y:(fn.name== "runtime.NumGoroutine")=false) {args l sz els} (J:Nat.ble args.length fn.ntmps=true) (e:pN fn.ntmps fn.results.toList=true)
  (h:s7 P T none fn.ntmps 0 c (fc (sj args) (.eT 0) (.bg .fU)) 0 (VT T fn l sz els)):yO P f args l sz els:=by
 have h:=(wO s L _ _ _ _ h).OW λ_ _ _ q=>afW T fn l sz els q
 rw [VJ] at h;refine ⟨pL u d y,λw F z m k j N=>(fF.IR (fF.Bm s u d y J e h) w F m k ((fl.LG w F m k).PJ _) j λi x v O Q=> .fJ (N i x v O Q)).mono ?_⟩;rintro _ w' ⟨v,x,S,W,B,I,rfl,r,U,d,E,H⟩;obtain ⟨A,c,rfl,R,p⟩:=eH.nq r;have p:c=els.length:=p;subst p;exact ⟨A,B.fP,I,d,E,H,R⟩
theorem qx.Bx {f args l sz n els} (hp:yO P f (vD args) l sz els) (p:vF args=true):qx P 0 f args σ n [] [] (.a8 l sz els .fW):=by
 refine ⟨hp.PK,λz _ b D g w s _ h m q u E=>?_⟩;refine (hp.PL w g.fP s h.DS h.lv (by grind [IV]) (λi x v H y=>?_)).mono ?_
 .grind [I1,Gs]
 .rintro B w' ⟨A,e,rfl,c,d,j,k⟩;exact ⟨_,{g with fP:=e},rfl, .m7 k rfl,(h.CA c.1 c.2 d j).mQ (λ_ r=> .inl r),h.A7 c.1 c.2 d⟩
theorem fF.L9 {f args l sz n els K} (hp:yO P f (vD args) l sz els) (p:vF args=true) (m:K (.a8 l sz els .fW) σ n):fF P f args σ n K:=by
 refine ⟨hp.PK,λb g w s h q z=>?_⟩;refine (hp.PL w g.fP s h.DS h.lv (by grind [IV]) (λi x v A r=>?_)).mono ?_
 .grind [I1,Gs]
 .rintro y w' ⟨u,e,rfl,c,d,j,k⟩;exact ⟨_,_,σ,n,{g with fP:=e},rfl,m,aq n, .m7 k rfl,h.CA c.1 c.2 d j,h.A7 c.1 c.2 d⟩
end
end Go.Am
