import Derived.MapKept
import Derived.Maps.RangeRun
import Derived.Test.YtffboamedcmpaaaGreatDoorCc
set_option linter.all false
set_option maxHeartbeats 4000000
set_option maxRecDepth 100000
namespace Go.Am
open Go.RowKit
section
variable {P:Program} {T:cN} {b:ek P} {σ:az} {D:Nat->Prop} {g:cf} {a:Act} {w w':World}
theorem kj.xS (c:Nat) (w:World):kj c w w:=⟨rfl,rfl,rfl,rfl,λ_ _=>rfl,rfl,λ_ h=>h,rfl⟩
theorem db.Rg {r:Option Nat} {nt lo n:Nat} {c:Code} {K:Exit->az->Nat->Prop} (k:Nat) (e:TypeId) {bt:TypeId} {x0:ae} {isNil:Bool} (hs:σ (.af k)= .au bt [x0, .ag isNil 1 [] .bR])
  (h:db P r nt lo c (aU (aU σ (.aJ n) (.aN e 1 0)) (.af k) (.au bt [x0, .ag isNil 1 [] (.cO n)])) (n+1) K):db P r nt lo c σ n K:=by
 refine ⟨λb tp a w h0 hsim=>?_⟩;obtain ⟨g,hh,hf,hE,hn⟩:=hsim;obtain ⟨h1,h2⟩:=hh.Cf (t:=e) (sz:=1) (N:=0) hh.nX.2;have h3:bh b (aU σ (.aJ n) (.aN e 1 0)) (·<n+1) (g.lP n 0) w:=h1.iU (λi hi=>by omega);have hbk:(aU σ (.aJ n) (.aN e 1 0)) (.af k)= .au bt [x0, .ag isNil 1 [] .bR]:=by trivial
 obtain ⟨c',hc',_⟩:=h3.dq k (by rw [hbk];rfl);obtain ⟨arr,ha1,ha2,ha3⟩:=h3.nS k bt _ c' hbk hc';have hrow:(g.lP n 0).cu n=some (none,0):=by simp [cf.lP]
 obtain ⟨h4,_⟩:=h3.j8 (X:= .au bt [x0, .ag isNil 1 [] (.cO n)]) (by rw [hbk];rfl) hc' (kj.xS c' w) (λ_=>⟨arr,ha1,ha2,λi x v hx hv=>by
  match i,hx with
  |0,hx=>grind
  |1,hx=>
   simp at hx;subst hx;have hr:=ha3 1 _ v rfl hv;obtain ⟨ad,c'',rfl,h5,h6⟩:=hr.jj;exact .jc h5 ⟨none,0,hrow,Nat.le_refl _,λ_=> .inl ⟨h6,rfl⟩⟩
  |i+2,hx=>simp at hx⟩)
 refine h.jG b tp a w h0 ⟨_,h4,⟨hf.mN,hf.nW,λi hi=>?_⟩,hE.gD h2,om⟩;have e1:dV (aU (aU σ (.aJ n) (.aN e 1 0)) (.af k) (.au bt [x0, .ag isNil 1 [] (.cO n)])) i=dV σ i:=by
  trivial
 rw [e1];exact (hf.kI i hi).kG h2
theorem bz.Rb {f:FuncId} (hE:oP P f) {k n:Nat} {bt:TypeId} {x0 x1:ae} {K:ae->az->Nat->Prop} (hs:σ (.af k)= .au bt [x0,x1]) (hx0:x0= .bU\/x0= .ar k 0)
  (hc:∀ (w:World) (c:Nat) (p u:Value),w.heap[c]? =some (.cells [p,u].toArray bt (0,0))->(p= .pointer none\/p= .pointer (some ⟨c,0,none⟩))->Calls P f #[.pointer (some ⟨c,0,none⟩)] w λe w'=>e= .returned (.tuple #[])/\kj c w w'/\w'.heap[c]? =some (.cells [.pointer (some ⟨c,0,none⟩),u].toArray bt (0,0)))
  (hk:K (.aw []) (aU σ (.af k) (.au bt [.ar k 0,x1])) n):bz P f [.ar k 0] σ n K:=by
 refine ⟨hE,λb g w vals h hl hv=>?_⟩
 match vals,hl with
 |[v],_=>
  obtain ⟨c,hc',e⟩:=(hv 0 _ v rfl rfl).qU;subst e;obtain ⟨arr,ha1,ha2,ha3⟩:=h.nS k bt _ c hs hc'
  match arr,ha2 with
  |[p,u],_=>
   have hp:p= .pointer none\/p= .pointer (some ⟨c,0,none⟩):=by
    have hr:=ha3 0 _ p rfl rfl;rcases hx0 with rfl|rfl
    ·exact .inl hr.Ho
    grind [hr.qU]
   refine (hc w c p u ha1 hp).mono ?_;rintro e w' ⟨rfl,hw,hh⟩;have hlive:(σ (.af k)).dw=true:=by rw [hs];rfl
   have hEv:dp g w g w':=dp.pC hw (λo=>by obtain ⟨c',q1,_,_,q2⟩:=h.dq k hlive;simp_all);obtain ⟨k1,k2⟩:=h.j8 (X:= .au bt [.ar k 0,x1]) hlive hc' hw (λ_=>⟨_,hh,rfl,λi x v hx hv=>by
    match i,hx with
    |0,hx=>
     simp at hx hv;subst hx hv;exact .ni hc'
    |1,hx=>
     simp at hx hv;subst hx hv;exact (ha3 1 _ _ rfl rfl).kG hEv
    |i+2,hx=>simp at hx⟩)
   exact ⟨_,_,_,n,g,rfl,hk,Nat.le_refl _, .jN rfl (λi x v hx=>by simp at hx),k1,k2⟩
theorem bh.Ri (h:bh b σ D g w) {id c N sz:Nat} {t:TypeId} (hs:σ (.aJ id)= .aN t sz N) (hr:g.cu id=some (some c,N)) (hw:kj c w w') (hcell:∀ o,w'.cell? ⟨c,o,none⟩=w.cell? ⟨c,o,none⟩):
  bh b (aU σ (.aJ id) .bq) D g w'/\dp g w g w':=by
 obtain ⟨bk,h1,h2⟩:=h.fA id t sz N hs;have:bk=some c:=by simp_all
 subst this;obtain ⟨a1,a2,a3,a4,a5,_⟩:=h2 c rfl;have hE:dp g w g w':=⟨⟨λk o hk=>⟨hk,by
  by_cases hkc:k=c
  ·grind
  ·exact hw.KF hkc⟩,λ_ c hc=>⟨hc,hw.Cr c⟩,λ_ bk N h=>⟨bk,N,h,Nat.le_refl _,λ_=>⟨rfl,λc _=>hw.Cr c⟩⟩,λ_ _ N h=> .inl ⟨N,h⟩⟩,Nat.le_of_eq hw.me.symm,Nat.le_of_eq hw.ES.symm,hw.KG⟩
 have e0:∀ i,(aU σ (.aJ id) .bq) (.af i)=σ (.af i):=λi=>cL (by intro e;cases e)
 have er:∀ i t' sz' N',(aU σ (.aJ id) .bq) (.aJ i)= .aN t' sz' N'->i≠id/\σ (.aJ i)= .aN t' sz' N':=λi t' sz' N' hh=>by
  grind [gY,cL]
 refine ⟨bh.lQ (h.dU.xl (.Ky hw a1)) (λk o hk=>by rw [hw.me];exact h.fU k o hk) h.kY h.kh h.lu h.ki (λid c hc=>by rw [hw.me];exact h.eU id c hc) (λid c N hc=>by rw [hw.me];exact h.gV id c N hc)
  (λid' hl'=>by rw [hw.me];exact h.dq id' (by trivial)) (λid' c'' hl' hc''=>?_) (λi j k hi hj=>h.iT i j k (by trivial) (by trivial)) (λi Y k hs hk=>h.lv i Y k (by trivial) hk) (λid' t' sz' N' hs'=>?_),hE⟩
 ·rw [e0] at hl' ⊢;exact (h.kF hc'').Aq hE (hw.rX c'' (λe=>a4 id' hl' (e▸hc'')))
 ·obtain ⟨hne,hs''⟩:=er _ _ _ _ hs';obtain ⟨bk,h1',h2'⟩:=h.fA id' t' sz' N' hs'';refine ⟨bk,h1',λk hk=>?_⟩;obtain ⟨b1,b2,b3,b4,b5,arr,z,b6,b7⟩:=h2' k hk;have hkc:k≠c:=λe=>hne (a5 id' t' sz' N' N' hs'' (by rw [h1',hk,e]))
  exact ⟨b1,by rw [hw.me];exact b2,b3,λj hl=>b4 j (by trivial),λj t'' sz'' M M' hj hr'=>b5 j t'' sz'' M M' (er _ _ _ _ hj).2 hr',arr,z,(hw.rX k hkc).trans b6,b7⟩
def eu (s:List UInt8):List (List ae):=s.map λc=>[.aa .u8 c.toNat]
theorem jY (s:List UInt8):(eu s).length=s.length:=by simp [eu]
theorem Rp {s:List UInt8} {i:Nat} {c:UInt8} (h:s[i]? =some c):(eu s)[i]? =some [.aa .u8 c.toNat]:=by grind [eu]
theorem bz.Z6 {f:FuncId} (hE:oP P f) {k id n:Nat} {bt e:TypeId} {x0:ae} {isNil:Bool} {s:List UInt8} {K:ae->az->Nat->Prop} (hs:σ (.af k)= .au bt [x0, .ag isNil 1 (eu s) (.cO id)]) (hrw:σ (.aJ id)= .aN e 1 s.length) (hnil:s=[]->isNil=true)
  (hc0:s=[]->∀ (w:World) (c:Nat) (p:Value),w.heap[c]? =some (.cells [p, .slice none 0 0].toArray bt (0,0))->Calls P f #[.pointer (some ⟨c,0,none⟩)] w λe w'=>e= .returned (.string ⟨[].toArray⟩)/\(Below w.heap.size w w'/\w.drawn<=w'.drawn))
  (hc1:s≠[]->∀ (w:World) (c r cap:Nat) (p:Value),w.heap[c]? =some (.cells [p, .slice (some ⟨r,0,none⟩) s.length cap].toArray bt (0,0))->w.shape? r=some (e,cap)->s.length<=cap->(∀ j x,s[j]? =some x->w.cell? ⟨r,j,none⟩=some (.int .u8 x.toNat))->
   Calls P f #[.pointer (some ⟨c,0,none⟩)] w λe w'=>e= .returned (.string ⟨s.toArray⟩)/\∃ w1,(Below w.heap.size w w1/\w.drawn<=w1.drawn)/\w1.heap=w.heap/\kj r w1 w'/\∀ o,w'.cell? ⟨r,o,none⟩=w1.cell? ⟨r,o,none⟩)
  (hk:K (.ai s) (aU σ (.aJ id) .bq) n):bz P f [.ar k 0] σ n K:=by
 refine ⟨hE,λb g w vals h hl hv=>?_⟩
 match vals,hl with
 |[v],_=>
  obtain ⟨c,hc',ev⟩:=(hv 0 _ v rfl rfl).qU;subst ev;obtain ⟨arr,ha1,ha2,ha3⟩:=h.nS k bt _ c hs hc'
  match arr,ha2 with
  |[p,u],_=>
   obtain ⟨ad,cap,rfl,hp,bk,N,t1,t2,t3⟩:=(ha3 1 _ u rfl rfl).jj;obtain ⟨bk',q1,q2⟩:=h.fA id e 1 s.length hrw;rw [t1] at q1;obtain ⟨rfl,rfl⟩:bk=bk'/\N=s.length:=by simp_all
   have t4:=t3 (jY s)
   by_cases h0:s=[]
   ·subst h0;have hn:=hnil rfl;subst hn;cases hp with
    |iK vals' hnl hcc _ _ _ _=>
     cases ad with
     |some ad=>cases hnl
     |none=>
      rcases t4 with ⟨rfl,_⟩|⟨_,_,_,hh,_⟩
      ·refine (hc0 rfl w c p ha1).mono ?_;rintro e w' ⟨rfl,hb⟩;obtain ⟨k1,k2⟩:=h.pE hb.1 hb.2;exact ⟨_,_,_,n,g,rfl,hk,Nat.le_refl _, .bC (.gX rfl),k1.s7 (.aJ id),k2⟩
      ·cases hh
   ·have hpos:0<s.length:=List.length_pos_iff.2 h0;rcases t4 with ⟨_,hz⟩|⟨r,tt,rfl,rfl,hsh⟩
    ·grind [jY]
    ·obtain ⟨a1,a2,a3,a4,a5,arr',z,a6,a7⟩:=q2 r rfl;have hte:tt=e/\arr'.length=cap*1:=by
      grind [World.shape?]
     obtain ⟨rfl,hal⟩:=hte;rw [jY] at ha1;cases hp with
     |iK vals' hnl hcc hsz ha hone hr=>
      have hcells:∀ j x,s[j]? =some x->w.cell? ⟨r,j,none⟩=some (.int .u8 x.toNat):=λj x hj=>by
       have hb:=Rp hj;obtain ⟨blk,base,eq,_,hcl⟩:=ha j _ 0 _ hb rfl;cases eq;have hrr:=hr j _ 0 _ hb rfl;rw [show 0+j*1+0=j by omega] at hcl;rw [hcl];generalize vals' j 0=y at hrr;cases hrr;rfl
      refine (hc1 h0 w c r cap p ha1 (by grind) (by grind [jY]) hcells).mono ?_;rintro e w' ⟨rfl,w1,hb1,hh1,hw1,hcell⟩;obtain ⟨k1,k2⟩:=h.pE hb1.1 hb1.2;obtain ⟨k3,k4⟩:=k1.Ri hrw t1 hw1 hcell;exact ⟨_,_,_,n,g,rfl,hk,Nat.le_refl _, .bC (.gX rfl),k3,k2.gD k4⟩
theorem CN.Rk {f:FuncId} (hE:oP P f) {k id:Nat} {bt e:TypeId} {x0:ae} {isNil:Bool} {s:List UInt8} (hs:σ (.af k)= .au bt [x0, .ag isNil 1 (eu s) (.cO id)]) (hrw:σ (.aJ id)= .aN e 1 s.length) (hnil:s=[]->isNil=true)
  (hc0:s=[]->∀ (w:World) (c:Nat) (p:Value),w.heap[c]? =some (.cells [p, .slice none 0 0].toArray bt (0,0))->Calls P f #[.pointer (some ⟨c,0,none⟩)] w λe w'=>e= .returned (.string ⟨[].toArray⟩)/\(Below w.heap.size w w'/\w.drawn<=w'.drawn))
  (hc1:s≠[]->∀ (w:World) (c r cap:Nat) (p:Value),w.heap[c]? =some (.cells [p, .slice (some ⟨r,0,none⟩) s.length cap].toArray bt (0,0))->w.shape? r=some (e,cap)->s.length<=cap->(∀ j x,s[j]? =some x->w.cell? ⟨r,j,none⟩=some (.int .u8 x.toNat))->
   Calls P f #[.pointer (some ⟨c,0,none⟩)] w λe w'=>e= .returned (.string ⟨s.toArray⟩)/\∃ w1,(Below w.heap.size w w1/\w.drawn<=w1.drawn)/\w1.heap=w.heap/\kj r w1 w'/\∀ o,w'.cell? ⟨r,o,none⟩=w1.cell? ⟨r,o,none⟩):CN P f [.ar k 0] σ [.af k, .aJ id] [(.aJ id, .bq)] (.ai s):=by
 refine ⟨hE,λσ' he b D g w vals h hl hv=>?_⟩;have hs:σ' (.af k)= .au bt [x0, .ag isNil 1 (eu s) (.cO id)]:=(he _ (by simp)).trans hs;have hrw:σ' (.aJ id)= .aN e 1 s.length:=(he _ (by simp)).trans hrw
 match vals,hl with
 |[v],_=>
  obtain ⟨c,hc',ev⟩:=(hv 0 _ v rfl rfl).qU;subst ev;obtain ⟨arr,ha1,ha2,ha3⟩:=h.nS k bt _ c hs hc'
  match arr,ha2 with
  |[p,u],_=>
   obtain ⟨ad,cap,rfl,hp,bk,N,t1,t2,t3⟩:=(ha3 1 _ u rfl rfl).jj;obtain ⟨bk',q1,q2⟩:=h.fA id e 1 s.length hrw;rw [t1] at q1;obtain ⟨rfl,rfl⟩:bk=bk'/\N=s.length:=by simp_all
   have t4:=t3 (jY s)
   by_cases h0:s=[]
   ·subst h0;have hn:=hnil rfl;subst hn;cases hp with
    |iK vals' hnl hcc _ _ _ _=>
     cases ad with
     |some ad=>cases hnl
     |none=>
      rcases t4 with ⟨rfl,_⟩|⟨_,_,_,hh,_⟩
      ·refine (hc0 rfl w c p ha1).mono ?_;rintro e w' ⟨rfl,hb⟩;obtain ⟨k1,k2⟩:=h.pE hb.1 hb.2;exact ⟨_,g,rfl, .bC (.gX rfl),k1.s7 (.aJ id),k2⟩
      ·cases hh
   ·have hpos:0<s.length:=List.length_pos_iff.2 h0;rcases t4 with ⟨_,hz⟩|⟨r,tt,rfl,rfl,hsh⟩
    ·grind [jY]
    ·obtain ⟨a1,a2,a3,a4,a5,arr',z,a6,a7⟩:=q2 r rfl;have hte:tt=e/\arr'.length=cap*1:=by
      grind [World.shape?]
     obtain ⟨rfl,hal⟩:=hte;rw [jY] at ha1;cases hp with
     |iK vals' hnl hcc hsz ha hone hr=>
      have hcells:∀ j x,s[j]? =some x->w.cell? ⟨r,j,none⟩=some (.int .u8 x.toNat):=λj x hj=>by
       have hb:=Rp hj;obtain ⟨blk,base,eq,_,hcl⟩:=ha j _ 0 _ hb rfl;cases eq;have hrr:=hr j _ 0 _ hb rfl;rw [show 0+j*1+0=j by omega] at hcl;rw [hcl];generalize vals' j 0=y at hrr;cases hrr;rfl
      refine (hc1 h0 w c r cap p ha1 (by grind) (by grind [jY]) hcells).mono ?_;rintro e w' ⟨rfl,w1,hb1,hh1,hw1,hcell⟩;obtain ⟨k1,k2⟩:=h.pE hb1.1 hb1.2;obtain ⟨k3,k4⟩:=k1.Ri hrw t1 hw1 hcell;exact ⟨_,g,rfl, .bC (.gX rfl),k3,k2.gD k4⟩
end
section
variable {P:Program} {T:cN} {b:ek P} {t:nU} {σ:az} {D:Nat->Prop} {g:cf} {a:Act} {w:World}
theorem db.Ft {r:Option Nat} {nt lo n:Nat} {c:Code} {K:Exit->az->Nat->Prop} (k:Nat) (e:TypeId) (sz:Nat) {bt:TypeId} {isNil:Bool} (hs:σ (.af k)= .au bt [.ag isNil 1 [] .bR])
  (h:db P r nt lo c (aU (aU σ (.aJ n) (.aN e sz 0)) (.af k) (.au bt [.ag isNil sz [] (.cO n)])) (n+1) K):db P r nt lo c σ n K:=by
 refine ⟨λb tp a w h0 hsim=>?_⟩;obtain ⟨g,hh,hf,hE,hn⟩:=hsim;obtain ⟨h1,h2⟩:=hh.Cf (t:=e) (sz:=sz) (N:=0) hh.nX.2;have h3:bh b (aU σ (.aJ n) (.aN e sz 0)) (·<n+1) (g.lP n 0) w:=h1.iU (λi hi=>by omega);have hbk:(aU σ (.aJ n) (.aN e sz 0)) (.af k)= .au bt [.ag isNil 1 [] .bR]:=by trivial
 obtain ⟨c',hc',_⟩:=h3.dq k (by rw [hbk];rfl);obtain ⟨arr,ha1,ha2,ha3⟩:=h3.nS k bt _ c' hbk hc';have hrow:(g.lP n 0).cu n=some (none,0):=by simp [cf.lP]
 obtain ⟨h4,_⟩:=h3.j8 (X:= .au bt [.ag isNil sz [] (.cO n)]) (by rw [hbk];rfl) hc' (kj.xS c' w) (λ_=>⟨arr,ha1,ha2,λi x v hx hv=>by
  match i,hx with
  |0,hx=>
   simp at hx;subst hx;have hr:=ha3 0 _ v rfl hv;obtain ⟨ad,c'',rfl,h5,h6⟩:=hr.jj;exact .jc ((iL.eR isNil 1 sz).pH _ _ _ h5) ⟨none,0,hrow,Nat.le_refl _,λ_=> .inl ⟨h6,rfl⟩⟩
  |i+1,hx=>simp at hx⟩)
 refine h.jG b tp a w h0 ⟨_,h4,⟨hf.mN,hf.nW,λi hi=>?_⟩,hE.gD h2,om⟩;have e1:dV (aU (aU σ (.aJ n) (.aN e sz 0)) (.af k) (.au bt [.ag isNil sz [] (.cO n)])) i=dV σ i:=by
  trivial
 rw [e1];exact (hf.kI i hi).kG h2
def LJ (σ:az) (nt:Nat):List (Nat×ae)->Prop
 |[]=>True
 |(i,v)::l=>dV σ i=v/\Nat.blt i nt=true/\LJ σ nt l
theorem LJ.Rl {nt:Nat}:∀ {l:List (Nat×ae)},LJ σ nt l->∀ x∈l,dV σ x.1=x.2/\x.1<nt
 |[],_,x,h=>by cases h
 |(i,v)::l,⟨h1,h2,h3⟩,x,h=>by
  rcases List.mem_cons.1 h with rfl|h
  ·simp_all
  ·exact h3.Rl x h
theorem FB {c:Nat} {r r':Loop} (h:w.heap[c]? =some (.loop r)):kj c w (w.putObj c (.loop r')):=by
 have hlt:c<w.heap.size:=(Array.getElem?_eq_some_iff.1 h).1;refine ⟨rfl,rfl,rfl,World.putObj_size,λk hk=>World.putObj_heap_other hk,?_,λds hd=>(by simp_all),rfl⟩;grind [World.shape?,World.putObj_heap_same]
def Rs (K:Exit->az->Nat->Prop) (σ:az) (n:Nat):Option Code->Prop
 |none=>K .normal σ n
 |some .ret=>K .ret σ n
 |some (.exit id)=>K (.exit id) σ n
 |some (.goto l)=>K (.goto l) σ n
 |_=>False
def Ry (k:Nat) (σ:az) (K:Exit->az->Nat->Prop) (_v:ae) (σ':az) (n':Nat):Prop:=match σ' (.af k) with
 | .eZ st pend _ _ _ _ _=>match st with
  | .busy=>False
  |_=>Rs K (iM σ (aU σ' (.af k) .bq)) n' pend
 |_=>False
theorem Rq {n0:Nat}:∀ {l:List Deferred},zg n0 w l->∀ e∈l,e.target≠ .collected w.heap.size
 |[],_,e,h=>by cases h
 |d::ds,⟨⟨r,h1,h2,h3,h4⟩,hm⟩,e,he=>by
  rcases List.mem_cons.1 he with rfl|he
  ·grind
  ·exact Rq hm e he
theorem db.Fs {nt lo n:Nat} {fo:Operand} {ps:Array Tmp} {assign body:Code} {K:Exit->az->Nat->Prop} (tm:List (Nat×ae)) (hw:LJ σ nt tm) {f:FuncId} {first captured:List ae} (ho:xM nt fo=true) (hf:aM σ fo= .aP f first captured)
  (h:bz P f (first++(.cw n::captured)) (aU σ (.af n) (.eZ .ready none nt tm ps.toList assign body)) (n+1) (Ry n σ K)):db P none nt lo (.rangeFunc fo ps assign body) σ n K:=by
 refine ⟨λb t a w h0 hs=>?_⟩;obtain ⟨g,hh,hfs,hE,hn⟩:=hs;have hfr:aF w g (.aP f first captured) (a.eval fo):=by
  rcases hfs.KW fo with h1|⟨i,rfl,hi⟩
  ·rwa [hf] at h1
  ·have:=eH ho;omega
 obtain ⟨vs,us,e1,l1,l2,r1,r2⟩:=hfr.y7;refine wpIn_rangeFunc λfn _=>?_
 let rec0:Loop:={state:= .ready,pending:=none,fn,tmps:=a.tmps,params:=ps,assign,body,defers:=w.heap.size}
 let w1:=(w.alloc (.deferred (some []))).alloc (.loop rec0)
 have hsz1:w1.heap.size=w.heap.size+2:=by show ((w.heap.push _).push _).size=_;simp
 have hdf:w1.heap[w.heap.size]? =some (.deferred (some [])):=(Below.heap_alloc _ _ _ (by simp)).trans (World.alloc_heap_new w _);have hlp:w1.heap[w.heap.size+1]? =some (.loop rec0):=by
  grind [World.alloc_heap_new]
 have hb1:Below w.heap.size w w1:=((Below.refl _ w).alloc (Nat.le_refl _) _).alloc (by simp) _;obtain ⟨hg1,hE1⟩:=hh.pE hb1;have hown0:g.aZ n=none:=hh.nX.1;have hadd:=hg1.Hj (f:=n) (c:=w.heap.size+1) (X:= .eZ .ready none nt tm ps.toList assign body) hown0 rfl (.inl (by have:=hh.dU.kX;omega)) om
  (λo ho=>by have:=hh.fU _ _ ho;omega) (λid hl e=>by have:=hh.eU id _ e;omega) (λid t' sz N N' hs e=>by have:=hh.gV id _ _ e;omega)
  ⟨rec0,hlp,rfl,rfl,hfs.mN,rfl,rfl,rfl,λx hx=>by
   obtain ⟨q1,q2⟩:=hw.Rl x hx;refine ⟨q2,?_⟩;have:=hfs.kI x.1 q2;rw [q1] at this;exact this.kG hE1⟩
 have hput:dp g w1 (g.oM n (w.heap.size+1)) w1:=dp.EE hown0;have hE2:dp g w (g.oM n (w.heap.size+1)) w1:=hE1.gD hput;have hadd':bh b (aU σ (.af n) (.eZ .ready none nt tm ps.toList assign body)) (·<n+1) (g.oM n (w.heap.size+1)) w1:=hadd.iU λi hi=>by omega
 refine ⟨w.heap.size+1,[{target:= .collected w.heap.size,args:=#[]}],w1,{target:= .fn (.func f) us.toArray,args:=vs.toArray++#[.func (.yield (w.heap.size+1)) #[] #[]]},w1,f,
  (vs++(.func (.yield (w.heap.size+1)) #[] #[]::us)).toArray,w1,run_enterLoop_outer _ _ _ _ _,?_,λ_ _=>trivial,?_,zk none 0,?_⟩
 ·simp only [resolve,e1];simp [Deferred.ofValue,Act.eval]
 ·simp only [invoke];rw [h.r9];simp_all
 refine CP ((h.q8 b (g.oM n (w.heap.size+1)) w1 (vs++(.func (.yield (w.heap.size+1)) #[] #[]::us)) hadd' (by simp [l1,l2])
  (Lf l1 (λi x v hx hv=>(r1 i x v hx hv).kG hE2) (λi x v hx hv=>by
   cases i with
   |zero=>simp at hx hv;subst hx hv;exact .rW (cf.mJ _ _ _)
   |succ i=>exact (r2 i x v (by simpa using hx) (by simpa using hv)).kG hE2))).mono ?_)
 rintro e w2 ⟨v,x,σ',n',g',rfl,hk,hnn,hrep,h',hE'⟩;unfold Ry at hk;have hc:g'.aZ n=some (w.heap.size+1):=(hE'.kE n _ (cf.mJ _ _ _)).1;cases hbk:σ' (.af n) with
 |eZ st pend nt' tm' ps' as' bo'=>
  simp only [hbk] at hk;obtain ⟨r,hr⟩:=h'.y5 n st pend nt' tm' ps' as' bo' _ hbk hc;have hend:st≠ .busy->(Instr.endLoop (w.heap.size+1)).run P w2= .ok pend (w2.putObj (w.heap.size+1) (.loop {r with state:= .exhausted})):=λhb=>by
   grind [run_endLoop,hr.qi,hr.EL,hr.EK]
  obtain ⟨hw3,hE3⟩:=h'.j8 (X:= .bq) (by rw [hbk];rfl) hc (FB (r':={r with state:= .exhausted}) hr.qi) (λh=>by cases h);have fin:∀ e,K e (iM σ (aU σ' (.af n) .bq)) n'->∃ σ'' n'',K e σ'' n''/\nY b t nt σ'' n'' {a with defers:=[{target:= .collected w.heap.size,args:=#[]}]++a.defers} (w2.putObj (w.heap.size+1) (.loop {r with state:= .exhausted})):=by
   intro e hk;have hEE:=(hE2.gD hE').gD hE3;refine ⟨_,n',hk,g',hw3.CK,⟨hfs.mN,⟨⟨w.heap.size,rfl,hE.rR,(hE'.gD hE3).rQ _ _ hdf,Rq hfs.nW⟩,hfs.nW.H6 hEE.rQ⟩,λi hi=>(hfs.kI i hi).kG hEE⟩,hE.gD hEE,om⟩
  have go:∀ (c:Code) (e:Exit),(∀ Q:Exit->Act->World->Prop,∀ a w,Q e a w->c.wpIn (nr none) 0 P Q a w)->K e (iM σ (aU σ' (.af n) .bq)) n'->c.wpIn (nr none) 0 P (λe a' w'=>∃ σ' n',K e σ' n'/\nY b t nt σ' n' a' w') {a with defers:=[{target:= .collected w.heap.size,args:=#[]}]++a.defers} (w2.putObj (w.heap.size+1) (.loop {r with state:= .exhausted})):=
   λc e hc hk=>hc _ _ _ (fin e hk)
  have main:st≠ .busy->Rs K (iM σ (aU σ' (.af n) .bq)) n' pend->rangePost (nr none) 0 P (w.heap.size+1) (λe a' w'=>∃ σ' n',K e σ' n'/\nY b t nt σ' n' a' w') {a with defers:=[{target:= .collected w.heap.size,args:=#[]}]++a.defers} (.returned v) w2:=by
   intro hb hk;refine ⟨pend,_,hend hb,?_⟩;cases pend with
   |none=>exact fin .normal hk
   |some c=>
    cases c with
    |ret=>exact go .ret .ret (λ_ _ _ h=>wpIn_ret h) hk
    |exit id=>exact go (.exit id) (.exit id) (λ_ _ _ h=>wpIn_exit h) hk
    |goto l=>exact go (.goto l) (.goto l) (λ_ _ _ h=>wpIn_goto h) hk
    |_=>exact hk.elim
  grind
 |_=>simp_all
def A2:List (Nat×ae)->Nat->bs
 |[],_=> .bq
 |(i,v)::l,j=>match Nat.beq i j with|true=> .ah v|false=>A2 l j
def Fy:List Nat->List ae->az->az
 |p::ps,v::vs,σ=>Fy ps vs (aU σ (.aj p) (.ah v))
 |_,_,σ=>σ
def LN (σ:az) (tm:List (Nat×ae)) (ps:List Nat) (args:List ae):az:=Fy ps args (λl=>match l with| .aj i=>A2 tm i|l=>σ l)
def IE (nt:Nat):List Nat->Bool
 |[]=>true
 |p::ps=>match Nat.blt p nt with|true=>IE nt ps|false=>false
theorem Rt:∀ (l:List (Nat×ae)) (i:Nat),A2 l i= .bq\/∃ v,(i,v)∈l/\A2 l i= .ah v
 |[],_=> .inl rfl
 |(j,v)::l,i=>by
  simp only [A2];cases h:Nat.beq j i with
  |true=>simp_all
  |false=>
   rcases Rt l i with h1|⟨v',h1,h2⟩
   ·exact .inl h1
   simp_all
theorem LK:∀ (ps:List Nat) (vs:List ae) (σ:az) (l:aS),(∀ i,l≠ .aj i)->Fy ps vs σ l=σ l
 |p::ps,v::vs,σ,l,h=>by rw [Fy,LK ps vs _ l h,cL (h p)]
 |[],_,_,_,_=>by trivial
 |_::_,[],_,_,_=>rfl
theorem Rn {nt:Nat}:∀ (ps:List Nat) (vs:List ae) (us:List Value) (σ:az) (tmps:Array Value),vs.length=ps.length->us.length=ps.length->IE nt ps=true->tmps.size=nt->(∀ i,i<nt->aF w g (dV σ i) (tmps.getD i undef))->
  (∀ (i:Nat) (x:ae) (v:Value),vs[i]? =some x->us[i]? =some v->aF w g x v)->((ps.zip us).foldl (λtmps (x:Nat×Value)=>tmps.setIfInBounds x.1 x.2) tmps).size=nt/\∀ i,i<nt->aF w g (dV (Fy ps vs σ) i) (((ps.zip us).foldl (λtmps (x:Nat×Value)=>tmps.setIfInBounds x.1 x.2) tmps).getD i undef)
 |[],vs,us,σ,tmps,hl,hm,_,hs,h,_=>by
  trivial
 |p::ps,v::vs,u::us,σ,tmps,hl,hm,hp,hs,h,hr=>by
  simp only [IE] at hp;cases hb:Nat.blt p nt with
  |false=>simp [hb] at hp
  |true=>
   simp only [hb] at hp;have hlt:=eH hb;refine Rn ps vs us _ (tmps.setIfInBounds p u) (by simpa using hl) (by simpa using hm) hp (by simp [hs]) (λi hi=>?_) (λi x y hx hy=>hr (i+1) x y (by simpa using hx) (by simpa using hy))
   by_cases hip:i=p
   ·subst hip;rw [C3];have:(tmps.setIfInBounds i u).getD i undef=u:=by simp [hs,hlt]
    rw [this];exact hr 0 v u rfl rfl
   ·rw [wg (by grind)];have:(tmps.setIfInBounds p u).getD i undef=tmps.getD i undef:=by simp [Array.getElem?_setIfInBounds_ne (λe=>hip e.symm)]
    simp_all
 |_::_,[],_,_,_,hl,_,_,_,_,_=>by simp at hl
 |_::_,_::_,[],_,_,_,hm,_,_,_,_=>by simp at hm
def Ro (k:Nat) (K:ae->az->Nat->Prop) (e:Exit) (σ:az) (n:Nat):Prop:=match σ (.af k) with
 | .eZ .busy _ nt tm ps assign body=>match e with
  | .normal=>K .bN (aU σ (.af k) (.eZ .ready none nt tm ps assign body)) n
  | .ret=>K .bo (aU σ (.af k) (.eZ .done (some .ret) nt tm ps assign body)) n
  | .exit id=>K .bo (aU σ (.af k) (.eZ .done (some (.exit id)) nt tm ps assign body)) n
  | .goto l=>K .bo (aU σ (.af k) (.eZ .done (some (.goto l)) nt tm ps assign body)) n
  |_=>False
 |_=>False
def Rm (P:Program) (T:cN) (r:Option Nat) (nt0 lo k:Nat) (body:Code) (K:ae->az->Nat->Prop) (e:Exit) (σ:az) (n:Nat):Prop:=match e with
 | .normal=>match σ (.af k) with
  | .eZ .ready pend nt tm ps assign body'=>oR P T r nt0 lo body (aU σ (.af k) (.eZ .busy pend nt tm ps assign body')) n (Ro k K)
  |_=>False
 |_=>False
theorem CH.Fu (hT:dA P T) (hm:P.follows .mixedOrders=true) {k n nt:Nat} {args:List ae} {K:ae->az->Nat->Prop} {pend:Option Code} {tm:List (Nat×ae)} {ps:List Nat} {assign body:Code} (hb:σ (.af k)= .eZ .ready pend nt tm ps assign body)
  (hl:args.length=ps.length) (hps:IE nt ps=true) (h:∀ l,oR P T (some l) nt n assign (LN σ tm ps args) n (Rm P T (some l) nt n k body K)):CH P k args σ n K:=by
 refine ⟨λb g w c vals hs hc hvl hv=>?_⟩;obtain ⟨r,hr⟩:=hs.y5 k _ _ _ _ _ _ _ c hb hc;have hy:(Instr.yield c vals.toArray).run P w= .ok (.round c r.fn ((r.params.zip vals.toArray).foldl (λtmps (t,a)=>tmps.setIfInBounds t a) r.tmps) r.assign r.body) w:=
  run_yield hr.qi (by grind [hr.Aw])
 refine ⟨r.fn,_,_,_,hy,?_⟩;rw [hr.Cg,hr.Ch];have hpl:ps.length=vals.length:=om;have hfold:(r.params.zip vals.toArray).foldl (λtmps (t,a)=>tmps.setIfInBounds t a) r.tmps=(ps.zip vals).foldl (λtmps (x:Nat×Value)=>tmps.setIfInBounds x.1 x.2) r.tmps:=by
  grind [Array.toList_zip,hr.Aw]
 rw [hfold];have hsim0:bh b (LN σ tm ps args) (·<n) g w:=hs.sZ (λid=>LK _ _ _ _ (λi e=>by cases e)) (λid=>LK _ _ _ _ (λi e=>by cases e));obtain ⟨hsz,hrep⟩:=Rn (w:=w) (g:=g) (nt:=nt) ps args vals (λl=>match l with| .aj i=>A2 tm i|l=>σ l) r.tmps hl om hps hr.Ci (λi hi=>by
  show aF w g (match A2 tm i with| .ah x=>x|_=> .bV) _;rcases Rt tm i with h1|⟨v,h1,h2⟩
  ·rw [h1];exact .jV
  ·rw [h2];exact (hr.uE (i,v) h1).2) hv
 generalize (ps.zip vals).foldl (λtmps (x:Nat×Value)=>tmps.setIfInBounds x.1 x.2) r.tmps=tmps at hsz hrep ⊢
 let t:nU:=⟨g,w,n,(λid c hc=>hs.lu id c hc),(λid x hx=>hs.ki id x hx)⟩
 have hsim:nY b t nt (LN σ tm ps args) n {tmps:=tmps,defers:=[]} w:=⟨g,hsim0,⟨hsz,trivial,hrep⟩,dp.qg _ _,Nat.le_refl _⟩;refine roundIn_of_wpIn trivial ?_;refine wpIn_mono ((se hT hm assign _ _ _ (h c)).jG b t _ w (Nat.le_refl n) hsim) ?_;rintro e a1 w1 ⟨σ1,n1,hk,g1,h1,hf1,hE1,hn1⟩;unfold Rm at hk;cases e with
 |normal=>
  simp only at hk;have hc1:g1.aZ k=some c:=(hE1.kE k _ hc).1;cases hbk:σ1 (.af k) with
  |eZ st pend' nt' tm' ps' as' bo'=>
   simp only [hbk] at hk;cases st with
   |ready=>
    simp only at hk;obtain ⟨r1,hr1⟩:=h1.y5 k _ _ _ _ _ _ _ c hbk hc1;have hlt1:c<w1.heap.size:=(Array.getElem?_eq_some_iff.1 hr1.qi).1;obtain ⟨h2,hE2⟩:=h1.j8 (X:= .eZ .busy pend' nt' tm' ps' as' bo') (by rw [hbk];rfl) hc1 (FB (r':={r1 with state:= .busy}) hr1.qi) (λ_=>
     have hE:=dp.pC (g:=g1) (FB (r':={r1 with state:= .busy}) hr1.qi) (λo=>by obtain ⟨c',q1,_,_,q2⟩:=h1.dq k (by rw [hbk];rfl);simp_all)
     ⟨{r1 with state:= .busy},World.putObj_heap_same hlt1,rfl,hr1.EK,hr1.Ci,hr1.Aw,hr1.Cg,hr1.Ch,λx hx=>⟨(hr1.uE x hx).1,(hr1.uE x hx).2.kG hE⟩⟩)
    refine ⟨_,run_beginRound hr1.qi hr1.EL,?_⟩;have hsim2:nY b t nt (aU σ1 (.af k) (.eZ .busy pend' nt' tm' ps' as' bo')) n1 a1 (w1.putObj c (.loop {r1 with state:= .busy})):=
     ⟨g1,h2,⟨hf1.mN,hf1.nW.H6 hE2.rQ,λi hi=>by
      show aF _ _ (dV (aU σ1 (.af k) _) i) _;rw [wg (by simp)];exact (hf1.kI i hi).kG hE2⟩,hE1.gD hE2,hn1⟩
    refine wpIn_mono ((se hT hm body _ _ _ hk).jG b t _ _ (Nat.le_refl n) hsim2) ?_;rintro e a3 w3 ⟨σ3,n3,hk3,g3,h3,hf3,hE3,hn3⟩;have hc3:g3.aZ k=some c:=(hE3.kE k _ hc).1;unfold Ro at hk3;cases hbk3:σ3 (.af k) with
    |eZ st3 pend3 nt3 tm3 ps3 as3 bo3=>
     simp only [hbk3] at hk3;cases st3 with
     |busy=>
      simp only at hk3;obtain ⟨r3,hr3⟩:=h3.y5 k _ _ _ _ _ _ _ c hbk3 hc3;have hlt3:c<w3.heap.size:=(Array.getElem?_eq_some_iff.1 hr3.qi).1;have fin:∀ (jump:Option Code) (x:ae) (st:LoopState),st=(if jump.isNone then .ready else .done)->aF (w3.putObj c (.loop {r3 with state:=st,pending:=jump})) g3 x (.bool jump.isNone)->K x (aU σ3 (.af k) (.eZ st jump nt3 tm3 ps3 as3 bo3)) n3->
        ∃ v w',(Instr.endRound c jump).run P w3= .ok v w'/\∃ v' x σ' n' g',Ending.returned v= .returned v'/\K x σ' n'/\n<=n'/\aF w' g' x v'/\bh b σ' (·<n') g' w'/\dp g w g' w':=by
       intro jump x st hst hx hK;have hrun:=run_endRound (P:=P) jump hr3.qi;rw [<-hst] at hrun;obtain ⟨h4,hE4⟩:=h3.j8 (X:= .eZ st jump nt3 tm3 ps3 as3 bo3) (by rw [hbk3];rfl) hc3 (FB (r':={r3 with state:=st,pending:=jump}) hr3.qi) (λ_=>
        have hE:=dp.pC (g:=g3) (FB (r':={r3 with state:=st,pending:=jump}) hr3.qi) (λo=>by obtain ⟨c',q1,_,_,q2⟩:=h3.dq k (by rw [hbk3];rfl);simp_all)
        ⟨{r3 with state:=st,pending:=jump},World.putObj_heap_same hlt3,rfl,rfl,hr3.Ci,hr3.Aw,hr3.Cg,hr3.Ch,λx hx=>⟨(hr3.uE x hx).1,(hr3.uE x hx).2.kG hE⟩⟩)
       exact ⟨_,_,hrun,_,x,_,n3,g3,rfl,hK,hn3,hx,h4,hE3.gD hE4⟩
      cases e with
      |normal=>exact fin none .bN .ready rfl (.bC .rS) hk3
      |ret=>exact fin (some .ret) .bo .done rfl (.bC .qj) hk3
      |exit id=>exact fin (some (.exit id)) .bo .done rfl (.bC .qj) hk3
      |goto l=>exact fin (some (.goto l)) .bo .done rfl (.bC .qj) hk3
      |_=>exact hk3.elim
     |_=>exact hk3.elim
    |_=>simp_all
   |_=>exact hk.elim
  |_=>simp_all
 |_=>exact hk.elim
end
section
variable {P:Program} {σ:az}
theorem aao {w:World} {g:cf} {x:ae} {v u:Value} (h:aF w g x v) (hu:C5 x=some u):v=u:=by
 cases h with
 |bC h=>exact LB h hu
 |_=>cases hu
theorem LQ {w:World} {g:cf}:∀ {args:List ae} {us vals:List Value},tD args=some us->vals.length=args.length->(∀ (i:Nat) (x:ae) (v:Value),args[i]? =some x->vals[i]? =some v->aF w g x v)->vals=us
 |[],us,vals,h,hl,_=>by
  grind [tD]
 |x::l,us,[],h,hl,_=>by simp at hl
 |x::l,us,v::vals,h,hl,hv=>by
  simp only [tD] at h;cases h1:C5 x with
  |none=>simp [h1] at h
  |some u=>
   cases h2:tD l with
   |none=>simp [h1,h2] at h
   |some m=>
    simp only [h1,h2,Option.some.injEq] at h;subst h;rw [aao (hv 0 x v rfl rfl) h1,LQ h2 (by simpa using hl) (λi=>hv (i+1))]
theorem K0.aai {f:FuncId} (hE:oP P f) {k:Nat} {args0:List ae} {us cvs:List Value} {bt:TypeId} {cells:List ae} {res:ae} {r:Value} (hs:σ (.af k)= .au bt cells) (hu:tD args0=some us) (hcv:tD cells=some cvs)
  (hc:∀ (w:World) (c:Nat),w.heap[c]? =some (.cells cvs.toArray bt (0,0))->Calls P f (us++[Value.pointer (some ⟨c,0,none⟩)]).toArray w λe w'=>e= .returned r/\(Below w.heap.size w w'/\w.drawn<=w'.drawn))
  (hr:∀ w g,aF w g res r):K0 P f (args0++[.ar k 0]) σ res:=by
 refine ⟨hE,λσ' he b D g w vals h hlen hv=>?_⟩;have hk:σ' (.af k)= .au bt cells:=by
  rw [he (.af k) ?_];exact hs;clear hv hlen hu
  induction args0 with
  |nil=>simp [AX.AZ]
  |cons x l ih=>cases x<;>simp_all [AX.AZ]
 have h1:vals.take args0.length=us:=LQ (w:=w) (g:=g) hu (by simp_all) (λi x v hx hvv=>by
  grind)
 have hlen':vals.length=args0.length+1:=by simpa using hlen
 obtain ⟨v,hvl⟩:∃ v,vals[args0.length]? =some v:=⟨_,List.getElem?_eq_getElem om⟩;obtain ⟨c,hc',rfl⟩:=(hv args0.length (.ar k 0) v (by simp) hvl).qU;have h2:vals=us++[Value.pointer (some ⟨c,0,none⟩)]:=by
  rw [<-h1];have:=List.take_append_drop args0.length vals;grind [List.drop_eq_getElem_cons]
 obtain ⟨arr,a1,a2,a3⟩:=h.nS k bt cells c hk hc';have h3:arr=cvs:=LQ hcv a2 a3;subst h3;rw [h2];refine (hc w c a1).mono ?_;rintro e w' ⟨rfl,hb⟩;obtain ⟨k1,k2⟩:=h.pE hb.1 hb.2;grind
end
section
variable {P:Program} {T:cN} {b:ek P} {t:nU} {σ:az} {D:Nat->Prop} {g:cf} {a:Act} {w:World}
end
section
variable {P:Program} {T:cN} {b:ek P} {t:nU} {σ:az} {D:Nat->Prop} {g:cf} {a:Act} {w:World}
def oh (d:TypeDesc):ae->Prop
 | .ai _=>d= .string
 | .aa q _=>d= .int q
 |_=>False
def mo:ae->ae->Bool
 | .ai a, .ai b=>decide (a=b)
 | .aa _ a, .aa _ b=>decide (a=b)
 |_,_=>false
abbrev iC:=List (Nat×ae×ae)
def qv (k:ae):iC->Option ae
 |[]=>none
 |e::es=>match mo e.2.1 k with
  |true=>some e.2.2
  |false=>qv k es
def pJ (k v:ae):iC->Option iC
 |[]=>none
 |e::es=>match mo e.2.1 k with
  |true=>some ((e.1,e.2.1,v)::es)
  |false=>match pJ k v es with
   |some l=>some (e::l)
   |none=>none
def xT (k:ae):iC->iC
 |[]=>[]
 |e::es=>match mo e.2.1 k with
  |true=>es
  |false=>e::xT k es
theorem xU {d:TypeDesc} {x:ae} {v:Value} {F:Nat->Nat->Prop} (h:oh d x) (hr:cb w F x v):MapKept.IsKey d v:=by
 cases x with
 |ai s=>cases h;cases hr;trivial
 |aa q n=>cases h;cases hr;rfl
 |_=>exact h.elim
theorem aan {d:TypeDesc} {x y:ae} {v u:Value} {F:Nat->Nat->Prop} (hx:oh d x) (hy:oh d y) (h1:cb w F x v) (h2:cb w F y u):Instr.sameNow d v u=some (mo y x):=by
 cases x with
 |ai s=>
  cases hx;cases y with
  |ai s'=>
   cases h1 with|gX e1=>cases h2 with|gX e2=>
   rename_i p q;simp only [Instr.sameNow,mo,Option.some.injEq];rw [Bool.eq_iff_iff,MapKept.bytes_beq,decide_eq_true_eq,<-e1,<-e2];constructor
   ·rintro rfl;rfl
   ·intro e;obtain ⟨p⟩:=p;obtain ⟨q⟩:=q;grind [Array.toList_inj]
  |aa q n=>cases hy
  |_=>exact hy.elim
 |aa q n=>
  cases hx;cases y with
  |aa q' n'=>
   cases hy;cases h1;cases h2;grind [Instr.sameNow,mo]
  |ai s=>cases hy
  |_=>exact hy.elim
 |_=>exact hx.elim
def C6 (w:World) (F:Nat->Nat->Prop) (arr:List MapEntry) (es:iC):Prop:=
 arr.length=es.length/\∀ (i:Nat) (e:MapEntry) (x:Nat×ae×ae),arr[i]? =some e->es[i]? =some x->e.born=x.1/\cb w F x.2.1 e.key/\cb w F x.2.2 e.val
theorem C6.Z8 {F:Nat->Nat->Prop} {e:MapEntry} {x:Nat×ae×ae} {arr:List MapEntry} {es:iC} (h:C6 w F (e::arr) (x::es)):C6 w F arr es:=
 ⟨by simpa using h.1,λi e' x' h1 h2=>h.2 (i+1) e' x' (by simpa using h1) (by simpa using h2)⟩
theorem IF {d:TypeDesc} {k:ae} {kv:Value} {F:Nat->Nat->Prop} (hk:oh d k) (hkv:cb w F k kv):∀ {arr:List MapEntry} {es:iC} (i:Nat),C6 w F arr es->(∀ e∈es,oh d e.2.1)->
  (Instr.findNow d kv arr i=some none/\qv k es=none/\(∀ v,pJ k v es=none)/\xT k es=es)\/
  ∃ j e x,Instr.findNow d kv arr i=some (some (i+j,e.val))/\arr[j]? =some e/\es[j]? =some x/\e.key=kv/\qv k es=some x.2.2/\(∀ v,pJ k v es=some (es.set j (x.1,x.2.1,v)))/\xT k es=es.eraseIdx j
 |[],[],i,_,_=> .inl ⟨rfl,rfl,λ_=>rfl,rfl⟩
 |[],_::_,_,h,_=>by have:=h.1;simp at this
 |_::_,[],_,h,_=>by have:=h.1;simp at this
 |e::arr,x::es,i,h,hks=>by
  obtain ⟨_,h2,h3⟩:=h.2 0 e x rfl rfl;have hx:=hks x (by simp);have hs:=aan hk hx hkv h2;have hkey:=MapKept.sameNow_of_keys (xU hk hkv) (xU hx h2);obtain ⟨r,hr,hiff⟩:=hkey;rw [hs] at hr;simp only [Option.some.injEq] at hr;cases hb:mo x.2.1 k with
  |true=>
   rw [hb] at hs hr;refine .inr ⟨0,e,x,?_,rfl,rfl,(hiff.1 hr.symm).symm,?_,λv=>?_,?_⟩
   ·simp [Instr.findNow,hs]
   ·grind [qv]
   ·grind [pJ]
   grind [xT]
  |false=>
   rw [hb] at hs;rcases IF hk hkv (i+1) h.Z8 (λe he=>hks e (by simp [he])) with ⟨q1,q2,q3,q4⟩|⟨j,e',x',q1,q2,q3,q4,q5,q6,q7⟩
   ·grind [Instr.findNow,qv,pJ,xT]
   ·refine .inr ⟨j+1,e',x',by grind [Instr.findNow],by simpa using q2,by simpa using q3,q4,by grind [qv],λv=>by grind [pJ],by grind [xT]⟩
theorem LL {d:TypeDesc} {x:ae} {v:Value} (hk:oh d x) (h:aF w g x v):cb w g.bJ x v:=by
 cases x with
 |ai s=>cases h with|bC h=>exact h
 |aa q n=>cases h with|bC h=>exact h
 |_=>exact hk.elim
def Ru (ok:Bool) (o:Option ae) (z:ae):ae:=match ok,o with
 |true,some v=> .aw [v, .bN]
 |true,none=> .aw [z, .bo]
 |false,some v=>v
 |false,none=>z
variable {n:Nat} {K:ae->az->Nat->Prop} {o:Oper}
theorem bh.IA (h:bh b σ D g w) {m c clock:Nat} {es:iC} (hs:σ (.af m)= .c9 (.dP clock es)\/σ (.af m)= .eT (.dP clock es)) (hc:g.aZ m=some c):
  ∃ arr:List MapEntry,w.heap[c]? =some (.map arr.toArray clock)/\C6 w g.bJ arr es:=by
 rcases hs with hs|hs
 ·exact h.s8 m _ c hs hc
 ·obtain ⟨hlt,hx,arr,h1,h2,h3⟩:=h.lv m _ c hs hc;have hm:∀ k o,(b.yX k o/\¬b.oK k)->g.bJ k o/\w.cell? ⟨k,o,none⟩=b.lr.cell? ⟨k,o,none⟩:=λk o hk=>⟨h.kY k o hk.1,by unfold World.cell?;rw [h.dU.qR k (b.Kv k o hk.1) hk.2]⟩
  exact ⟨arr,(h.dU.qR c hlt hx).trans h1,h2,λi e x he hx=>⟨(h3 i e x he hx).1,(h3 i e x he hx).2.1.eO hm,(h3 i e x he hx).2.2.eO hm⟩⟩
theorem mf.Fq {mt:TypeId} (hop:o.op= .makeMap mt none) (hK:K (.cg n) (aU σ (.af n) (.c9 (.dP 0 []))) (n+1)):mf P o σ n K:=by
 refine ⟨λb g a w h _=>?_⟩;obtain ⟨k1,k2⟩:=h.EI h.nX.1 (X:= .c9 (.dP 0 [])) rfl (.map #[] 0) (λg' w' _ hh _=>⟨[],hh,rfl,λi e x he=>by simp at he⟩);refine ⟨.value (.map (some w.heap.size)), .map (some w.heap.size),_, .cg n,_,n+1,_,?_, .inl rfl,hK,Nat.le_succ n, .pF (cf.mJ _ _ _),k1.iU (λj hj=>by omega),k2⟩;simp [execOp,hop,Instr.makeMap,Result.andThen]
theorem mf.xQ (hT:dA P T) {mt kt et:TypeId} {d:TypeDesc} (hm:P.underlying mt=some (.map kt et)) (hd:P.underlying kt=some d) {ti:y8} {n0 b0:Nat} {zero:List ae} (hz0:cP T et=some ⟨ti,n0,b0,zero⟩) {q:Bool} {z:ae} (hz:xF ti zero=some (q,z)) (hq:HW P et=some q)
  {x k:Operand} {ok:Bool} (hop:o.op= .lookup mt x k ok) {m clock:Nat} {es:iC} (hx:aM σ x= .cg m) (hs:σ (.af m)= .c9 (.dP clock es)\/σ (.af m)= .eT (.dP clock es)) (hk:oh d (aM σ k)) (hks:∀ e∈es,oh d e.2.1) (r:Option ae) (ho:qv (aM σ k) es=r)
  (hK:K (Ru ok r z) σ (n+1)):mf P o σ n K:=by
 refine ⟨λb g a w h hr=>?_⟩;have hrx:=hr x (by simp [hop,Op.operands]);have hrk:=hr k (by simp [hop,Op.operands]);rw [hx] at hrx;obtain ⟨c,hc,ex⟩:=hrx.xu;obtain ⟨arr,h1,h2⟩:=h.IA hs hc;have hkp:=LL hk hrk;obtain ⟨zv,hzr,hzrep⟩:=Q9 (w:=w) (g:=g) hT hz0 hz hq;have two:∀ {y:ae} {u:Value} {p:Bool},aF w g y u->aF w g (.aw [y,match p with|true=> .bN|false=> .bo]) (.tuple #[u, .bool p]):=fun {y u p} hy=> .jN (vs:=[_,_]) rfl (λi z v h1 h2=>by
  match i,h1,h2 with
  |0,h1,h2=>simp_all
  |1,h1,h2=>cases h1;cases h2;cases p<;>first|exact .bC .rS|exact .bC .qj
  |i+2,h1,_=>cases h1)
 have fin:∀ (val:Value),(Instr.lookup mt (.map (some c)) (a.eval k) ok).run P w= .ok val w->aF w g (Ru ok r z) val->∃ nx val w' v σ' n' g',(execOp a.eval o).run P w= .ok nx w'/\(nx= .value val\/(nx= .skip/\val=undef))/\K v σ' n'/\n<=n'/\aF w' g' v val/\bh b σ' (·<n') g' w'/\dp g w g' w':=
  λval hr hrep=>⟨.value val,val,w,_,σ,n+1,g,by simp [execOp,hop,ex,hr], .inl rfl,hK,Nat.le_succ n,hrep,h.qp (Nat.le_succ n),dp.qg g w⟩
 rcases IF hk hkp 0 ⟨h2.1,h2.2⟩ hks with ⟨q1,q2,_⟩|⟨j,e,y,q1,q2,q3,q4,q5,_⟩
 ·rw [ho] at q2;subst q2;refine fin (if ok then .tuple #[zv, .bool false] else zv) ?_ ?_
  ·cases ok<;>simp [Instr.lookup,run_underlying hm,MapKept.run_getObj_map h1,MapKept.run_checkKey hd (xU hk hkp),MapKept.run_findKey hd q1,hzr,Result.andThen]
  ·cases ok
   ·exact hzrep
   ·exact two (p:=false) hzrep
 ·rw [ho] at q5;subst q5;have hrep:=(h2.2 j e y q2 q3).2.2;refine fin (if ok then .tuple #[e.val, .bool true] else e.val) ?_ ?_
  ·cases ok<;>simp [Instr.lookup,run_underlying hm,MapKept.run_getObj_map h1,MapKept.run_checkKey hd (xU hk hkp),MapKept.run_findKey hd q1,Result.andThen]
  ·cases ok
   ·exact .bC hrep
   ·exact two (p:=true) (.bC hrep)
theorem FC {c:Nat} {es es':Array MapEntry} {clock clock':Nat} (h:w.heap[c]? =some (.map es clock)):kj c w {w with heap:=w.heap.setIfInBounds c (.map es' clock')}/\(w.heap.setIfInBounds c (.map es' clock'))[c]? =some (.map es' clock'):=by
 have hlt:c<w.heap.size:=(Array.getElem?_eq_some_iff.1 h).1;have hh:(w.heap.setIfInBounds c (.map es' clock'))[c]? =some (.map es' clock'):=by simp [hlt]
 exact ⟨⟨rfl,rfl,rfl,by simp,λk hk=>by simp [Ne.symm hk],by grind [World.shape?],λds hd=>(by simp_all),rfl⟩,hh⟩
def A5 (clock:Nat) (es:iC) (k v:ae):Option iC->EM
 |some l=> .dP clock l
 |none=> .dP (clock+1) (es++[(clock,k,v)])
theorem aak {mt kt et:TypeId} {d:TypeDesc} (hm:P.underlying mt=some (.map kt et)) (hd:P.underlying kt=some d) (h:bh b σ (·<n) g w) {m c clock:Nat} {es:iC} (hc:g.aZ m=some c) (hs:σ (.af m)= .c9 (.dP clock es))
  {k v:ae} {kv vv:Value} (hk:oh d k) (hkp:cb w g.bJ k kv) (hvp:cb w g.bJ v vv) (hks:∀ e∈es,oh d e.2.1):
  ∃ w',(Instr.mapUpdate mt (.map (some c)) kv vv).run P w= .ok () w'/\bh b (aU σ (.af m) (.c9 (A5 clock es k v (pJ k v es)))) (·<n) g w'/\dp g w g w':=by
 obtain ⟨arr,h1,h2⟩:=h.s8 m _ c hs hc;have hl:(σ (.af m)).dw=true:=by rw [hs];rfl
 rcases IF hk hkp 0 ⟨h2.1,h2.2⟩ hks with ⟨q1,q2,q3,_⟩|⟨j,e,y,q1,q2,q3,q4,q5,q6,_⟩
 ·obtain ⟨hw,hh⟩:=FC (es':=arr.toArray.push {key:=kv,val:=vv,born:=clock}) (clock':=clock+1) h1;refine ⟨_,?_,h.j8 (X:= .c9 (A5 clock es k v (pJ k v es))) hl hc hw (λ_=>?_)⟩
  ·simp [Instr.mapUpdate,run_underlying hm,MapKept.run_getObj_map h1,MapKept.run_checkKey hd (xU hk hkp),MapKept.run_findKey hd q1,MapKept.run_setObj_map _ h1,Result.andThen]
  ·rw [q3 v];have hE:=dp.pC (g:=g) hw (λo ho=>by obtain ⟨c',a1,_,_,a4⟩:=h.dq m hl;simp_all);refine ⟨arr++[{key:=kv,val:=vv,born:=clock}],by simpa using hh,by simp [h2.1],λi e x he hx=>?_⟩
   by_cases hi:i<arr.length
   ·rw [List.getElem?_append_left hi] at he;rw [List.getElem?_append_left om] at hx;obtain ⟨a1,a2,a3⟩:=h2.2 i e x he hx;exact ⟨a1,a2.eO hE.ee,a3.eO hE.ee⟩
   ·rw [List.getElem?_append_right om] at he;rw [List.getElem?_append_right om] at hx;rw [h2.1] at he;cases hj:i - es.length with
    |zero=>
     simp [hj] at he hx;subst he hx;exact ⟨rfl,hkp.eO hE.ee,hvp.eO hE.ee⟩
    |succ j=>simp [hj] at he
 ·obtain ⟨hw,hh⟩:=FC (es':=arr.toArray.modify j λe=>{e with key:=kv,val:=vv}) (clock':=clock) h1;refine ⟨_,?_,h.j8 (X:= .c9 (A5 clock es k v (pJ k v es))) hl hc hw (λ_=>?_)⟩
  ·have hj:(arr[j]?.map (·.key)).getD kv=kv:=by rw [q2];simp [q4]
   simp [Instr.mapUpdate,run_underlying hm,MapKept.run_getObj_map h1,MapKept.run_checkKey hd (xU hk hkp),MapKept.run_findKey hd q1,hj,MapKept.run_keyThatStays (xU hk hkp),MapKept.run_setObj_map _ h1,Result.andThen]
  ·rw [q6 v];have hE:=dp.pC (g:=g) hw (λo ho=>by obtain ⟨c',a1,_,_,a4⟩:=h.dq m hl;simp_all);refine ⟨arr.modify j λe=>{e with key:=kv,val:=vv},by simpa using hh,by simp [h2.1],λi e' x he hx=>?_⟩;rw [List.getElem?_modify] at he
   by_cases hij:j=i
   ·subst hij;have hlt:j<es.length:=by grind
    rw [List.getElem?_set_self hlt] at hx;simp only [q2,if_true,Option.map_eq_map,Option.map_some,Option.some.injEq] at he hx;subst he hx;obtain ⟨a1,a2,a3⟩:=h2.2 j e y q2 q3;have a4:=a2.eO hE.ee;rw [q4] at a4;exact ⟨a1,a4,hvp.eO hE.ee⟩
   ·rw [List.getElem?_set_ne hij] at hx;simp only [hij,if_false,Option.map_eq_map,Option.map_id'] at he;obtain ⟨a1,a2,a3⟩:=h2.2 i e' x he hx;exact ⟨a1,a2.eO hE.ee,a3.eO hE.ee⟩
theorem mf.k8 {mt kt et:TypeId} {d:TypeDesc} (hm:P.underlying mt=some (.map kt et)) (hd:P.underlying kt=some d) {x k v:Operand} (hop:o.op= .mapUpdate mt x k v\/o.op= .insert mt x k v) {m clock:Nat} {es:iC} (hx:aM σ x= .cg m) (hs:σ (.af m)= .c9 (.dP clock es))
  (hk:oh d (aM σ k)) (hv:AU (aM σ v)=true) (hks:∀ e∈es,oh d e.2.1) (r:Option iC) (ho:pJ (aM σ k) (CT (aM σ v)) es=r)
  (hK:K .bV (aU σ (.af m) (.c9 (A5 clock es (aM σ k) (CT (aM σ v)) r))) (n+1)):mf P o σ n K:=by
 refine ⟨λb g a w h hr=>?_⟩;have hmem:∀ z∈[x,k,v],z∈o.op.operands:=λz hz=>by grind [Op.operands]
 have hrx:=hr x (hmem x (by simp));have hrk:=hr k (hmem k (by simp));have hrv:=hr v (hmem v (by simp));rw [hx] at hrx;obtain ⟨c,hc,ex⟩:=hrx.xu;obtain ⟨w',r1,r2,r3⟩:=aak hm hd h hc hs hk (LL hk hrk) (CZ hv hrv) hks;rw [ho] at r2;refine ⟨.skip,undef,w', .bV,_,n+1,g,?_, .inr ⟨rfl,rfl⟩,hK,Nat.le_succ n, .jV,r2.qp (Nat.le_succ n),r3⟩;rcases hop with e|e<;>simp [execOp,e,ex,r1,Result.andThen]
theorem mf.Z7 {mt kt et:TypeId} {d:TypeDesc} (hm:P.underlying mt=some (.map kt et)) (hd:P.underlying kt=some d) {c0:Call} (hop:o.op= .call c0) (hcal:c0.callee= .builtin .delete) (hat:c0.argTypes[0]? =some mt) {x k:Operand} (hargs:c0.args=#[x,k])
  {m clock:Nat} {es:iC} (hx:aM σ x= .cg m) (hs:σ (.af m)= .c9 (.dP clock es)) (hk:oh d (aM σ k)) (hks:∀ e∈es,oh d e.2.1) (r:iC) (ho:xT (aM σ k) es=r)
  (hK:K (.aw []) (aU σ (.af m) (.c9 (.dP clock r))) (n+1)):mf P o σ n K:=by
 refine ⟨λb g a w h hr=>?_⟩;have hrx:=hr x (by grind [Op.operands,Call.operands]);have hrk:=hr k (by grind [Op.operands,Call.operands]);rw [hx] at hrx;obtain ⟨c,hc,ex⟩:=hrx.xu;obtain ⟨arr,h1,h2⟩:=h.s8 m _ c hs hc;have hkp:=LL hk hrk;have hl:(σ (.af m)).dw=true:=by rw [hs];rfl
 have run:∀ {w':World},(Builtin.delete_ c0.argTypes o.type #[a.eval x,a.eval k]).run P w= .ok (.tuple #[]) w'->(execOp a.eval o).run P w= .ok (.value (.tuple #[])) w':=by
  intro w' hb;obtain ⟨dst,op,ty,pos,after,guard⟩:=o;grind [tl,builtin,Sem.run_bind,Result.andThen_ok,Sem.run_pure]
 rcases IF hk hkp 0 ⟨h2.1,h2.2⟩ hks with ⟨q1,q2,_,q4⟩|⟨j,e,y,q1,q2,q3,q4,q5,q6,q7⟩
 ·rw [ho] at q4;subst q4;obtain ⟨hw,hh⟩:=FC (es':=arr.toArray) (clock':=clock) h1;obtain ⟨k1,k2⟩:=h.j8 (X:= .c9 (.dP clock r)) hl hc hw (λ_=>by
   have hE:=dp.pC (g:=g) hw (λo ho=>by obtain ⟨c',a1,_,_,a4⟩:=h.dq m hl;simp_all);exact ⟨arr,hh,h2.1,λi e x he hx=>⟨(h2.2 i e x he hx).1,(h2.2 i e x he hx).2.1.eO hE.ee,(h2.2 i e x he hx).2.2.eO hE.ee⟩⟩)
  refine ⟨.value (.tuple #[]), .tuple #[],_, .aw [],_,n+1,g,run ?_, .inl rfl,hK,Nat.le_succ n, .jN (vs:=[]) rfl (λi x v h1=>by simp at h1),k1.qp (Nat.le_succ n),k2⟩;simp [Builtin.delete_,hat,ex,run_underlying hm,MapKept.run_getObj_map h1,MapKept.run_checkKey hd (xU hk hkp),MapKept.run_findKey hd q1,MapKept.run_setObj_map _ h1,Result.andThen]
 ·rw [ho] at q7;subst q7;obtain ⟨hw,hh⟩:=FC (es':=arr.toArray.eraseIdxIfInBounds j) (clock':=clock) h1;have hlt:j<arr.length:=(List.getElem?_eq_some_iff.1 q2).1;obtain ⟨k1,k2⟩:=h.j8 (X:= .c9 (.dP clock (es.eraseIdx j))) hl hc hw (λ_=>by
   have hE:=dp.pC (g:=g) hw (λo ho=>by obtain ⟨c',a1,_,_,a4⟩:=h.dq m hl;simp_all);refine ⟨arr.eraseIdx j,by simp_all,by grind,λi e x he hx=>?_⟩;rw [List.getElem?_eraseIdx] at he hx
   by_cases hij:i<j
   ·rw [if_pos hij] at he hx;exact ⟨(h2.2 i e x he hx).1,(h2.2 i e x he hx).2.1.eO hE.ee,(h2.2 i e x he hx).2.2.eO hE.ee⟩
   ·rw [if_neg hij] at he hx;exact ⟨(h2.2 _ e x he hx).1,(h2.2 _ e x he hx).2.1.eO hE.ee,(h2.2 _ e x he hx).2.2.eO hE.ee⟩)
  refine ⟨.value (.tuple #[]), .tuple #[],_, .aw [],_,n+1,g,run ?_, .inl rfl,hK,Nat.le_succ n, .jN (vs:=[]) rfl (λi x v h1=>by simp at h1),k1.qp (Nat.le_succ n),k2⟩;simp [Builtin.delete_,hat,ex,run_underlying hm,MapKept.run_getObj_map h1,MapKept.run_checkKey hd (xU hk hkp),MapKept.run_findKey hd q1,MapKept.run_setObj_map _ h1,Result.andThen]
theorem mf.Rf {mt kt et:TypeId} (hm:P.underlying mt=some (.map kt et)) {x:Operand} (hop:o.op= .range mt x) {m clock:Nat} {es:iC} (hx:aM σ x= .cg m) (hs:σ (.af m)= .c9 (.dP clock es)\/σ (.af m)= .eT (.dP clock es))
  (hK:K (.cz n) (aU σ (.af n) (.c9 (.oO m clock [] clock))) (n+1)):mf P o σ n K:=by
 refine ⟨λb g a w h hr=>?_⟩;have hrx:=hr x (by simp [hop,Op.operands]);rw [hx] at hrx;obtain ⟨c,hc,ex⟩:=hrx.xu;obtain ⟨arr,h1,h2⟩:=h.IA hs hc;obtain ⟨k1,k2⟩:=h.EI h.nX.1 (X:= .c9 (.oO m clock [] clock)) rfl (.mapIter (some c) clock #[] clock) (λg' w' hE hh _=>⟨c,(hE.kE _ _ hc).1,hh⟩);refine ⟨.value (.pointer (some ⟨w.heap.size,0,none⟩)), .pointer (some ⟨w.heap.size,0,none⟩),_, .cz n,_,n+1,_,?_, .inl rfl,hK,Nat.le_succ n, .qS (cf.mJ _ _ _),k1.iU (λj hj=>by omega),k2⟩;simp [execOp,hop,ex,Instr.range,run_underlying hm,MapKept.run_getObj_map h1,Result.andThen]
theorem mf.Re {x:Operand} (hop:o.op= .next x false) {i m since last clock:Nat} {seen:List Nat} {es:iC} (hx:aM σ x= .cz i) (hi:σ (.af i)= .c9 (.oO m since seen last)) (hs:σ (.af m)= .c9 (.dP clock es)\/σ (.af m)= .eT (.dP clock es))
  (hlt:∀ e∈es,e.1<since) (hsc:since<=last) (h1:∀ e∈es,e.1∉seen->K (.aw [.bN,e.2.1,e.2.2]) (aU σ (.af i) (.c9 (.oO m since (seen++[e.1]) clock))) (n+1))
  (h0:(∀ e∈es,e.1∈seen)->K (.aw [.bo]) σ (n+1)):mf P o σ n K:=by
 refine ⟨λb g a w h hr=>?_⟩;have hrx:=hr x (by simp [hop,Op.operands]);rw [hx] at hrx;obtain ⟨r,hc,ex⟩:=hrx.Hm;obtain ⟨c,hcm,hri⟩:=h.s8 i _ r hi hc;obtain ⟨arr,hb,h2⟩:=h.IA hs hcm;have born:∀ e∈arr,∃ y∈es,e.born=y.1/\cb w g.bJ y.2.1 e.key/\cb w g.bJ y.2.2 e.val:=λe he=>by
  obtain ⟨j,hj,hje⟩:=List.getElem_of_mem he;have hj':j<es.length:=by rw [<-h2.1];exact hj
  exact ⟨es[j],List.getElem_mem hj',h2.2 j e _ (by simp_all) (List.getElem?_eq_getElem hj')⟩
 have one:∀ {val:Value} {w':World},(Instr.next (.pointer (some ⟨r,0,none⟩)) false o.type).run P w= .ok val w'->(execOp a.eval o).run P w= .ok (.value val) w':=λhrun=>by simp [execOp,hop,ex,hrun,Result.andThen]
 rcases run_next_at w o.type r c since last seen.toArray arr.toArray clock hri hb (λe he=>by
   grind) hsc with ⟨q0,hrun⟩|⟨e,he,w1,hw1,hrun⟩
 ·refine ⟨.value (.tuple #[.bool false]),_,w, .aw [.bo],σ,n+1,g,one hrun, .inl rfl,h0 λy hy=>?_,Nat.le_succ n, .jN (vs:=[_]) rfl (λi x v h1 h2=>?_),h.qp (Nat.le_succ n),dp.qg g w⟩
  ·obtain ⟨j,hj,hje⟩:=List.getElem_of_mem hy;have hj':j<arr.length:=by rw [h2.1];exact hj
   have hb1:=(h2.2 j _ _ (List.getElem?_eq_getElem hj') (List.getElem?_eq_getElem hj)).1;rw [hje] at hb1;rw [<-hb1];have hf:leftOf arr.toArray seen.toArray=#[]:=Array.eq_empty_of_size_eq_zero q0;grind [leftOf,Array.filter_eq_empty_iff]
  ·match i,h1,h2 with
   |0,h1,h2=>cases h1;cases h2;exact .bC .qj
   |i+1,h1,_=>cases h1
 ·have he':e∈arr/\e.born∉seen:=by
   grind [leftOf]
  obtain ⟨y,hy,e1,e2,e3⟩:=born e he'.1;obtain ⟨g1,hE1⟩:bh b σ (·<n) g w1/\dp g w g w1:=by
   rcases hw1 with rfl|rfl
   ·grind [dp.qg]
   ·exact h.pE (w':=w.drew) ⟨rfl,rfl,rfl,Nat.le_refl _,λ_ _=>rfl⟩
  have hri1:w1.heap[r]? =some (.mapIter (some c) since seen.toArray last):=by rcases hw1 with rfl|rfl<;>exact hri
  have hlt1:r<w1.heap.size:=(Array.getElem?_eq_some_iff.1 hri1).1;have hh:(Go.ChangeMaps.setBlock w1 r (.mapIter (some c) since (seen.toArray.push e.born) clock)).heap[r]? =some (.mapIter (some c) since (seen.toArray.push e.born) clock):=by simp [Go.ChangeMaps.setBlock,hlt1]
  have hw:kj r w1 (Go.ChangeMaps.setBlock w1 r (.mapIter (some c) since (seen.toArray.push e.born) clock)):=
   ⟨rfl,rfl,rfl,by simp [Go.ChangeMaps.setBlock],λk hk=>by grind [Go.ChangeMaps.setBlock],by grind [World.shape?],λds hd=>(by simp_all),rfl⟩
  obtain ⟨k1,k2⟩:=g1.j8 (X:= .c9 (.oO m since (seen++[y.1]) clock)) (by rw [hi];rfl) hc hw (λ_=>⟨c,hcm,by rw [hh,e1];simp⟩);refine ⟨.value (.tuple #[.bool true,e.key,e.val]),_,_, .aw [.bN,y.2.1,y.2.2],_,n+1,g,one hrun, .inl rfl,h1 y hy (by simp_all),Nat.le_succ n,?_,k1.qp (Nat.le_succ n),hE1.gD k2⟩;have hE:=hE1.gD k2;refine .jN (vs:=[_,_,_]) rfl (λi x v h1 h2=>?_)
  match i,h1,h2 with
  |0,h1,h2=>cases h1;cases h2;exact .bC .rS
  |1,h1,h2=>cases h1;cases h2;exact .bC (e2.eO hE.ee)
  |2,h1,h2=>cases h1;cases h2;exact .bC (e3.eO hE.ee)
  |i+3,h1,_=>cases h1
theorem mf.Rc {x:Operand} (hop:o.op= .entry x) {i m since last clock s:Nat} {seen:List Nat} {es:iC} (hx:aM σ x= .cz i) (hi:σ (.af i)= .c9 (.oO m since (seen++[s]) last)) (hs:σ (.af m)= .c9 (.dP clock es)\/σ (.af m)= .eT (.dP clock es))
  (hl:last=clock) (hnd:(es.map (·.1)).Nodup) (y:ae×ae) (hy:(s,y)∈es) (hK:K (.aw [y.1,y.2]) σ (n+1)):mf P o σ n K:=by
 refine ⟨λb g a w h hr=>?_⟩;have hrx:=hr x (by simp [hop,Op.operands]);rw [hx] at hrx;obtain ⟨r,hc,ex⟩:=hrx.Hm;obtain ⟨c,hcm,hri⟩:=h.s8 i _ r hi hc;obtain ⟨arr,hb,h2⟩:=h.IA hs hcm;subst hl;have hmap:arr.map (·.born)=es.map (·.1):=by
  apply List.ext_getElem?;intro j;rw [List.getElem?_map,List.getElem?_map]
  by_cases hj:j<arr.length
  ·have hj':j<es.length:=by rw [<-h2.1];exact hj
   rw [List.getElem?_eq_getElem hj,List.getElem?_eq_getElem hj'];simp only [Option.map_some];rw [(h2.2 j _ _ (List.getElem?_eq_getElem hj) (List.getElem?_eq_getElem hj')).1]
  ·rw [List.getElem?_eq_none om,List.getElem?_eq_none (by rw [<-h2.1];omega)];rfl
 obtain ⟨j,hj,hje⟩:=List.getElem_of_mem hy;have hj':j<arr.length:=by rw [h2.1];exact hj
 have hp:=h2.2 j _ _ (List.getElem?_eq_getElem hj') (List.getElem?_eq_getElem hj);rw [hje] at hp;obtain ⟨p1,p2,p3⟩:=hp;have hrun:=run_entry_at (P:=P) w r c since seen.toArray arr.toArray last arr[j] (by rw [hri,p1];simp) hb (by simp) (by simp_all);refine ⟨.value (.tuple #[arr[j].key,arr[j].val]),_,w,_,σ,n+1,g,by simp [execOp,hop,ex,hrun,Result.andThen], .inl rfl,hK,Nat.le_succ n,?_,h.qp (Nat.le_succ n),dp.qg g w⟩;refine .jN (vs:=[_,_]) rfl (λi x v h1 h2=>?_)
 match i,h1,h2 with
 |0,h1,h2=>cases h1;cases h2;exact .bC p2
 |1,h1,h2=>cases h1;cases h2;exact .bC p3
 |i+2,h1,_=>cases h1
def cf.Fw (F:Nat->Nat->Prop) (c:Nat):cf:=⟨F,λi=>if i=0 then some c else none,λ_=>none⟩
structure IC (P:Program) (f:FuncId) (clock:Nat) (es:iC) (args:List ae) (res:ae):Prop where
 aab:oP P f
 aad:∀ (w:World) (F:Nat->Nat->Prop) (c:Nat) (arr:List MapEntry) (vals:List Value),mb P w->(∀ k o,F k o->k<w.heap.size)->w.heap[c]? =some (.map arr.toArray clock)->C6 w F arr es->vals.length=args.length->
  (∀ (i:Nat) (x:ae) (v:Value),args[i]? =some x->vals[i]? =some v->aF w (cf.Fw F c) x v)->
  Calls P f vals.toArray w λe w'=>∃ v F',e= .returned v/\(Below w.heap.size w w'/\w.drawn<=w'.drawn)/\(∀ k o,F k o->F' k o)/\(∀ k o,F' k o->F k o\/(w.heap.size<=k/\k<w'.heap.size))/\cb w' F' res v
theorem bh.Z9 (w:World) (F:Nat->Nat->Prop) (hG:mb P w) (hF:∀ k o,F k o->k<w.heap.size) (args:List ae) {c clock:Nat} {es:iC} {arr:List MapEntry} (hb:w.heap[c]? =some (.map arr.toArray clock)) (he:C6 w F arr es):
  bh (P:=P) (ek.xk w F hG hF) (aU (n5 args) (.af 0) (.eT (.dP clock es))) (·<1) (cf.Fw F c) w:=by
 have own:∀ id k,(cf.Fw F c).aZ id=some k->id=0/\k=c:=λid k h=>by
  grind [cf.Fw]
 have st:∀ id,(aU (n5 args) (.af 0) (.eT (.dP clock es))) (.af id)=if id=0 then .eT (.dP clock es) else .bq:=λid=>by
  by_cases h:id=0
  ·grind [gY]
  ·rw [cL (λe=>h (by cases e;rfl)),if_neg h];rfl
 have nb:∀ id,((aU (n5 args) (.af 0) (.eT (.dP clock es))) (.af id)).dw=true->False:=λid h=>by
  rw [st] at h;split at h<;>cases h
 refine bh.lQ (oL.EC _ _ _) hF (λ_ _ h=>h) (λ_ _ h _ _=>h) (λid k h=>by grind) (λ_ _ h=>by cases h) (λid k h=>by grind) (λ_ _ _ h=>by cases h)
  (λid h=>(nb id h).elim) (λid _ h=>(nb id h).elim) (λid _ _ h=>(nb id h).elim) (λid X k hs hk=>?_) (λid t sz N hs=>?_)
 ·obtain ⟨rfl,rfl⟩:=own id k hk;rw [st,if_pos rfl] at hs;cases hs;have hm:∀ k o,F k o->((ek.xk (P:=P) w F hG hF).yX k o/\¬(ek.xk (P:=P) w F hG hF).oK k)/\w.cell? ⟨k,o,none⟩=w.cell? ⟨k,o,none⟩:=λk o h=>⟨⟨h,λe=>e⟩,rfl⟩
  exact ⟨(Array.getElem?_eq_some_iff.1 hb).1,λh=>h,arr,hb,he.1,λi e x h1 h2=>⟨(he.2 i e x h1 h2).1,(he.2 i e x h1 h2).2.1.eO hm,(he.2 i e x h1 h2).2.2.eO hm⟩⟩
 trivial
theorem aaj (args:List ae) (clock:Nat) (es:iC):aU (n5 args) (.af 0) (.eT (.dP clock es))=zn (aU (λ_=> .bq) (.af 0) (.eT (.dP clock es))) args:=by
 funext l;cases l with
 |af i=>cases i<;>rfl
 |_=>rfl
theorem IC.aac (hT:dA P T) (hm:P.follows .mixedOrders=true) {f:FuncId} {fn:Func} {c:Code} (hf:P.funcs[f]? =some fn) (hb:fn.body=some c) (hn:(fn.name== "runtime.NumGoroutine")=false) {clock:Nat} {es:iC} {args:List ae} {res:ae} (hl:Nat.ble args.length fn.ntmps=true) (hro:lE fn.ntmps fn.results.toList=true)
  (h:oR P T none fn.ntmps 1 c (aU (n5 args) (.af 0) (.eT (.dP clock es))) 1 (xN iL T fn res)):IC P f clock es args res:=by
 have h:=se hT hm _ _ _ _ h;rw [aaj,QY] at h;refine ⟨lC hf hb hn,λw F k arr vals hG hF hmap hes hvl hv=>(bz.E4 (bz.xG hT hf hb hn hl hro h) w F hG hF ((bh.Z9 w F hG hF [] hmap hes).sZ (λ_=>rfl) (λ_=>rfl)) hvl λi x v hx hy=>hv i x v hx hy).mono ?_⟩;rintro _ w' ⟨v,x,σ',n',g',he,hk,hrep,hs,hb,h0,h1⟩;exact ⟨v,_,he,hb,λk o hk=> .inl (h0 k o hk),λk o hk=>hk.elim (h1 k o) .inr,zm.Lk (λ_ _ h=>h) hs hk hrep⟩
theorem bz.Ra {f:FuncId} {res:ae} {n m clock:Nat} {es:iC} {K:ae->az->Nat->Prop} (hp:IC P f clock es [.cg 0] res) (hs:σ (.af m)= .c9 (.dP clock es)) (hk:K res σ n):bz P f [.cg m] σ n K:=by
 refine ⟨hp.aab,λb g w vals h hl hv=>?_⟩
 match vals,hl with
 |[v],_=>
  obtain ⟨c,hc,e⟩:=(hv 0 _ v rfl rfl).xu;subst e;obtain ⟨arr,h1,h2⟩:=h.s8 m _ c hs hc;refine (hp.aad w g.bJ c arr [.map (some c)] h.Au h.fU h1 h2 rfl (λi x u hx hu=>?_)).mono ?_
  ·match i,hx,hu with
   |0,hx,hu=>cases hx;cases hu;exact .pF (by simp [cf.Fw])
   |i+1,hx,_=>cases hx
  ·rintro e w' ⟨v,F',rfl,h2,h3,h4,h5⟩;exact ⟨v,res,σ,n,{g with bJ:=F'},rfl,hk,Nat.le_refl _, .bC h5,h.yZ h2.1 h2.2 h3 h4,h.xn h2.1 h2.2 h3⟩
end
section
variable {P:Program} {T:cN} {b:ek P} {t:nU} {σ:az} {D:Nat->Prop} {g:cf} {a:Act} {w:World}
mutual
def mm:ae->Bool
 | .ag _ _ [] .av=>true
 | .ag _ _ [] .bR=>true
 | .ag _ _ _ _=>false
 | .cB _ _=>false
 | .aK cs=>xV cs
 | .aw cs=>xV cs
 | .aP _ fs cs=>match xV fs with|true=>xV cs|false=>false
 | .cm _ v=>mm v
 |_=>true
def xV:List ae->Bool
 |[]=>true
 |x::l=>match mm x with|true=>xV l|false=>false
end
def LO:bs->Bool
 | .ah x=>mm x
 | .au _ cells=>xV cells
 | .iR _ _=>true
 | .c9 (.oO _ _ _ _)=>true
 | .eT _=>true
 | .bq=>true
 |_=>false
def A6:List (aS×bs)->Bool
 |[]=>true
 |(.aJ _,_)::_=>false
 |(_,c)::es=>match LO c with|true=>A6 es|false=>false
theorem xW:∀ {l:List ae},xV l=true->∀ (i:Nat) (x:ae),l[i]? =some x->mm x=true
 |[],_,i,x,h=>by simp at h
 |c::cs,hc,i,x,h=>by
  simp only [xV] at hc;cases hx:mm c with
  |false=>simp [hx] at hc
  |true=>
   simp only [hx] at hc;cases i with
   |zero=>simp_all
   |succ i=>exact xW hc i x (by simpa using h)
theorem LP:∀ {es:List (aS×bs)},A6 es=true->(∀ l,LO (aD es l)=true)/\∀ k,aD es (.aJ k)= .bq
 |[],_=>⟨λ_=>rfl,λ_=>rfl⟩
 |(l',c)::es,h=>by
  have step:A6 es=true/\LO c=true/\∀ k,l'≠ .aJ k:=by
   cases l' with
   |aJ k=>cases h
   |aj k=>
    grind [A6]
   |af k=>
    grind [A6]
  obtain ⟨h1,h2,h3⟩:=step;obtain ⟨q1,q2⟩:=LP h1;refine ⟨λl=>?_,λk=>?_⟩
  ·by_cases e:l=l'
   ·subst e;rw [aD,gY];exact h2
   ·rw [aD,cL e];exact q1 l
  ·rw [aD,cL (λe=>h3 k e.symm)];exact q2 k
theorem cb.C7 {F F':Nat->Nat->Prop} {x:ae} {v:Value} (h:cb w F x v) (hx:mm x=true):cb w F' x v:=by
 induction h with
 |fK k n=>exact .fK k n
 |nh b=>exact .nh b
 |rS=>exact .rS
 |qj=>exact .qj
 |gX h=>exact .gX h
 |xq hl _ ih=>simp only [mm] at hx;exact .xq hl (λi x v h1 h2=>ih i x v h1 h2 (xW hx i x h1))
 |rT hl _ ih=>simp only [mm] at hx;exact .rT hl (λi x v h1 h2=>ih i x v h1 h2 (xW hx i x h1))
 |EP=>exact .EP
 | @iK isNil sz els ad c vals hnil hc hsz ha hone _ ih=>
  cases els with
  |nil=>exact .iK vals hnil hc hsz (λi el j x h1=>by simp at h1) hone (λi el j x h1=>by simp at h1)
  |cons e es=>simp [mm] at hx
 |Ax f=>exact .Ax f
 |EN=>exact .EN
 |Cm _ ih=>simp only [mm] at hx;exact .Cm (ih hx)
 |EO=>exact .EO
theorem aF.ID {g':cf} {m:Nat} {x:ae} {v:Value} (h:aF w g x v) (hx:mm x=true) (hr:fX m x=true) (hown:∀ i c,i<m->g.aZ i=some c->g'.aZ i=some c):aF w g' x v:=by
 induction h with
 |bC h=>exact .bC (h.C7 hx)
 |nT hl _ ih=>simp only [mm] at hx;simp only [fX] at hr;exact .nT hl (λi x v h1 h2=>ih i x v h1 h2 (xW hx i x h1) (mQ hr i x h1))
 |jN hl _ ih=>simp only [mm] at hx;simp only [fX] at hr;exact .jN hl (λi x v h1 h2=>ih i x v h1 h2 (xW hx i x h1) (mQ hr i x h1))
 |ni h=>simp only [fX] at hr;exact .ni (hown _ _ (eH hr) h)
 |qT vals ha h=>simp [mm] at hx
 |jc h ht=>
  rename_i isNil sz els tk ad n c;cases els with
  |cons e es=>trivial
  |nil=>
   cases tk with
   |av=>exact .jc (h.C7 rfl) trivial
   |bR=>exact .jc (h.C7 rfl) ht
   |dB id=>simp [mm] at hx
   |cO id=>simp [mm] at hx
 |kH h ha hs hl hf=>simp only [fX] at hr;exact .kH (hown _ _ (eH hr) h) ha hs hl hf
 |rU hl hm _ _ ih1 ih2=>
  simp only [mm] at hx;simp only [fX] at hr;rename_i fs cs _ _ _ _;cases hfs:xV fs with
  |false=>simp [hfs] at hx
  |true=>
   simp only [hfs] at hx;cases hrs:oc m fs with
   |false=>simp [hrs] at hr
   |true=>
    simp only [hrs] at hr;exact .rU hl hm (λi x v h1 h2=>ih1 i x v h1 h2 (xW hfs i x h1) (mQ hrs i x h1)) (λi x v h1 h2=>ih2 i x v h1 h2 (xW hx i x h1) (mQ hr i x h1))
 |rV _ ih=>simp only [mm] at hx;simp only [fX] at hr;exact .rV (ih hx hr)
 |qS h=>simp only [fX] at hr;exact .qS (hown _ _ (eH hr) h)
 |rW h=>simp only [fX] at hr;exact .rW (hown _ _ (eH hr) h)
 |pF h=>simp only [fX] at hr;exact .pF (hown _ _ (eH hr) h)
 |jV=>exact .jV
theorem db.LD {r:Option Nat} {nt lo n m:Nat} {c:Code} {K:Exit->az->Nat->Prop} {es:List (aS×bs)} (s id:Nat) {isNil:Bool} {sz:Nat} {els:List (List ae)} {bt:TypeId} (he:lB σ m es) (h0:lo<=m) (hsafe:A6 es=true) (hsn:s<nt)
  (hs:σ (.aj s)= .ah (.ag isNil sz els (.cO id))) (hrow:σ (.aJ id)= .aN bt sz els.length) (hid:lo<=id) (hne:els≠[]) (hels:∀ el∈els,∀ x∈el,mm x=true)
  (h:db P r nt lo c (aD ((.aj s, .ah (.aL m 0 sz els.length true))::(.af m, .aR bt els.flatten)::es)) (m+1) K):db P r nt lo c σ n K:=by
 refine ⟨λb t a w hl hsim=>h.jG b t a w hl ?_⟩;obtain ⟨g,hh,hf,hE,hn⟩:=hsim;obtain ⟨q1,q2⟩:=LP hsafe;have hslot:=hf.kI s hsn;unfold dV at hslot;rw [hs] at hslot;obtain ⟨ad,cap,hv,hp,ht⟩:=hslot.jj;obtain ⟨bk,N,t1,t2,t3⟩:=ht;obtain ⟨bk',r1,r2⟩:=hh.fA id bt sz els.length hrow;rw [r1] at t1;obtain ⟨e1,e2⟩:bk'=bk/\els.length=N:=by simp_all
 subst e1 e2;have hpos:0<els.length:=List.length_pos_iff.2 hne;rcases t3 rfl with ⟨_,e⟩|⟨c1,bt',rfl,rfl,hshape⟩
 ·omega
 obtain ⟨a1,a2,a3,a4,a5,arr,z,a6,a7⟩:=r2 c1 rfl;have hnew:∀ o,¬t.AA.bJ c1 o:=by
  rcases hE.vS id c1 _ r1 with ⟨N0,e⟩|e
  ·have:=t.ER id _ e;omega
  ·exact e
 let g2:cf:=⟨λk o=>g.bJ k o/\k≠c1,λi=>if i=m then some c1 else if i<m then g.aZ i else none,λi=>if i<m/\i≠id then g.cu i else none⟩
 have own1:∀ i k,i<m->g.aZ i=some k->g2.aZ i=some k:=λi k hi hk=>by grind
 have own2:∀ i k,g2.aZ i=some k->(i=m/\k=c1)\/(i<m/\g.aZ i=some k):=λi k hk=>by
  grind
 let σ2:az:=aD ((.aj s, .ah (.aL m 0 sz els.length true))::(.af m, .aR bt els.flatten)::es)
 have sm:σ2 (.af m)= .aR bt els.flatten:=by simp only [σ2,aD];grind [cL,gY]
 have sb:∀ i,i≠m->σ2 (.af i)=aD es (.af i):=λi hi=>by simp only [σ2,aD];grind [cL]
 have sr:∀ i,σ2 (.aJ i)= .bq:=λi=>by simp only [σ2,aD];grind [cL]
 have sbk:∀ i,aD es (.af i)≠ .bq->aD es (.af i)=σ (.af i)/\i<m/\rf m (σ (.af i))=true:=λi hne=>by
  rcases he.nZ (.af i) with h1|⟨h1,h2,h3⟩
  ·exact absurd h1 hne
  ·exact ⟨h1,eH h2,h3⟩
 have isb:∀ i,(aD es (.af i)).dw=true->aD es (.af i)≠ .bq:=λi hl e=>by rw [e] at hl;cases hl
 have harr:arr.length=cap*sz:=by
  grind [World.shape?]
 cases hp with
 |iK vals hnil hc hsz ha hone hrep=>
 have hcells:∀ (p:Nat) (x:ae) (v:Value),els.flatten[p]? =some x->arr[p]? =some v->cb w g2.bJ x v:=λp x v hx hv=>by
  obtain ⟨el,f1,f2,f3⟩:=Cu sz els hsz p x hx;obtain ⟨blk,base,g1',g2',g3'⟩:=ha _ el _ x f1 f2;cases g1';rw [Nat.zero_add,f3] at g3';have hcv:w.cell? ⟨c1,p,none⟩=some v:=by grind [nk]
  rw [hcv] at g3';cases g3';exact (hrep _ el _ x f1 f2).C7 (hels el (List.mem_of_getElem? f1) x (List.mem_of_getElem? f2))
 refine ⟨g2,bh.lQ hh.dU (λk o hk=>hh.fU k o hk.1) (λk o hk=>⟨hh.kY k o hk,λe=>by subst e;rcases a1 with a1|a1;exact absurd (b.Kv _ o hk) om;exact b.Pk _ o hk a1⟩) (λk o hk hlt hx=>hh.kh k o hk.1 hlt hx) (λi k hk=>?_) (λi x hx=>?_) (λi k hk=>?_) (λi k N hk=>?_)
  (λi hl=>?_) (λi k hl hk=>?_) (λi j k hi hj hik hjk=>?_) (λi Y k hY hk=>?_) (λi t' sz' N hs'=>by grind),⟨hf.mN,hf.nW,λi hi=>?_⟩,⟨⟨λk o hk=>?_,λi k hk=>?_,λi bk N hr=>?_,λi k N hr=>?_⟩,hE.rR,hE.uC,hE.rQ⟩,om⟩
 ·grind
 ·grind
 ·rcases own2 i k hk with ⟨_,e⟩|⟨_,e⟩
  ·rw [e];exact a2
  ·exact hh.eU i k e
 ·simp only [g2] at hk;split at hk
  ·exact hh.gV i k N hk
  ·cases hk
 ·by_cases him:i=m
  ·grind
  ·have hl':(aD es (.af i)).dw=true:=by grind
   obtain ⟨u1,u2,_⟩:=sbk i (isb i hl');obtain ⟨k,v1,v2,v3,v4⟩:=hh.dq i (by grind);grind
 ·by_cases him:i=m
  ·subst him;rcases own2 i k hk with ⟨_,e⟩|⟨e,_⟩
   ·subst e;show mI w g2 k (σ2 (.af i));rw [sm];exact ⟨arr,z,a6,by rw [lA sz els hsz,harr];exact Nat.mul_le_mul_right _ hc,a7,hcells⟩
   ·omega
  ·have hl':(aD es (.af i)).dw=true:=by grind
   obtain ⟨u1,u2,u3⟩:=sbk i (isb i hl');rcases own2 i k hk with ⟨e,_⟩|⟨_,hk'⟩
   ·exact absurd e him
   show mI w g2 k (σ2 (.af i));rw [sb i him];have hcl:=hh.kF hk';have hsf:=q1 (.af i);rw [u1] at hsf ⊢;cases hx:σ (.af i) with
   |au t' cells=>
    rw [hx] at hcl hsf u3;obtain ⟨arr',w1,w2,w3⟩:=hcl;exact ⟨arr',w1,w2,λj x v h1 h2=>(w3 j x v h1 h2).ID (xW hsf j x h1) (mQ u3 j x h1) own1⟩
   |iR s' pos=>rw [hx] at hcl;exact hcl
   |c9 X=>
    rw [hx] at hcl hsf u3;cases X with
    |dP clock es'=>cases hsf
    |oO k' since seen last=>
     obtain ⟨q,w1,w2⟩:=hcl;exact ⟨q,own1 _ _ (eH u3) w1,w2⟩
   |aR _ _=>rw [hx] at hsf;cases hsf
   |eZ=>rw [hx] at hsf;cases hsf
   |_=>trivial
 ·by_cases him:i=m
  ·grind
  ·have hi':(aD es (.af i)).dw=true:=by grind
   obtain ⟨u1,u2,_⟩:=sbk i (isb i hi');rcases own2 i k hik with ⟨e,_⟩|⟨_,hk'⟩
   ·exact absurd e him
   by_cases hjm:j=m
   ·grind
   ·have hj':(aD es (.af j)).dw=true:=by grind
    obtain ⟨v1,v2,_⟩:=sbk j (isb j hj');rcases own2 j k hjk with ⟨e,_⟩|⟨_,hk''⟩
    ·exact absurd e hjm
    exact hh.iT i j k (by grind) (by grind) hk' hk''
 ·by_cases him:i=m
  ·grind
  ·have hY:σ2 (.af i)= .eT Y:=hY;rw [sb i him] at hY;obtain ⟨u1,_,_⟩:=sbk i (by rw [hY];simp);rcases own2 i k hk with ⟨e,_⟩|⟨_,hk'⟩
   ·exact absurd e him
   exact hh.lv i Y k (by grind) hk'
 ·by_cases hi2:i=s
  ·subst hi2;show aF w g2 (dV σ2 i) _;have e:dV σ2 i= .aL m 0 sz els.length true:=by unfold dV;simp only [σ2,aD];rw [gY]
   rw [e,hv];exact .kH (by simp [g2]) (λ_=>rfl) rfl hc (λ_=>⟨rfl,rfl,bt',hshape⟩)
  ·show aF w g2 (dV σ2 i) _;have e:σ2 (.aj i)=aD es (.aj i):=by simp only [σ2,aD];grind [cL]
   unfold dV;rw [e];rcases he.nZ (.aj i) with h1|⟨h1,_,h3⟩
   ·rw [h1];exact .jV
   ·have hr:=hf.kI i hi;have hsf:=q1 (.aj i);unfold dV at hr;rw [h1] at hsf ⊢;cases hx:σ (.aj i) with
    |ah x=>rw [hx] at hr h3 hsf;exact hr.ID hsf h3 own1
    |_=>exact .jV
 ·obtain ⟨u1,u2⟩:=hE.ee k o hk;grind
 ·obtain ⟨u1,u2⟩:=hE.kE i k hk;exact ⟨own1 i k (by have:=t.KE i k hk;omega) u1,u2⟩
 ·have h1:=t.ER i _ hr;obtain ⟨bk',N',u1,u2,u3⟩:=hE.vT i bk N hr;grind
 ·simp only [g2] at hr;split at hr
  ·exact hE.vS i k N hr
  ·cases hr
end
section
variable {P:Program} {T:cN} {b:ek P} {t:nU} {σ:az} {D:Nat->Prop} {g:cf} {a:Act} {w:World}
theorem aF.A1 {g':cf} {m:Nat} {x:ae} {v:Value} (h:aF w g x v) (hx:fX m x=true) (hF:g'.bJ=g.bJ) (ho:∀ i,i<m->g'.aZ i=g.aZ i) (hr:∀ i,i<m->g'.cu i=g.cu i):aF w g' x v:=by
 induction h with
 |bC h=>exact .bC (by rw [hF];exact h)
 |nT hl _ ih=>
  simp only [fX] at hx;exact .nT hl (λi x v h1 h2=>ih i x v h1 h2 (mQ hx i x h1))
 |jN hl _ ih=>
  simp only [fX] at hx;exact .jN hl (λi x v h1 h2=>ih i x v h1 h2 (mQ hx i x h1))
 |ni h=>simp only [fX] at hx;exact .ni (by simp_all)
 |qT vals ha h=>exact .qT vals (by rw [hF];exact ha) (by rw [hF];exact h)
 |jc h ht=>
  refine .jc (by rw [hF];exact h) ?_;rename_i tk _ _ _;cases tk with
  |av=>trivial
  |bR=>exact ht
  |dB id=>
   simp only [fX] at hx;obtain ⟨bk,N,h1,h2,h3⟩:=ht;exact ⟨bk,N,by simp_all,h2,h3⟩
  |cO id=>
   simp only [fX] at hx;obtain ⟨bk,N,h1,h2,h3⟩:=ht;exact ⟨bk,N,by simp_all,h2,h3⟩
 |kH h ha hs hl hf=>simp only [fX] at hx;exact .kH (by simp_all) ha hs hl hf
 |rU hl hm _ _ ih1 ih2=>
  simp only [fX] at hx;rename_i fs cs _ _ _ _;cases hfs:oc m fs with
  |false=>simp [hfs] at hx
  |true=>
   simp only [hfs] at hx;exact .rU hl hm (λi x v h1 h2=>ih1 i x v h1 h2 (mQ hfs i x h1)) (λi x v h1 h2=>ih2 i x v h1 h2 (mQ hx i x h1))
 |rV _ ih=>
  simp only [fX] at hx;exact .rV (ih hx)
 |qS h=>simp only [fX] at hx;exact .qS (by simp_all)
 |rW h=>simp only [fX] at hx;exact .rW (by simp_all)
 |pF h=>simp only [fX] at hx;exact .pF (by simp_all)
 |jV=>exact .jV
theorem mI.Fv {g':cf} {m c:Nat} {X:bs} (h:mI w g c X) (hx:rf m X=true) (hF:g'.bJ=g.bJ) (ho:∀ i,i<m->g'.aZ i=g.aZ i) (hr:∀ i,i<m->g'.cu i=g.cu i):mI w g' c X:=by
 cases X with
 |au t cells=>
  obtain ⟨arr,h1,h2,h3⟩:=h;exact ⟨arr,h1,h2,λi x v hx' hv=>(h3 i x v hx' hv).A1 (mQ hx i x hx') hF ho hr⟩
 |aR t cells=>
  obtain ⟨arr,z,h1,h2,h3,h4⟩:=h;exact ⟨arr,z,h1,h2,h3,λi x v hx' hv=>by grind⟩
 |iR s pos=>exact h
 |c9 X=>
  cases X with
  |dP clock es=>
   obtain ⟨arr,h1,h2,h3⟩:=h;exact ⟨arr,h1,h2,λi e x he hx'=>by grind⟩
  |oO k since seen last=>
   obtain ⟨q,q1,q2⟩:=h;exact ⟨q,by grind [rf,eH],q2⟩
 |eZ st pend nt tm ps assign body=>
  obtain ⟨r,hr'⟩:=h;exact ⟨r,hr'.qi,hr'.EL,hr'.EK,hr'.Ci,hr'.Aw,hr'.Cg,hr'.Ch,λx hx'=>⟨(hr'.uE x hx').1,(hr'.uE x hx').2.A1 (Lt hx x hx') hF ho hr⟩⟩
 |_=>trivial
inductive Fx where
 |cE (v:ae)
 |sh (clock:Nat) (es:iC)
def Rx (n:Nat):Fx->ae
 | .cE v=>v
 | .sh _ _=> .cg n
def pI (σ:az) (m n:Nat) (es:List (aS×bs)) (x:Fx):az:=λl=>match l with
 | .aj i=>σ (.aj i)
 | .aJ i=>match Nat.blt i m with|true=>aD es (.aJ i)|false=>σ (.aJ i)
 | .af i=>match Nat.blt i m with
  |true=>aD es (.af i)
  |false=>match x with
   | .cE _=>σ (.af i)
   | .sh clock es=>match Nat.beq i n with|true=> .c9 (.dP clock es)|false=>σ (.af i)
def aaa (m:Nat) (σ:az) (v:ae):Fx->Prop
 | .cE r=>v=r/\fX m r=true
 | .sh clock es=>∃ k,m<=k/\v= .cg k/\σ (.af k)= .c9 (.dP clock es)
def wm:List (aS×bs)->Bool
 |[]=>true
 |(_, .eT _)::_=>false
 |_::es=>wm es
theorem Fz:∀ {es:List (aS×bs)},wm es=true->∀ l X,aD es l≠ .eT X
 |[],_,l,X=>by simp [aD]
 |(l',c)::es,h,l,X=>by
  rw [aD]
  by_cases e:l=l'
  ·subst e;rw [gY];intro h';subst h';cases h
  ·rw [cL e];refine Fz ?_ l X;cases c<;>first|exact h|cases h
def cG (m:Nat) (Q:Fx->List (aS×bs)->Prop) (v:ae) (σ:az) (_n:Nat):Prop:=∃ x es,Q x es/\wm es=true/\aaa m σ v x/\lB σ m es
theorem bz.Fp {f:FuncId} {args:List ae} {m n:Nat} {K:ae->az->Nat->Prop} {Q:Fx->List (aS×bs)->Prop} {es:List (aS×bs)} (hw:lB σ m es) (hro:wm es=true) (hmn:m<=n) (hargs:oc m args=true)
  (h:bz P f args (aD es) m (cG m Q)) (hK:∀ x es',Q x es'->K (Rx n x) (pI σ m n es' x) (n+1)):bz P f args σ n K:=by
 refine ⟨h.r9,λb g w vals hs hvl hv=>?_⟩;have cutown:∀ id c,(g.fj m).aZ id=some c->g.aZ id=some c/\id<m:=λid c hc=>by
  simp only [cf.fj] at hc;split at hc
  ·exact ⟨hc,by assumption⟩
  ·cases hc
 have cutrow:∀ id c,(g.fj m).cu id=some c->g.cu id=some c/\id<m:=λid c hc=>by
  simp only [cf.fj] at hc;split at hc
  ·exact ⟨hc,by assumption⟩
  ·cases hc
 have ownc:∀ id,id<m->(g.fj m).aZ id=g.aZ id:=λid h=>by simp [cf.fj,h]
 have rowc:∀ id,id<m->(g.fj m).cu id=g.cu id:=λid h=>by simp [cf.fj,h]
 have hb:∀ id,aD es (.af id)≠ .bq->aD es (.af id)=σ (.af id)/\id<m/\rf m (σ (.af id))=true:=λid hne=>by
  rcases hw.nZ (.af id) with h1|⟨h1,h2,h3⟩
  ·exact absurd h1 hne
  ·exact ⟨h1,eH h2,h3⟩
 have hrw:∀ id,aD es (.aJ id)≠ .bq->aD es (.aJ id)=σ (.aJ id)/\id<m:=λid hne=>by
  rcases hw.nZ (.aJ id) with h1|⟨h1,h2,h3⟩
  ·exact absurd h1 hne
  ·exact ⟨h1,eH h2⟩
 have isb:∀ id,(aD es (.af id)).dw=true->aD es (.af id)≠ .bq:=λid hl e=>by rw [e] at hl;cases hl
 let ex:Nat->Prop:=λc=>(∃ id,(aD es (.af id)).dw=true/\g.aZ id=some c)\/(∃ id t sz N N',aD es (.aJ id)= .aN t sz N/\g.cu id=some (some c,N'))
 have exMine:∀ c,ex c->b.rP c:=λc hc=>by
  rcases hc with ⟨id,h1,h2⟩|⟨id,t,sz,N,N',h1,h2⟩
  ·obtain ⟨c',q1,q2,_⟩:=hs.dq id (by rw [<-(hb id (isb id h1)).1];exact h1);rw [h2] at q1;cases q1;exact q2
  ·obtain ⟨bk,q1,q2⟩:=hs.fA id t sz N (by rw [<-(hrw id (by rw [h1];simp)).1];exact h1);rw [h2] at q1;cases q1;exact (q2 c rfl).1
 have hidden:∀ id c,m<=id->(σ (.af id)).dw=true->g.aZ id=some c->¬ex c:=λid c hm hl hc he=>by
  rcases he with ⟨id',h1,h2⟩|⟨id',t,sz,N,N',h1,h2⟩
  ·obtain ⟨e1,e2,_⟩:=hb id' (isb id' h1);have:=hs.iT id id' c hl (by rw [<-e1];exact h1) hc h2;omega
  ·obtain ⟨bk,q1,q2⟩:=hs.fA id' t sz N (by rw [<-(hrw id' (by rw [h1];simp)).1];exact h1);simp_all
 have hiddenR:∀ id t sz N c N',m<=id->σ (.aJ id)= .aN t sz N->g.cu id=some (some c,N')->¬ex c:=λid t sz N c N' hm hl hc he=>by
  obtain ⟨bk,q1,q2⟩:=hs.fA id t sz N hl;grind
 have notMine:∀ k,k<b.lr.heap.size->¬b.oK k->¬ex k:=λk h1 h2 h3=>by
  rcases exMine k h3 with h|h
  ·omega
  ·exact h2 h
 have tr:∀ {w':World},oL ex w.heap.size w w'->oL b.oK b.lr.heap.size b.lr w':=fun {w'} hx=>by
  have hsz:=hs.dU.kX;exact hs.dU.xl ⟨hx.Cb,hx.Cd,hx.Cc,hx.kX,λk hk hn=>hx.qR k om (notMine k hk hn),λk hk=>hx.uB k om⟩
 let b':ek P:=⟨w,λk o=>g.bJ k o/\¬ex k,ex,λw' hx=>b.EB w' (tr hx),λk o hk=>hs.fU k o hk.1,λ_ _ hk=>hk.2⟩
 have hsim:bh b' (aD es) (·<m) (g.fj m) w:=by
  refine bh.lQ (oL.EC _ _ _) hs.fU (λ_ _ hk=>hk.1) (λk o hk _ hx=>⟨hk,hx⟩) (λid c hc=>(cutown id c hc).2) (λid c hc=>(cutrow id c hc).2) (λid c hc=>hs.eU id c (cutown id c hc).1) (λid c N hc=>hs.gV id c N (cutrow id _ hc).1)
   (λid hl=>?_) (λid c hl hc=>?_) (λi j k hi hj hci hcj=>?_) (λid Y c hs' _=>absurd hs' (Fz hro _ _)) (λid t' sz N hs'=>?_)
  ·obtain ⟨e1,e2,_⟩:=hb id (isb id hl);obtain ⟨c,h1,h2,h3,h4⟩:=hs.dq id (by simp_all);exact ⟨c,by simp_all, .inr (.inl ⟨id,hl,h1⟩),h3,h4⟩
  ·obtain ⟨e1,e2,e3⟩:=hb id (isb id hl);rw [e1] at hl ⊢;exact (hs.kF (cutown id c hc).1).Fv e3 rfl ownc rowc
  ·obtain ⟨e1,_,_⟩:=hb i (isb i hi);obtain ⟨e2,_,_⟩:=hb j (isb j hj);exact hs.iT i j k (by simp_all) (by simp_all) (cutown _ _ hci).1 (cutown _ _ hcj).1
  ·obtain ⟨e1,e2⟩:=hrw id (by rw [hs'];simp);obtain ⟨bk,h1,h2⟩:=hs.fA id t' sz N (by simp_all);refine ⟨bk,by simp_all,λk hk=>?_⟩;obtain ⟨b1,b2,b3,b4,b5,b6⟩:=h2 k hk;refine ⟨.inr (.inr ⟨id,t',sz,N,N,hs',by rw [h1,hk]⟩),b2,b3,λj hl hc=>?_,λj t'' sz'' M M' hj hr=>?_,b6⟩
   ·grind
   grind
 refine (h.q8 b' (g.fj m) w vals hsim hvl λi x v hx hv'=>(hv i x v hx hv').A1 (mQ hargs i x hx) rfl ownc rowc).mono ?_;rintro e w' ⟨v,x,σ1,n1,g1,rfl,⟨y,es',hq,hro',hout,hw'⟩,hmn1,hrep,hs1,hE⟩;have hb1:∀ id,aD es' (.af id)≠ .bq->aD es' (.af id)=σ1 (.af id)/\id<m/\rf m (σ1 (.af id))=true:=λid hne=>by
  rcases hw'.nZ (.af id) with h1|⟨h1,h2,h3⟩
  ·exact absurd h1 hne
  ·exact ⟨h1,eH h2,h3⟩
 have hrw1:∀ id,aD es' (.aJ id)≠ .bq->aD es' (.aJ id)=σ1 (.aJ id)/\id<m:=λid hne=>by
  rcases hw'.nZ (.aJ id) with h1|⟨h1,h2,h3⟩
  ·exact absurd h1 hne
  ·exact ⟨h1,eH h2⟩
 have isb1:∀ id,(aD es' (.af id)).dw=true->aD es' (.af id)≠ .bq:=λid hl e=>by rw [e] at hl;cases hl
 have hsz:w.heap.size<=w'.heap.size:=hE.rR;have hfr:=hs.nX;obtain ⟨kk,hkk⟩:∃ kk:Option Nat,(∀ c,kk=some c->∃ clock el k,y= .sh clock el/\m<=k/\σ1 (.af k)= .c9 (.dP clock el)/\x= .cg k/\g1.aZ k=some c)/\(∀ clock el,y= .sh clock el->kk≠none):=by
  cases y with
  |cE r=>exact ⟨none,(λc hc=>by cases hc),(λ_ _ hc=>by cases hc)⟩
  |sh clock el=>
   obtain ⟨k,q1,q2,q3⟩:=hout;obtain ⟨c,q4,_⟩:=hs1.dq k (by rw [q3];rfl);exact ⟨some c,(λc' hc'=>⟨clock,el,k,rfl,q1,q3,q2,by cases hc';exact q4⟩),(λ_ _ _=>by simp)⟩
 let g':cf:=⟨g1.bJ,λi=>if i<m then g1.aZ i else if i=n then kk else g.aZ i,λi=>if i<m then g1.cu i else g.cu i⟩
 have go1:∀ i,i<m->g'.aZ i=g1.aZ i:=λi hi=>by simp [g',hi]
 have gr1:∀ i,i<m->g'.cu i=g1.cu i:=λi hi=>by simp [g',hi]
 have go2:∀ i,m<=i->i≠n->g'.aZ i=g.aZ i:=λi hi hn=>by grind
 have gon:g'.aZ n=kk:=by grind
 have gr2:∀ i,m<=i->g'.cu i=g.cu i:=λi hi=>by grind
 have hF1:∀ c o,g1.bJ c o->c<w.heap.size->¬ex c->g.bJ c o:=λc o h1 h2 h3=>(hs1.kh c o h1 h2 h3).1
 have hC:vR g w g' w':=by
  refine ⟨hE.ee,λid c hc=>?_,λid bk N hr=>?_,λid c N hr=>?_⟩
  ·by_cases hi:id<m
   ·rw [go1 id hi];exact hE.kE id c (by simp_all)
   ·rw [go2 id om (λe=>by simp_all)];exact ⟨hc,hs1.dU.uB c (hs.eU id c hc)⟩
  ·by_cases hi:id<m
   ·rw [gr1 id hi];exact hE.vT id bk N (by simp_all)
   ·rw [gr2 id om];exact ⟨bk,N,hr,Nat.le_refl _,λ_=>⟨rfl,λc hc=>hs1.dU.uB c (hs.gV id c N (by rw [hr,hc]))⟩⟩
  ·by_cases hi:id<m
   ·rw [gr1 id hi] at hr;rcases hE.vS id c N hr with ⟨N0,h1⟩|h1
    ·simp_all
    ·exact .inr h1
   simp_all
 have ob:∀ id,id<m->pI σ m n es' y (.af id)=aD es' (.af id):=λid hi=>by
  have:Nat.blt id m=true:=by simp_all
  simp only [pI,this]
 have ob2:∀ id,m<=id->id≠n->pI σ m n es' y (.af id)=σ (.af id):=λid hi hne=>by
  have h1:Nat.blt id m=false:=by
   grind [eH]
  have h2:Nat.beq id n=false:=by
   grind [Nat.eq_of_beq_eq_true]
  simp only [pI,h1];grind
 have obn:pI σ m n es' y (.af n)=match y with| .cE _=>σ (.af n)| .sh clock el=> .c9 (.dP clock el):=by
  have h1:Nat.blt n m=false:=by
   grind [eH]
  have h2:Nat.beq n n=true:=Nat.beq_refl n;simp only [pI,h1];cases y<;>simp only [h2]
 have orr:∀ id,id<m->pI σ m n es' y (.aJ id)=aD es' (.aJ id):=λid hi=>by
  grind [Nat.blt_eq,pI]
 have orr2:∀ id,m<=id->pI σ m n es' y (.aJ id)=σ (.aJ id):=λid hi=>by
  grind [eH,pI]
 have kind:∀ id c,(pI σ m n es' y (.af id)).dw=true->g'.aZ id=some c->
   (∃ k,(id<m/\k=id\/id=n/\m<=k)/\(σ1 (.af k)).dw=true/\g1.aZ k=some c/\pI σ m n es' y (.af id)=σ1 (.af k))\/(m<=id/\(σ (.af id)).dw=true/\g.aZ id=some c/\pI σ m n es' y (.af id)=σ (.af id)):=λid c hl hc=>by
  by_cases hi:id<m
  ·grind
  ·by_cases hn:id=n
   ·subst hn;rw [gon] at hc;obtain ⟨clock,el,k,e1,e2,e3,e4,e5⟩:=hkk.1 c hc;subst e1;exact .inl ⟨k, .inr ⟨rfl,e2⟩,by rw [e3];rfl,e5,by rw [obn,e3]⟩
   ·rw [ob2 id om hn] at hl ⊢;rw [go2 id om hn] at hc;exact .inr ⟨om,hl,hc,rfl⟩
 have new1:∀ k c,(σ1 (.af k)).dw=true->g1.aZ k=some c->w.heap.size<=c\/ex c:=λk c hl hc=>by
  obtain ⟨c',q1,q2,_⟩:=hs1.dq k hl;rw [hc] at q1;cases q1;exact q2
 have old1:∀ id c,m<=id->(σ (.af id)).dw=true->g.aZ id=some c->¬(w.heap.size<=c\/ex c):=λid c hm hl hc h=>by
  rcases h with h|h
  ·have:=hs.eU id c hc;omega
  ·exact hidden id c hm hl hc h
 have mine1:∀ c,w.heap.size<=c\/ex c->b.rP c:=λc h=>by
  rcases h with h|h
  ·exact .inl (Nat.le_trans hs.dU.kX h)
  ·exact exMine c h
 have hout':bh b (pI σ m n es' y) (·<n+1) g' w':=by
  refine bh.lQ (tr hs1.dU) hs1.fU (λk o hk=>(hE.ee k o (hs.kY k o hk)).1) (λk o hk hlt hx=>hs.kh k o (hF1 k o hk (Nat.lt_of_lt_of_le hlt hs.dU.kX) (notMine k hlt hx)) hlt hx)
   (λid c hc=>?_) (λid c hc=>?_) (λid c hc=>?_) (λid c N hc=>?_) (λid hl=>?_) (λid c hl hc=>?_) (λi j c hi hj hci hcj=>?_) (λid Y c hs' hc=>?_) (λid t' sz N hs'=>?_)
  ·by_cases hi:id<m
   ·show id<n+1;omega
   ·by_cases hn:id=n
    ·show id<n+1;omega
    ·rw [go2 id om hn] at hc;have:=hs.lu id c hc;show id<n+1;omega
  ·by_cases hi:id<m
   ·show id<n+1;omega
   ·rw [gr2 id om] at hc;have:=hs.ki id c hc;show id<n+1;omega
  ·by_cases hi:id<m
   ·rw [go1 id hi] at hc;exact hs1.eU id c hc
   ·by_cases hn:id=n
    ·subst hn;rw [gon] at hc;obtain ⟨_,_,k,_,_,_,_,e5⟩:=hkk.1 c hc;exact hs1.eU k c e5
    ·rw [go2 id om hn] at hc;exact Nat.lt_of_lt_of_le (hs.eU id c hc) hsz
  ·by_cases hi:id<m
   ·rw [gr1 id hi] at hc;exact hs1.gV id c N hc
   ·rw [gr2 id om] at hc;exact Nat.lt_of_lt_of_le (hs.gV id c N hc) hsz
  ·
   by_cases hi:id<m
   ·rw [ob id hi] at hl;obtain ⟨e1,_,_⟩:=hb1 id (isb1 id hl);obtain ⟨c,h1,h2,h3,h4⟩:=hs1.dq id (by rw [<-e1];exact hl);exact ⟨c,by rw [go1 id hi];exact h1,mine1 c h2,h3,h4⟩
   ·by_cases hn:id=n
    ·subst hn;cases y with
     |cE r=>
      rw [obn] at hl;obtain ⟨c,h1,_⟩:=hs.dq id hl;rw [hfr.1] at h1;cases h1
     |sh clock el=>
      cases hkc:kk with
      |none=>exact absurd hkc (hkk.2 clock el rfl)
      |some c=>
       obtain ⟨_,_,k,_,e2,e3,_,e5⟩:=hkk.1 c hkc;obtain ⟨c',h1,h2,h3,h4⟩:=hs1.dq k (by rw [e3];rfl);rw [e5] at h1;cases h1;exact ⟨c,by rw [gon,hkc],mine1 c h2,h3,h4⟩
    ·rw [ob2 id om hn] at hl;obtain ⟨c,h1,h2,h3,h4⟩:=hs.dq id hl;refine ⟨c,by rw [go2 id om hn];exact h1,h2,Nat.lt_of_lt_of_le h3 hsz,λo ho=>h4 o (hF1 c o ho h3 (hidden id c om hl h1))⟩
  ·
   by_cases hi:id<m
   ·rw [ob id hi] at hl ⊢;obtain ⟨e1,_,e3⟩:=hb1 id (isb1 id hl);rw [e1];exact (hs1.kF (by rw [<-go1 id hi];exact hc)).Fv e3 rfl go1 gr1
   ·by_cases hn:id=n
    ·subst hn;rw [gon] at hc;obtain ⟨clock,el,k,e1,e2,e3,e4,e5⟩:=hkk.1 c hc;subst e1;rw [obn];have:=hs1.kF e5;rw [e3] at this;exact this
    ·rw [ob2 id om hn] at hl ⊢;rw [go2 id om hn] at hc;exact (hs.kF hc).ED hC (hs1.dU.qR c (hs.eU id c hc) (hidden id c om hl hc))
  ·
   rcases kind i c hi hci with ⟨k,h1,h2,h3,_⟩|⟨h1,h2,h3,_⟩<;>rcases kind j c hj hcj with ⟨k',h1',h2',h3',_⟩|⟨h1',h2',h3',_⟩
   ·have:=hs1.iT k k' c h2 h2' h3 h3';omega
   ·exact absurd (new1 k c h2 h3) (old1 j c h1' h2' h3')
   ·exact absurd (new1 k' c h2' h3') (old1 i c h1 h2 h3)
   ·exact hs.iT i j c h2 h2' h3 h3'
  ·
   by_cases hi:id<m
   ·rw [ob id hi] at hs';exact absurd hs' (Fz hro' _ _)
   ·by_cases hn:id=n
    ·subst hn;rw [gon] at hc;obtain ⟨clock,el,k,e1,_⟩:=hkk.1 c hc;subst e1;rw [obn] at hs';cases hs'
    ·rw [ob2 id om hn] at hs';rw [go2 id om hn] at hc;exact hs.lv id Y c hs' hc
  ·
   by_cases hi:id<m
   ·rw [orr id hi] at hs';obtain ⟨e1,_⟩:=hrw1 id (by rw [hs'];simp);obtain ⟨bk,h1,h2⟩:=hs1.fA id t' sz N (by rw [<-e1];exact hs');refine ⟨bk,by rw [gr1 id hi];exact h1,λc hc=>?_⟩;obtain ⟨b1,b2,b3,b4,b5,b6⟩:=h2 c hc;refine ⟨mine1 c b1,b2,b3,λj hl hc'=>?_,λj t'' sz'' M M' hj hr=>?_,b6⟩
    ·rcases kind j c hl hc' with ⟨k,q1,q2,q3,_⟩|⟨q1,q2,q3,_⟩
     ·exact b4 k q2 q3
     ·exact old1 j c q1 q2 q3 b1
    ·by_cases hjm:j<m
     ·rw [orr j hjm] at hj;obtain ⟨e2,_⟩:=hrw1 j (by rw [hj];simp);exact b5 j t'' sz'' M M' (by rw [<-e2];exact hj) (by rw [<-gr1 j hjm];exact hr)
     ·rw [orr2 j om] at hj;rw [gr2 j om] at hr;exfalso;rcases b1 with b1|b1
      ·have:=hs.gV j c M' hr;have:w.heap.size<=c:=b1;omega
      ·exact hiddenR j t'' sz'' M c M' om hj hr b1
   ·rw [orr2 id om] at hs';obtain ⟨bk,h1,h2⟩:=hs.fA id t' sz N hs';refine ⟨bk,by rw [gr2 id om];exact h1,λc hc=>?_⟩;obtain ⟨b1,b2,b3,b4,b5,arr,z,b6,b7⟩:=h2 c hc;have hne:¬ex c:=hiddenR id t' sz N c N om hs' (by rw [h1,hc]);refine ⟨b1,Nat.lt_of_lt_of_le b2 hsz,λo ho=>b3 o (hF1 c o ho b2 hne),λj hl hc'=>?_,λj t'' sz'' M M' hj hr=>?_,arr,z,(hs1.dU.qR c b2 hne).trans b6,b7⟩
    ·rcases kind j c hl hc' with ⟨k,q1,q2,q3,_⟩|⟨q1,q2,q3,_⟩
     ·rcases new1 k c q2 q3 with h|h
      ·omega
      ·exact hne h
     ·exact b4 j q2 q3
    ·by_cases hjm:j<m
     ·rw [orr j hjm] at hj;obtain ⟨e2,_⟩:=hrw1 j (by rw [hj];simp);obtain ⟨bk',q1,q2⟩:=hs1.fA j t'' sz'' M (by grind);rw [gr1 j hjm] at hr;rw [hr] at q1;cases q1;exfalso;rcases (q2 c rfl).1 with h|h
      ·have:w.heap.size<=c:=h;omega
      ·exact hne h
     grind
 refine ⟨v,Rx n y,pI σ m n es' y,n+1,g',rfl,hK y es' hq,Nat.le_succ n,?_,hout',⟨hC,hE.rR,hE.uC,hE.rQ⟩⟩;cases y with
 |cE r=>
  obtain ⟨rfl,hr⟩:=hout;exact hrep.A1 hr rfl go1 gr1
 |sh clock el=>
  cases hkc:kk with
  |none=>exact absurd hkc (hkk.2 clock el rfl)
  |some c=>
   obtain ⟨_,_,k,_,e2,e3,e4,e5⟩:=hkk.1 c hkc;subst e4;obtain ⟨c',q1,rfl⟩:=hrep.xu;rw [e5] at q1;cases q1;exact .pF (by rw [gon,hkc])
end
section
variable {P:Program} {T:cN} {σ:az}
structure Rj (P:Program) (f:FuncId) (args:List ae) (R:ae->Prop):Prop where
 aag:oP P f
 aah:∀ (w:World) (F:Nat->Nat->Prop) (vals:List Value),mb P w->(∀ k o,F k o->k<w.heap.size)->vals.length=args.length->(∀ (i:Nat) (x:ae) (v:Value),args[i]? =some x->vals[i]? =some v->cb w F x v)->
  Calls P f vals.toArray w λe w'=>∃ v F' res,e= .returned v/\(Below w.heap.size w w'/\w.drawn<=w'.drawn)/\(∀ k o,F k o->F' k o)/\(∀ k o,F' k o->F k o\/(w.heap.size<=k/\k<w'.heap.size))/\R res/\cb w' F' res v
def RA (R:ae->Prop) (T:cN) (fn:Func) (e:Exit) (σ:az) (_n:Nat):Prop:=
 match e with
 | .normal=>match mR σ T fn.results.toList with|some vs=>∃ res,R res/\zm iL σ (xL vs) res|none=>False
 | .ret=>match mR σ T fn.results.toList with|some vs=>∃ res,R res/\zm iL σ (xL vs) res|none=>False
 |_=>False
end
section
variable {P:Program} {T:cN} {b:ek P} {σ:az} {D:Nat->Prop} {g:cf} {w:World}
theorem bh.LG (h:bh b σ D g w) (x:ae):bh b (aU σ (.aJ 0) (.ah x)) D g w:=by
 have h1:=h.s7 (.aJ 0);refine bh.lQ h1.dU h1.fU h1.kY h1.kh h1.lu h1.ki h1.eU h1.gV (λid hl=>?_) (λid c hl hc=>?_) (λi j k hi hj=>?_) (λid Y c hs hc=>?_) (λid t sz N hs=>?_)
 ·rw [cL (by intro e;cases e)] at hl;exact h.dq id hl
 ·rw [cL (by intro e;cases e)] at hl ⊢;exact h.kF hc
 ·rw [cL (by intro e;cases e)] at hi hj;exact h.iT i j k hi hj
 ·rw [cL (by intro e;cases e)] at hs;exact h.lv id Y c hs hc
 ·by_cases e:id=0
  ·grind [gY]
  ·have e1:(aU σ (.aJ 0) (.ah x)) (.aJ id)=σ (.aJ id):=cL (by simp_all);rw [e1] at hs;obtain ⟨bk,k1,k2⟩:=h.fA id t sz N hs;grind [cL,gY]
theorem bh.IB (h:bh b σ D g w):bh b (aU σ (.aJ 0) (.ah .bV)) D g w:=h.LG _
theorem bh.Rh (h:bh b σ D g w):bh b (aU σ (.aJ 1) (.ah .bV)) D g w:=by
 have h1:=h.s7 (.aJ 1);refine bh.lQ h1.dU h1.fU h1.kY h1.kh h1.lu h1.ki h1.eU h1.gV (λid hl=>?_) (λid c hl hc=>?_) (λi j k hi hj=>?_) (λid Y c hs hc=>?_) (λid t sz N hs=>?_)
 ·rw [cL (by intro e;cases e)] at hl;exact h.dq id hl
 ·rw [cL (by intro e;cases e)] at hl ⊢;exact h.kF hc
 ·rw [cL (by intro e;cases e)] at hi hj;exact h.iT i j k hi hj
 ·rw [cL (by intro e;cases e)] at hs;exact h.lv id Y c hs hc
 ·by_cases e:id=1
  ·grind [gY]
  ·have e1:(aU σ (.aJ 1) (.ah .bV)) (.aJ id)=σ (.aJ id):=cL (by simp_all);rw [e1] at hs;obtain ⟨bk,k1,k2⟩:=h.fA id t sz N hs;grind [cL,gY]
theorem bz.zo {f:FuncId} {args:List ae} {n:Nat} {K:ae->az->Nat->Prop} (h:bz P f args (aU σ (.aJ 0) (.ah .bV)) n (λv σ' n'=>K v (aU σ' (.aJ 0) .bq) n')):bz P f args σ n K:=
 ⟨h.r9,λb g w vals hs hl hv=>(h.q8 b g w vals hs.IB hl hv).mono λ_ _ ⟨v,x,_,n',g',e1,e2,e3,e4,e5,e6⟩=>⟨v,x,_,n',g',e1,e2,e3,e4,e5.s7 _,e6⟩⟩
theorem bz.LC {f:FuncId} {args:List ae} {n:Nat} {K:ae->az->Nat->Prop} (h:bz P f args (aU σ (.aJ 1) (.ah .bV)) n (λv σ' n'=>K v (aU σ' (.aJ 1) .bq) n')):bz P f args σ n K:=
 ⟨h.r9,λb g w vals hs hl hv=>(h.q8 b g w vals hs.Rh hl hv).mono λ_ _ ⟨v,x,_,n',g',e1,e2,e3,e4,e5,e6⟩=>⟨v,x,_,n',g',e1,e2,e3,e4,e5.s7 _,e6⟩⟩
theorem db.wh {r:Option Nat} {nt lo n:Nat} {c:Code} {K:Exit->az->Nat->Prop} (h:db P r nt lo c (aU σ (.aJ 0) (.ah .bV)) n K):db P r nt lo c σ n K:=
 ⟨λb t a w hl hsim=>h.jG b t a w hl (by
  obtain ⟨g,hh,hf,hE,hn⟩:=hsim;exact ⟨g,hh.IB,hf.qo (λi=>by trivial),hE,hn⟩)⟩
theorem db.LF {r:Option Nat} {nt lo n:Nat} {c:Code} {K:Exit->az->Nat->Prop} (h:db P r nt lo c (aU σ (.aJ 0) .bq) n K):db P r nt lo c σ n K:=
 ⟨λb t a w hl hsim=>h.jG b t a w hl (by
  obtain ⟨g,hh,hf,hE,hn⟩:=hsim;exact ⟨g,hh.s7 _,hf.qo (λi=>by trivial),hE,hn⟩)⟩
structure nz (P:Program) (f:FuncId) (args:List ae) (e:TypeId) (sz len:Nat) (cells:List ae):Prop where
 aae:oP P f
 aaf:∀ (w:World) (F:Nat->Nat->Prop) (vals:List Value),mb P w->(∀ k o,F k o->k<w.heap.size)->vals.length=args.length->(∀ (i:Nat) (x:ae) (v:Value),args[i]? =some x->vals[i]? =some v->cb w F x v)->
  Calls P f vals.toArray w λed w'=>∃ c cap F',ed= .returned (.slice (some ⟨c,0,none⟩) len cap)/\(Below w.heap.size w w'/\w.drawn<=w'.drawn)/\(∀ k o,F k o->F' k o)/\(∀ k o,F' k o->F k o\/(w.heap.size<=k/\k<w'.heap.size))/\
   w.heap.size<=c/\c<w'.heap.size/\(∀ o,¬F' c o)/\len<=cap/\(∃ t,w'.shape? c=some (t,cap*sz))/\mI w' ⟨F',λ_=>none,λ_=>none⟩ c (.aR e cells)
def Rz (T:cN) (fn:Func) (e:TypeId) (sz len:Nat) (cells:List ae) (ex:Exit) (σ:az) (_n:Nat):Prop:=
 match ex with
 | .normal=>∃ k,mR σ T fn.results.toList=some [.aL k 0 sz len true]/\σ (.af k)= .aR e cells
 | .ret=>∃ k,mR σ T fn.results.toList=some [.aL k 0 sz len true]/\σ (.af k)= .aR e cells
 |_=>False
theorem Rr (args:List ae) (x:ae):aU (n5 args) (.aJ 0) (.ah x)=zn (aU (λ_=> .bq) (.aJ 0) (.ah x)) args:=by
 funext l;cases l with
 |aJ i=>cases i<;>rfl
 |_=>rfl
theorem aal (T:cN) (fn:Func) (e:TypeId) (sz len:Nat) (cells:List ae) {ex:Exit} {σ:az} {n:Nat} (h:Rz T fn e sz len cells ex σ n):uO T fn (λv σ _=>∃ k,v= .aL k 0 sz len true/\σ (.af k)= .aR e cells) ex σ n:=by
 cases ex<;>first|exact h|(obtain ⟨k,h1,h2⟩:=h;simp only [uO,h1];exact ⟨k,rfl,h2⟩)
theorem nz.aka (hT:dA P T) (hm:P.follows .mixedOrders=true) {f:FuncId} {fn:Func} {c:Code} (hf:P.funcs[f]? =some fn) (hb:fn.body=some c) (hn:(fn.name== "runtime.NumGoroutine")=false) {args:List ae} {e:TypeId} {sz len:Nat} {cells:List ae} (hl:Nat.ble args.length fn.ntmps=true) (hro:lE fn.ntmps fn.results.toList=true)
  (h:oR P T none fn.ntmps 0 c (aU (n5 args) (.aJ 0) (.ah .bV)) 0 (Rz T fn e sz len cells)):nz P f args e sz len cells:=by
 have h:=(se hT hm _ _ _ _ h).KU λ_ _ _ q=>aal T fn e sz len cells q
 rw [Rr] at h;refine ⟨lC hf hb hn,λw F vals hG hF hvl hv=>(bz.E4 (bz.xG hT hf hb hn hl hro h) w F hG hF (bh.H5 w F hG hF).IB hvl λi x v hx hy=> .bC (hv i x v hx hy)).mono ?_⟩;rintro _ w' ⟨v,x,σ',n',g',he,⟨k,rfl,hbk⟩,hrep,hs,hb,h0,h1⟩;obtain ⟨c,cap,ad,p1,rfl,p3,p4,p5,p6⟩:=aF.mK hrep;obtain ⟨_,rfl,tt,hshape⟩:=p6 rfl;obtain ⟨c',l1,l2,l3,l4⟩:=hs.dq k (by rw [hbk];rfl);rw [p1] at l1;cases l1;obtain ⟨arr,z,m1,m2,m3,m4⟩:=hs.oN k e cells c hbk p1;exact ⟨c,cap,g'.bJ,he,hb,h0,h1,l2.resolve_right (λh=>h),l3,l4,p5,⟨tt,hshape⟩,arr,z,m1,m2,m3,m4⟩
theorem mi.tF {f:FuncId} {args:List ae} {e:TypeId} {sz len n:Nat} {cells:List ae} (hp:nz P f (q9 args) e sz len cells) (hpure:rb args=true):mi P 0 f args σ n [] [(.af n, .aR e cells)] (.aL n 0 sz len true):=by
 refine ⟨hp.aae,λσ' _ b D g w vals _ h hf1 hf2 hvl hv=>?_⟩;refine (hp.aaf w g.bJ vals h.Au h.fU (by grind [E8]) (λi x v hx hvv=>?_)).mono ?_
 ·grind [Ff,CZ]
 ·rintro ed w' ⟨c,cap,F',rfl,h2,h3,h4,h5,h6,h7,h8,⟨tt,h9⟩,hcl⟩;have k1:=h.yZ h2.1 h2.2 h3 h4;have e1:=h.xn h2.1 h2.2 h3;have k2:=k1.Hj (f:=n) (c:=c) (X:= .aR e cells) hf1 rfl (.inl (Nat.le_trans h.dU.kX h5)) h6 h7 (λid hl hc=>?_) (λid t sz N N' hs hr=>?_) ?_
  ·refine ⟨_,_,rfl, .kH (cf.mJ _ _ _) (λ_=>rfl) rfl h8 (λ_=>⟨rfl,rfl,tt,h9⟩),k2,e1.gD (dp.EE hf1)⟩
  ·have:=h.eU id c hc;omega
  ·have:=h.gV id c N' hr;omega
  trivial
theorem bz.xP {f:FuncId} {args:List ae} {e:TypeId} {sz len n:Nat} {cells:List ae} {K:ae->az->Nat->Prop} (hp:nz P f (q9 args) e sz len cells) (hpure:rb args=true) (hk:K (.aL n 0 sz len true) (aU σ (.af n) (.aR e cells)) (n+1)):bz P f args σ n K:=by
 have h:=mi.tF (σ:=σ) (n:=n) hp hpure;refine ⟨h.AI,λb g w vals hs hl hv=>(h.AJ σ (λ_ h=>by cases h) b _ g w vals (λi hi=>by omega) hs hs.nX.1 hs.nX.2 hl hv).mono ?_⟩;rintro ed w' ⟨v,g',e1,e2,e3,e4⟩;exact ⟨v,_,_,n+1,g',e1,hk,Nat.le_succ n,e2,e3.iU (λi hi=>by omega),e4⟩
end
section
variable {P:Program} {T:cN} {b:ek P} {σ:az} {D:Nat->Prop} {g:cf} {w:World}
def tH:List (aS×bs)->Bool
 |[]=>true
 |(.af i, .au ..)::us=>(us.all λx=>!((aS.af i).y6 x.1)) && tH us
 |(.af i, .aR ..)::us=>(us.all λx=>!((aS.af i).y6 x.1)) && tH us
 |_=>false
theorem FA:∀ {es:List (aS×bs)} {l:aS},aD es l≠ .bq->l∈es.map (·.1)
 |[],l,h=>absurd rfl h
 |(l',c)::es,l,h=>by
  by_cases e:l=l'
  ·subst e;simp
  ·rw [aD,cL e] at h;simp [FA h]
theorem LM:∀ {es:List (aS×bs)},tH es=true->(∀ l,(aD es l= .bq\/((∃ i,l= .af i)/\(aD es l).dw=true)))/\(∀ l X,aD es l≠ .eT X)/\(∀ (σ:az) l,eG σ es l=match aD es l with| .bq=>σ l|c=>c)/\∀ l,l∈es.map (·.1)->aD es l≠ .bq
 |[],_=>⟨λl=> .inl rfl,λl X h=>(by cases h),λσ l=>rfl,λl hl=>(by cases hl)⟩
 |(l0,c)::es,h=>by
  obtain ⟨i,hc,hb,hn,ht⟩:∃ i,l0= .af i/\c.dw=true/\(es.all λx=>!((aS.af i).y6 x.1))=true/\tH es=true:=by
   unfold tH at h;split at h
   ·trivial
   ·rename_i i t cs us heq;cases heq;rw [Bool.and_eq_true] at h;exact ⟨i,rfl,rfl,h.1,h.2⟩
   ·rename_i i t cs us heq;cases heq;rw [Bool.and_eq_true] at h;exact ⟨i,rfl,rfl,h.1,h.2⟩
   ·cases h
  subst hc;obtain ⟨k1,k2,k3,k4⟩:=LM ht;have hno:aD es (.af i)= .bq:=by
   grind [FA,aS.EJ]
  refine ⟨λl=>?_,λl X hX=>?_,λσ l=>?_,λl hl=>?_⟩
  ·by_cases e:l= .af i
   ·subst e;exact .inr ⟨⟨i,rfl⟩,by rw [aD,gY];exact hb⟩
   ·rw [aD,cL e];exact k1 l
  ·by_cases e:l= .af i
   ·subst e;rw [aD,gY] at hX;subst hX;cases hb
   ·rw [aD,cL e] at hX;exact k2 l X hX
  ·rw [eG,k3]
   by_cases e:l= .af i
   ·subst e;rw [hno,aD,gY,gY];cases c<;>first|rfl|cases hb
   ·rw [aD,cL e,cL e]
  ·by_cases e:l= .af i
   ·subst e;rw [aD,gY];intro e;rw [e] at hb;cases hb
   ·rw [aD,cL e];grind
end
section
variable {P:Program} {T:cN} {b:ek P} {σ:az} {D:Nat->Prop} {g:cf} {w:World}
def tG (σ:az) (m:Nat) (es:List (aS×bs)):az:=λl=>match l with
 | .aj i=>σ (.aj i)
 | .aJ i=>match Nat.blt i m with|true=>aD es (.aJ i)|false=>σ (.aJ i)
 | .af i=>match aD es (.af i) with| .bq=>σ (.af i)|c=>c
def A4 (σ:az):Nat->Bool
 |0=>true
 |k+1=>match σ (.af k) with
  | .eT _=>false
  |_=>A4 σ k
theorem Rv:∀ {m:Nat},A4 σ m=true->∀ i,i<m->∀ X,σ (.af i)≠ .eT X
 |0,_,i,h,_=>absurd h (Nat.not_lt_zero _)
 |m+1,h,i,hi,X=>by
  rw [A4] at h;rcases Nat.lt_or_ge i m with h1|h1
  ·exact Rv (by grind) i h1 X
  grind
theorem bz.tE {f:FuncId} {args:List ae} {m n:Nat} {K:ae->az->Nat->Prop} {es es':List (aS×bs)} {res:ae} (hw:lB σ m es) (hpl:wm es=true) (hpl':wm es'=true) (hsame:∀ l,aD es' l= .bq↔aD es l= .bq) (hmn:m<=n) (hargs:oc m args=true) (hnr:A4 σ m=true)
  (h:bz P f args (aD es) m (cG m (λx e=>x= .cE res/\e=es'))) (hK:K res (tG σ m es') n):bz P f args σ n K:=by
 refine ⟨h.r9,λb g w vals hs hvl hv=>?_⟩;have hiff:=hsame;have cutown:∀ id c,(g.fj m).aZ id=some c->g.aZ id=some c/\id<m:=λid c hc=>by
  simp only [cf.fj] at hc;split at hc
  ·exact ⟨hc,by assumption⟩
  ·cases hc
 have cutrow:∀ id c,(g.fj m).cu id=some c->g.cu id=some c/\id<m:=λid c hc=>by
  simp only [cf.fj] at hc;split at hc
  ·exact ⟨hc,by assumption⟩
  ·cases hc
 have ownc:∀ id,id<m->(g.fj m).aZ id=g.aZ id:=λid h=>by simp [cf.fj,h]
 have rowc:∀ id,id<m->(g.fj m).cu id=g.cu id:=λid h=>by simp [cf.fj,h]
 have hb:∀ id,aD es (.af id)≠ .bq->aD es (.af id)=σ (.af id)/\id<m/\rf m (σ (.af id))=true:=λid hne=>by
  rcases hw.nZ (.af id) with h1|⟨h1,h2,h3⟩
  ·exact absurd h1 hne
  ·exact ⟨h1,eH h2,h3⟩
 have hrw:∀ id,aD es (.aJ id)≠ .bq->aD es (.aJ id)=σ (.aJ id)/\id<m:=λid hne=>by
  rcases hw.nZ (.aJ id) with h1|⟨h1,h2,h3⟩
  ·exact absurd h1 hne
  ·exact ⟨h1,eH h2⟩
 have isb:∀ id,(aD es (.af id)).dw=true->aD es (.af id)≠ .bq:=λid hl e=>by rw [e] at hl;cases hl
 let ex:Nat->Prop:=λc=>(∃ id,(aD es (.af id)).dw=true/\g.aZ id=some c)\/(∃ id t sz N N',aD es (.aJ id)= .aN t sz N/\g.cu id=some (some c,N'))
 have exMine:∀ c,ex c->b.rP c:=λc hc=>by
  rcases hc with ⟨id,h1,h2⟩|⟨id,t,sz,N,N',h1,h2⟩
  ·obtain ⟨c',q1,q2,_⟩:=hs.dq id (by rw [<-(hb id (isb id h1)).1];exact h1);rw [h2] at q1;cases q1;exact q2
  ·obtain ⟨bk,q1,q2⟩:=hs.fA id t sz N (by grind);simp_all
 have hidden:∀ id c,aD es (.af id)= .bq->(σ (.af id)).dw=true->g.aZ id=some c->¬ex c:=λid c hm hl hc he=>by
  rcases he with ⟨id',h1,h2⟩|⟨id',t,sz,N,N',h1,h2⟩
  ·obtain ⟨e1,e2,_⟩:=hb id' (isb id' h1);have:=hs.iT id id' c hl (by simp_all) hc h2;grind
  ·obtain ⟨bk,q1,q2⟩:=hs.fA id' t sz N (by grind);simp_all
 have hiddenR:∀ id t sz N c N',m<=id->σ (.aJ id)= .aN t sz N->g.cu id=some (some c,N')->¬ex c:=λid t sz N c N' hm hl hc he=>by
  obtain ⟨bk,q1,q2⟩:=hs.fA id t sz N hl;grind
 have notMine:∀ k,k<b.lr.heap.size->¬b.oK k->¬ex k:=λk h1 h2 h3=>by
  rcases exMine k h3 with h|h
  ·omega
  ·exact h2 h
 have tr:∀ {w':World},oL ex w.heap.size w w'->oL b.oK b.lr.heap.size b.lr w':=fun {w'} hx=>by
  have hsz:=hs.dU.kX;exact hs.dU.xl ⟨hx.Cb,hx.Cd,hx.Cc,hx.kX,λk hk hn=>hx.qR k om (notMine k hk hn),λk hk=>hx.uB k om⟩
 let b':ek P:=⟨w,λk o=>g.bJ k o/\¬ex k,ex,λw' hx=>b.EB w' (tr hx),λk o hk=>hs.fU k o hk.1,λ_ _ hk=>hk.2⟩
 have hsim:bh b' (aD es) (·<m) (g.fj m) w:=by
  refine bh.lQ (oL.EC _ _ _) hs.fU (λ_ _ hk=>hk.1) (λk o hk _ hx=>⟨hk,hx⟩) (λid c hc=>(cutown id c hc).2) (λid c hc=>(cutrow id c hc).2) (λid c hc=>hs.eU id c (cutown id c hc).1) (λid c N hc=>hs.gV id c N (cutrow id _ hc).1)
   (λid hl=>?_) (λid c hl hc=>?_) (λi j k hi hj hci hcj=>?_) (λid Y c hs' _=>absurd hs' (Fz hpl _ _)) (λid t' sz N hs'=>?_)
  ·obtain ⟨e1,e2,_⟩:=hb id (isb id hl);obtain ⟨c,h1,h2,h3,h4⟩:=hs.dq id (by simp_all);exact ⟨c,by simp_all, .inr (.inl ⟨id,hl,h1⟩),h3,h4⟩
  ·obtain ⟨e1,e2,e3⟩:=hb id (isb id hl);rw [e1] at hl ⊢;exact (hs.kF (cutown id c hc).1).Fv e3 rfl ownc rowc
  ·obtain ⟨e1,_,_⟩:=hb i (isb i hi);obtain ⟨e2,_,_⟩:=hb j (isb j hj);exact hs.iT i j k (by simp_all) (by simp_all) (cutown _ _ hci).1 (cutown _ _ hcj).1
  ·obtain ⟨e1,e2⟩:=hrw id (by rw [hs'];simp);obtain ⟨bk,h1,h2⟩:=hs.fA id t' sz N (by simp_all);refine ⟨bk,by simp_all,λk hk=>?_⟩;obtain ⟨b1,b2,b3,b4,b5,b6⟩:=h2 k hk;refine ⟨.inr (.inr ⟨id,t',sz,N,N,hs',by rw [h1,hk]⟩),b2,b3,λj hl hc=>?_,λj t'' sz'' M M' hj hr=>?_,b6⟩
   ·grind
   grind
 refine (h.q8 b' (g.fj m) w vals hsim hvl λi x v hx hv'=>(hv i x v hx hv').A1 (mQ hargs i x hx) rfl ownc rowc).mono ?_;rintro e w' ⟨v,v',σ1,n1,g1,rfl,⟨y,ez,⟨rfl,rfl⟩,_,⟨rfl,hres⟩,hw'⟩,hmn1,hrep,hs1,hE⟩;have hrw1:∀ id,aD ez (.aJ id)≠ .bq->aD ez (.aJ id)=σ1 (.aJ id)/\id<m:=λid hne=>by
  rcases hw'.nZ (.aJ id) with h1|⟨h1,h2,h3⟩
  ·exact absurd h1 hne
  grind
 have hb1:∀ id,aD ez (.af id)≠ .bq->aD ez (.af id)=σ1 (.af id)/\id<m/\rf m (σ1 (.af id))=true:=λid hne=>by
  rcases hw'.nZ (.af id) with h1|⟨h1,h2,h3⟩
  ·exact absurd h1 hne
  grind
 have hsz:w.heap.size<=w'.heap.size:=hE.rR;have hF1:∀ c o,g1.bJ c o->c<w.heap.size->¬ex c->g.bJ c o:=λc o h1 h2 h3=>(hs1.kh c o h1 h2 h3).1
 let g':cf:=⟨g1.bJ,λi=>if i<m then g1.aZ i else g.aZ i,λi=>if i<m then g1.cu i else g.cu i⟩
 have go1:∀ i,i<m->g'.aZ i=g1.aZ i:=λi hi=>by simp [g',hi]
 have gr1:∀ i,i<m->g'.cu i=g1.cu i:=λi hi=>by simp [g',hi]
 have go2:∀ i,m<=i->g'.aZ i=g.aZ i:=λi hi=>by grind
 have gr2:∀ i,m<=i->g'.cu i=g.cu i:=λi hi=>by grind
 have gkeep:∀ i c,g.aZ i=some c->g'.aZ i=some c:=λi c hc=>by
  by_cases hi:i<m
  ·rw [go1 i hi];exact (hE.kE i c (by simp_all)).1
  simp_all
 have hC:vR g w g' w':=by
  refine ⟨hE.ee,λid c hc=>⟨gkeep id c hc,?_⟩,λid bk N hr=>?_,λid c N hr=>?_⟩
  ·by_cases hi:id<m
   ·exact (hE.kE id c (by simp_all)).2
   ·exact hs1.dU.uB c (hs.eU id c hc)
  ·by_cases hi:id<m
   ·rw [gr1 id hi];exact hE.vT id bk N (by simp_all)
   ·rw [gr2 id om];exact ⟨bk,N,hr,Nat.le_refl _,λ_=>⟨rfl,λc hc=>hs1.dU.uB c (hs.gV id c N (by rw [hr,hc]))⟩⟩
  ·by_cases hi:id<m
   ·rw [gr1 id hi] at hr;rcases hE.vS id c N hr with ⟨N0,h1⟩|h1
    ·simp_all
    ·exact .inr h1
   simp_all
 have hnoro:∀ id Y,id<m->σ (.af id)≠ .eT Y:=λid Y hi=>Rv hnr id hi Y
 have og:∀ id,aD es (.af id)≠ .bq->tG σ m ez (.af id)=σ1 (.af id):=λid hne=>by
  have hne':aD ez (.af id)≠ .bq:=λe=>hne ((hiff _).1 e)
  obtain ⟨e1,_,_⟩:=hb1 id hne';rw [<-e1];show (match aD ez (.af id) with| .bq=>σ (.af id)|c=>c)=aD ez (.af id);simp_all
 have on:∀ id,aD es (.af id)= .bq->tG σ m ez (.af id)=σ (.af id):=λid he=>by
  show (match aD ez (.af id) with| .bq=>σ (.af id)|c=>c)=σ (.af id);rw [(hiff _).2 he]
 have orr:∀ id,id<m->tG σ m ez (.aJ id)=aD ez (.aJ id):=λid hi=>by
  grind [Nat.blt_eq,tG]
 have orr2:∀ id,m<=id->tG σ m ez (.aJ id)=σ (.aJ id):=λid hi=>by
  grind [eH,tG]
 have gv:∀ id,aD es (.af id)≠ .bq->id<m:=λid h=>(hb id h).2.1
 have kind:∀ id c,(tG σ m ez (.af id)).dw=true->g'.aZ id=some c->(aD es (.af id)≠ .bq/\(σ1 (.af id)).dw=true/\g1.aZ id=some c)\/(aD es (.af id)= .bq/\(σ (.af id)).dw=true/\g.aZ id=some c):=λid c hl hc=>by
  by_cases hi:aD es (.af id)= .bq
  ·rw [on id hi] at hl;obtain ⟨c',h1,_⟩:=hs.dq id hl;have:=gkeep id c' h1;rw [hc] at this;cases this;exact .inr ⟨hi,hl,h1⟩
  ·rw [og id hi] at hl;rw [go1 id (gv id hi)] at hc;exact .inl ⟨hi,hl,hc⟩
 have new1:∀ k c,(σ1 (.af k)).dw=true->g1.aZ k=some c->w.heap.size<=c\/ex c:=λk c hl hc=>by
  obtain ⟨c',q1,q2,_⟩:=hs1.dq k hl;rw [hc] at q1;cases q1;exact q2
 have old1:∀ id c,aD es (.af id)= .bq->(σ (.af id)).dw=true->g.aZ id=some c->¬(w.heap.size<=c\/ex c):=λid c hm hl hc h=>by
  rcases h with h|h
  ·have:=hs.eU id c hc;omega
  ·exact hidden id c hm hl hc h
 have mine1:∀ c,w.heap.size<=c\/ex c->b.rP c:=λc h=>by
  rcases h with h|h
  ·exact .inl (Nat.le_trans hs.dU.kX h)
  ·exact exMine c h
 refine ⟨v,v',tG σ m ez,n,g',rfl,hK,Nat.le_refl n,hrep.A1 hres rfl go1 gr1,?_,⟨hC,hE.rR,hE.uC,hE.rQ⟩⟩;refine bh.lQ (tr hs1.dU) hs1.fU (λk o hk=>(hE.ee k o (hs.kY k o hk)).1) (λk o hk hlt hx=>hs.kh k o (hF1 k o hk (Nat.lt_of_lt_of_le hlt hs.dU.kX) (notMine k hlt hx)) hlt hx)
   (λid c hc=>?_) (λid c hc=>?_) (λid c hc=>?_) (λid c N hc=>?_) (λid hl=>?_) (λid c hl hc=>?_) (λi j c hi hj hci hcj=>?_) (λid Y c hs' hc=>?_) (λid t' sz N hs'=>?_)
 ·by_cases hi:id<m
  ·show id<n;omega
  ·rw [go2 id om] at hc;exact hs.lu id c hc
 ·by_cases hi:id<m
  ·show id<n;omega
  ·rw [gr2 id om] at hc;exact hs.ki id c hc
 ·by_cases hi:id<m
  ·rw [go1 id hi] at hc;exact hs1.eU id c hc
  ·rw [go2 id om] at hc;exact Nat.lt_of_lt_of_le (hs.eU id c hc) hsz
 ·by_cases hi:id<m
  ·rw [gr1 id hi] at hc;exact hs1.gV id c N hc
  ·rw [gr2 id om] at hc;exact Nat.lt_of_lt_of_le (hs.gV id c N hc) hsz
 ·by_cases hi:aD es (.af id)= .bq
  ·rw [on id hi] at hl;obtain ⟨c,h1,h2,h3,h4⟩:=hs.dq id hl;exact ⟨c,gkeep id c h1,h2,Nat.lt_of_lt_of_le h3 hsz,λo ho=>h4 o (hF1 c o ho h3 (hidden id c hi hl h1))⟩
  ·rw [og id hi] at hl;obtain ⟨c,h1,h2,h3,h4⟩:=hs1.dq id hl;exact ⟨c,by rw [go1 id (gv id hi)];exact h1,mine1 c h2,h3,h4⟩
 ·rcases kind id c hl hc with ⟨hi,h2,h3⟩|⟨hi,h2,h3⟩
  ·rw [og id hi];have hne':aD ez (.af id)≠ .bq:=λe=>hi ((hiff _).1 e)
   exact (hs1.kF h3).Fv (hb1 id hne').2.2 rfl go1 gr1
  ·rw [on id hi];exact (hs.kF h3).ED hC (hs1.dU.qR c (hs.eU id c h3) (hidden id c hi h2 h3))
 ·rcases kind i c hi hci with ⟨h1,h2,h3⟩|⟨h1,h2,h3⟩<;>rcases kind j c hj hcj with ⟨h1',h2',h3'⟩|⟨h1',h2',h3'⟩
  ·exact hs1.iT i j c h2 h2' h3 h3'
  ·exact absurd (new1 i c h2 h3) (old1 j c h1' h2' h3')
  ·exact absurd (new1 j c h2' h3') (old1 i c h1 h2 h3)
  ·exact hs.iT i j c h2 h2' h3 h3'
 ·by_cases hi:aD es (.af id)= .bq
  ·rw [on id hi] at hs'
   by_cases hm:id<m
   ·cases hgo:g.aZ id with
    |some c0=>
     have:=gkeep id c0 hgo;rw [hc] at this;cases this;exact hs.lv id Y c hs' hgo
    |none=>exact absurd hs' (hnoro id Y hm)
   ·rw [go2 id om] at hc;exact hs.lv id Y c hs' hc
  ·exfalso;have hne':aD ez (.af id)≠ .bq:=λe=>hi ((hiff _).1 e)
   have hs':(match aD ez (.af id) with| .bq=>σ (.af id)|c=>c)= .eT Y:=hs';cases hx:aD ez (.af id)<;>simp only [hx] at hs'<;>first|exact hne' hx|cases hs'
   exact Fz hpl' _ _ hx
 ·by_cases hi:id<m
  ·rw [orr id hi] at hs';obtain ⟨e1,_⟩:=hrw1 id (by rw [hs'];simp);obtain ⟨bk,h1,h2⟩:=hs1.fA id t' sz N (by rw [<-e1];exact hs');refine ⟨bk,by rw [gr1 id hi];exact h1,λc hc=>?_⟩;obtain ⟨b1,b2,b3,b4,b5,b6⟩:=h2 c hc;refine ⟨mine1 c b1,b2,b3,λj hl hc'=>?_,λj t'' sz'' M M' hj hr=>?_,b6⟩
   ·rcases kind j c hl hc' with ⟨q1,q2,q3⟩|⟨q1,q2,q3⟩
    ·exact b4 j q2 q3
    ·exact old1 j c q1 q2 q3 b1
   ·by_cases hjm:j<m
    ·rw [orr j hjm] at hj;obtain ⟨e2,_⟩:=hrw1 j (by rw [hj];simp);exact b5 j t'' sz'' M M' (by rw [<-e2];exact hj) (by rw [<-gr1 j hjm];exact hr)
    ·rw [orr2 j om] at hj;rw [gr2 j om] at hr;exfalso;rcases b1 with b1|b1
     ·have:=hs.gV j c M' hr;have:w.heap.size<=c:=b1;omega
     ·exact hiddenR j t'' sz'' M c M' om hj hr b1
  ·rw [orr2 id om] at hs';obtain ⟨bk,h1,h2⟩:=hs.fA id t' sz N hs';refine ⟨bk,by rw [gr2 id om];exact h1,λc hc=>?_⟩;obtain ⟨b1,b2,b3,b4,b5,arr,z,b6,b7⟩:=h2 c hc;have hne:¬ex c:=hiddenR id t' sz N c N om hs' (by rw [h1,hc]);refine ⟨b1,Nat.lt_of_lt_of_le b2 hsz,λo ho=>b3 o (hF1 c o ho b2 hne),λj hl hc'=>?_,λj t'' sz'' M M' hj hr=>?_,arr,z,(hs1.dU.qR c b2 hne).trans b6,b7⟩
   ·rcases kind j c hl hc' with ⟨q1,q2,q3⟩|⟨q1,q2,q3⟩
    ·rcases new1 j c q2 q3 with h|h
     ·omega
     ·exact hne h
    ·exact b4 j q2 q3
   ·by_cases hjm:j<m
    ·rw [orr j hjm] at hj;obtain ⟨e2,_⟩:=hrw1 j (by rw [hj];simp);obtain ⟨bk',q1,q2⟩:=hs1.fA j t'' sz'' M (by grind);rw [gr1 j hjm] at hr;rw [hr] at q1;cases q1;exfalso;rcases (q2 c rfl).1 with h|h
     ·have:w.heap.size<=c:=h;omega
     ·exact hne h
    grind
theorem bz.Iy {f:FuncId} {args:List ae} {m n:Nat} {K:ae->az->Nat->Prop} {es:List (aS×bs)} {res:ae} (hw:lB σ m es) (hpl:wm es=true) (hmn:m<=n) (hargs:oc m args=true) (hnr:A4 σ m=true)
  (h:bz P f args (aD es) m (cG m (λx e=>x= .cE res/\e=es))) (hK:K res (tG σ m es) n):bz P f args σ n K:=
 bz.tE hw hpl hpl (λ_=>Iff.rfl) hmn hargs hnr h hK
def A3:List (aS×bs)->Bool
 |[]=>true
 |(_, .bq)::_=>false
 |_::es=>A3 es
theorem Rw:∀ {es:List (aS×bs)},A3 es=true->∀ {l:aS},l∈es.map (·.1)->aD es l≠ .bq
 |[],_,_,h=>by cases h
 |(l0,c)::es,hn,l,h=>by
  have h1:c≠ .bq:=by intro e;subst e;cases hn
  have h2:A3 es=true:=by cases c<;>first|exact hn|cases hn
  by_cases e:l=l0
  ·subst e;rw [aD,gY];exact h1
  ·rw [aD,cL e];refine Rw h2 ?_;simp_all
theorem uQ {es es':List (aS×bs)} (h:es'.map (·.1)=es.map (·.1)) (h1:A3 es=true) (h2:A3 es'=true) (l:aS):aD es' l= .bq↔aD es l= .bq:=by
 grind [Rw,FA]
end
section
variable {P:Program} {T:cN} {b:ek P} {σ:az} {D:Nat->Prop} {g:cf} {w:World}
structure uP (P:Program) (f:FuncId) (args:List ae) (nil:Bool) (sz:Nat) (els:List (List ae)):Prop where
 LH:oP P f
 LI:∀ (w:World) (F:Nat->Nat->Prop) (vals:List Value),mb P w->(∀ k o,F k o->k<w.heap.size)->vals.length=args.length->(∀ (i:Nat) (x:ae) (v:Value),args[i]? =some x->vals[i]? =some v->cb w F x v)->
  Calls P f vals.toArray w λed w'=>∃ ad F',ed= .returned (.slice ad els.length els.length)/\(Below w.heap.size w w'/\w.drawn<=w'.drawn)/\(∀ k o,F k o->F' k o)/\(∀ k o,F' k o->F k o\/(w.heap.size<=k/\k<w'.heap.size))/\
   cb w' F' (.ag nil sz els .av) (.slice ad els.length els.length)
def RB (T:cN) (fn:Func) (nil:Bool) (sz:Nat) (els:List (List ae)) (ex:Exit) (σ:az) (_n:Nat):Prop:=
 match ex with
 | .normal=>mR σ T fn.results.toList=some [.ag nil sz els .bR]
 | .ret=>mR σ T fn.results.toList=some [.ag nil sz els .bR]
 |_=>False
theorem aam (T:cN) (fn:Func) (nil:Bool) (sz:Nat) (els:List (List ae)) {ex:Exit} {σ:az} {n:Nat} (h:RB T fn nil sz els ex σ n):uO T fn (λv _ _=>v= .ag nil sz els .bR) ex σ n:=by
 cases ex<;>first|exact h|(simp only [uO];rw [show mR σ T fn.results.toList=_ from h];rfl)
theorem uP.akb (hT:dA P T) (hm:P.follows .mixedOrders=true) {f:FuncId} {fn:Func} {c:Code} (hf:P.funcs[f]? =some fn) (hb:fn.body=some c) (hn:(fn.name== "runtime.NumGoroutine")=false) {args:List ae} {nil:Bool} {sz:Nat} {els:List (List ae)} (hl:Nat.ble args.length fn.ntmps=true) (hro:lE fn.ntmps fn.results.toList=true)
  (h:oR P T none fn.ntmps 0 c (aU (n5 args) (.aJ 0) (.ah .bN)) 0 (RB T fn nil sz els)):uP P f args nil sz els:=by
 have h:=(se hT hm _ _ _ _ h).KU λ_ _ _ q=>aam T fn nil sz els q
 rw [Rr] at h;refine ⟨lC hf hb hn,λw F vals hG hF hvl hv=>(bz.E4 (bz.xG hT hf hb hn hl hro h) w F hG hF ((bh.H5 w F hG hF).LG _) hvl λi x v hx hy=> .bC (hv i x v hx hy)).mono ?_⟩;rintro _ w' ⟨v,x,σ',n',g',he,rfl,hrep,hs,hb,h0,h1⟩;obtain ⟨ad,c,rfl,p1,p2⟩:=aF.jj hrep;have p2:c=els.length:=p2;subst p2;exact ⟨ad,g'.bJ,he,hb,h0,h1,p1⟩
theorem mi.xR {f:FuncId} {args:List ae} {nil:Bool} {sz n:Nat} {els:List (List ae)} (hp:uP P f (q9 args) nil sz els) (hpure:rb args=true):mi P 0 f args σ n [] [] (.ag nil sz els .bR):=by
 refine ⟨hp.LH,λσ' _ b D g w vals _ h hf1 hf2 hvl hv=>?_⟩;refine (hp.LI w g.bJ vals h.Au h.fU (by grind [E8]) (λi x v hx hvv=>?_)).mono ?_
 ·grind [Ff,CZ]
 ·rintro ed w' ⟨ad,F',rfl,h2,h3,h4,h5⟩;exact ⟨_,{g with bJ:=F'},rfl, .jc h5 rfl,(h.yZ h2.1 h2.2 h3 h4).iU (λ_ hi=> .inl hi),h.xn h2.1 h2.2 h3⟩
theorem bz.Iz {f:FuncId} {args:List ae} {nil:Bool} {sz n:Nat} {els:List (List ae)} {K:ae->az->Nat->Prop} (hp:uP P f (q9 args) nil sz els) (hpure:rb args=true) (hk:K (.ag nil sz els .bR) σ n):bz P f args σ n K:=by
 refine ⟨hp.LH,λb g w vals h hvl hv=>?_⟩;refine (hp.LI w g.bJ vals h.Au h.fU (by grind [E8]) (λi x v hx hvv=>?_)).mono ?_
 ·grind [Ff,CZ]
 ·rintro ed w' ⟨ad,F',rfl,h2,h3,h4,h5⟩;exact ⟨_,_,σ,n,{g with bJ:=F'},rfl,hk,Nat.le_refl n, .jc h5 rfl,h.yZ h2.1 h2.2 h3 h4,h.xn h2.1 h2.2 h3⟩
end
end Go.Am
