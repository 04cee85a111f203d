import Derived.Test.YtffboamedcmpaaaGreatDoorBn
set_option linter.all false
set_option maxHeartbeats 4000000
set_option maxRecDepth 100000
namespace Gw
def fi (m:bM) (c:bu):dj:=⟨m,fg 0,c, .dE⟩
structure JV (m:bM) (x:dj) (o:aH):Prop where
 N5:o.aT=⟨m.eC+1,m.iH⟩
 afW:j5 o.aT=true
 VJ:m.aA.b8.ab.length<200
 N6:eF m.aA o=(x.bp.aA,0)
 VL:x.bp.eC=m.eC+1
 VK:x.bp.iH=m.iH
 N7:x.fP=⟨false,[o]⟩
 VM:x.bp.dO=m.dO
 VN:x.bp.de=m.de
 afV:x.bp.fz=m.fz
theorem af8 {s r:Int} {t:iu} (h:BE s r=some t):t=⟨s+1,r⟩/\j5 t=true:=by
 grind [BE]
theorem af3 {m:bM} {s:iu} (h:jD m=(s,0)):s=⟨m.eC+1,m.iH⟩/\j5 s=true/\m.aA.b8.ab.length<200:=by
 grind [jD,af8]
theorem VO (m:bM) (c:bu) (o:aH):(ll (fi m c) o).2≠0\/((ll (fi m c) o).2=0/\∃ s,JV m (ll (fi m c) o).1 (sI o s)):=by
 unfold ll;have hn:jD (fi m c).bp=jD m:=rfl;rw [hn];cases hs:jD m with
 |mk s e=>
  simp only
  by_cases he:e=0
  ·subst he;obtain ⟨h1,h2,h3⟩:=af3 hs;rw [if_neg dd];have hl:(fi m c).bp.aA=m.aA:=rfl;cases ha:eF m.aA (sI o s) with
   |mk g e'=>
    have hA:uc (fi m c) (sI o s)=if e'≠0 then (fi m c,e') else ({fi m c with bp:={m with aA:=g},fP:=⟨false,[sI o s]⟩},0):=by
     unfold uc;rw [hl,ha];rfl
    by_cases he':e'=0
    ·subst he';rw [if_neg dd] at hA;simp only [hA];rw [if_neg dd];refine .inr ⟨rfl,s,?_⟩;exact ⟨h1,h2,h3,ha,by rw [h1],rfl,rfl,rfl,rfl,rfl⟩
    simp_all
  simp_all
theorem VP {k:Int} {f:dj->dj×Int} (h:DV k=some f):((k=1\/k=2)/\f=ud)\/(k=3/\f=uq)\/(k=4/\f=ui)\/(k=5/\f=ug)\/(k=6/\f=uj)\/(k=7/\f=uf)\/(k=8/\f=um)\/(k=9/\f=ue)\/(k=10/\f=uo)\/(k=11/\f=uh)\/(k=12/\f=λd=>(d,0))\/(k=13/\f=sK):=by
 unfold DV at h
 by_cases h1:k=1\/k=2
 ·simp_all
 rw [if_neg h1] at h
 by_cases h3:k=3
 ·simp_all
 rw [if_neg h3] at h
 by_cases h4:k=4
 ·simp_all
 rw [if_neg h4] at h
 by_cases h5:k=5
 ·simp_all
 rw [if_neg h5] at h
 by_cases h6:k=6
 ·simp_all
 rw [if_neg h6] at h
 by_cases h7:k=7
 ·simp_all
 rw [if_neg h7] at h
 by_cases h8:k=8
 ·simp_all
 rw [if_neg h8] at h
 by_cases h9:k=9
 ·simp_all
 grind
structure pt (g g':eh) (l:List aH):Prop where
 z7:iy g'
 BR:kQ (du g')
 Ee:g'.b8.ab.length=g.b8.ab.length+l.length
 xf:∀ p,p∈du g'↔p∈du g\/p∈l
theorem pt.N8 {g:eh} (h:iy g) (hr:kQ (du g)):pt g g []:=⟨h,hr,rfl,λp=>⟨.inl,λq=>q.elim id λq=>by cases q⟩⟩
theorem pt.agb {a b c:eh} {l m:List aH} (h:pt a b l) (k:pt b c m):pt a c (l++m):=
 ⟨k.z7,k.BR,by grind [k.Ee,h.Ee],λp=>by grind [k.xf,h.xf]⟩
theorem N9 {g:eh} (h:iy g) (hr:kQ (du g)) {o:aH} (hc:cJ o=true) (hh:kg g o.aT=false) (hl:g.b8.ab.length<200):(eF g o).2=0/\pt g (eF g o).1 [o]:=by
 obtain ⟨h1,a,b,h2,h3,h4,_⟩:=afP h.xc hr hc hh hl;refine ⟨h1,h.Ea o,h4,?_,λp=>?_⟩
 ·grind [du,List.length_append]
 grind
def xe (a b:aH):Prop:=¬(a.aT.dg=b.aT.dg/\a.aT.dS=b.aT.dS)
theorem agc {g g':eh} {l:List aH} (h:pt g g' l) {o:aH} (h1:kg g o.aT=false) (h2:∀ p∈l,xe p o):kg g' o.aT=false:=by
 rw [Bool.eq_false_iff];intro q;obtain ⟨p,hp,e⟩:=Ec.1 q;rcases (h.xf p).1 hp with hp|hp
 ·have:kg g o.aT=true:=Ec.2 ⟨p,hp,e⟩;simp_all
 ·exact h2 p hp e
theorem Od:∀ (l:List aH) (d:dj),iy d.bp.aA->kQ (du d.bp.aA)->(∀ o∈l,cJ o=true/\kg d.bp.aA o.aT=false)->l.Pairwise xe->d.bp.aA.b8.ab.length+l.length<=200->
  ∃ g,(nK d l).2=0/\(nK d l).1={d with bp:={d.bp with aA:=g},fP:=⟨(nK d l).1.fP.dI,d.fP.ab++l⟩}/\pt d.bp.aA g l
 |[],d,h,hr,_,_,_=>⟨d.bp.aA,rfl,by show d=_;rw [List.append_nil];rfl, .N8 h hr⟩
 |o::l,d,h,hr,hc,hp,hl=>by
  rw [List.length_cons] at hl;obtain ⟨p1,p2⟩:=List.pairwise_cons.1 hp;obtain ⟨c1,c2⟩:=hc o List.mem_cons_self;obtain ⟨e1,e2⟩:=N9 h hr c1 c2 om;have hA:uc d o=({d with bp:={d.bp with aA:=(eF d.bp.aA o).1},fP:=d.fP.jg o},0):=by
   unfold uc;simp_all
  obtain ⟨g,f1,f2,f3⟩:=Od l {d with bp:={d.bp with aA:=(eF d.bp.aA o).1},fP:=d.fP.jg o} e2.z7 e2.BR
   (λq hq=>⟨(hc q (List.mem_cons_of_mem _ hq)).1,agc e2 (hc q (List.mem_cons_of_mem _ hq)).2 λp hp=>by simp_all⟩) p2 (by
    have:=e2.Ee;grind)
  have hB:nK d (o::l)=nK {d with bp:={d.bp with aA:=(eF d.bp.aA o).1},fP:=d.fP.jg o} l:=by
   grind [nK]
  rw [hB];refine ⟨g,f1,?_,e2.agb f3⟩;refine f2.trans ?_;show dj.mk _ _ _ ⟨_,(d.fP.ab++[o])++l⟩=_;grind
structure JX (g:eh) (x:Int×cj aH):Prop where
 Oa:x.2.ab.Pairwise xe
 Oc:∀ f∈x.2.ab,kg g f.aT=false
theorem VS (s:Int) (t:iu):s<=mY s t/\(j5 t=true->t.dg<=mY s t):=by
 grind [mY]
theorem agd {g:eh} {x:Int×cj aH} (h:JX g x) (o:aH):JX g (i7 g x o):=by
 unfold i7;split
 ·rename_i hc;obtain ⟨h1,h2⟩:=hc;refine ⟨?_,λf hf=>?_⟩
  ·show (x.2.ab++[o]).Pairwise xe;refine List.pairwise_append.2 ⟨h.Oa,List.pairwise_singleton _ _,λa ha b hb=>?_⟩;rw [List.mem_singleton.1 hb];intro e;have:(x.2.ab.any λf=>zR f.aT o.aT)=true:=List.any_eq_true.2 ⟨a,ha,by grind [zR]⟩;simp_all
  ·rcases List.mem_append.1 (show f∈x.2.ab++[o] from hf) with hf|hf
   ·exact h.Oc f hf
   simp_all
 ·exact ⟨h.Oa,h.Oc⟩
theorem VR {g:eh}:∀ (l:List aH) {x:Int×cj aH},JX g x->JX g (l.foldl (i7 g) x)/\x.1<=(l.foldl (i7 g) x).1/\(∀ o∈l,j5 o.aT=true->o.aT.dg<=(l.foldl (i7 g) x).1)/\(∀ f∈(l.foldl (i7 g) x).2.ab,f∈x.2.ab\/f∈l)
 |[],x,h=>⟨h,Int.le_refl _,λ_ h=>(by cases h),λf hf=> .inl hf⟩
 |o::l,x,h=>by
  obtain ⟨a,b,c,d⟩:=VR l (agd h o);obtain ⟨s1,s2⟩:=VS x.1 o.aT;have hs:(i7 g x o).1=mY x.1 o.aT:=rfl;rw [List.foldl_cons];refine ⟨a,om,λp hp hk=>?_,λf hf=>?_⟩
  ·grind
  ·rcases d f hf with hf|hf
   ·have hq:f∈x.2.ab\/f=o:=by
     unfold i7 at hf;simp only at hf;split at hf
     ·rcases List.mem_append.1 (show f∈x.2.ab++[o] from hf) with hf|hf
      ·exact .inl hf
      simp_all
     ·exact .inl hf
    grind
   simp_all
section
def BU (q:vn):Prop:=q.oB.ab.length<=9/\(q.Gs=false->q.oB.ab.length<=8)
structure ji (T:Nat) (m:bM):Prop where
 ja:iy m.aA
 xg:kQ (du m.aA)
 Ef:∀ o∈du m.aA,o.aT.dg<=m.eC
 qM:1<=m.fz/\m.fz<=T+1
 yH:m.dO.ab.length<=8
 vC:∀ s∈m.dO.ab,∃ g,iy g/\s.DT=g.aQ
 yI:m.de.ab.length<=8
 vD:∀ w∈m.de.ab,BU w.l8
def yG (a:l7):Prop:=a.kB.ab.length<=200/\a.mD.ab.length<=9
theorem ji.VT {T:Nat} {m:bM} (h:ji T m):ji (T+1) m:={h with qM:=⟨h.qM.1,by have:=h.qM.2;omega⟩}
theorem JY (e:Int):yG (fg e):=⟨Nat.zero_le _,Nat.zero_le _⟩
structure VU (T:Nat) (m:bM) (x:dj):Prop where
 yJ:ji (T+1) x.bp
 VV:yG x.gj
 VW:pt m.aA x.bp.aA x.fP.ab
 VX:x.bp.iH=m.iH
def oF (T:Nat) (m:bM) (x:dj×Int):Prop:=x.2≠0\/VU T m x.1
theorem pw (T:Nat) (m:bM) (x:dj) {e:Int} (h:e≠0):oF T m (x,e):= .inl h
theorem agr {q:vn} (h:BU q) (l:List jr):BU (DR q l):=by
 unfold DR;split
 ·exact ⟨h.1,λe=>by cases e⟩
 ·rename_i ho;have h2:=h.2 (by simpa using ho);split
  ·refine ⟨?_,λe=>by cases e⟩;show (q.oB.ab++l.take (8 - q.oB.ab.length)++[_]).length<=9;grind
  ·have:(q.oB.ab++l).length<=8:=by grind
   exact ⟨Nat.le_succ_of_le this,λ_=>this⟩
theorem ags {q:vn}:BU (sG q).1:=⟨Nat.zero_le _,λ_=>Nat.zero_le _⟩
variable {T:Nat} {m:bM}
theorem agf {g g':eh} {o:aH} (h:eF g o=(g',0)):cJ o=true:=by
 grind [eF]
theorem agq (h:ji T m) {x:dj} {o:aH} (p:JV m x o):pt m.aA x.bp.aA [o]:=by
 have hc:=agf p.N6;have hh:kg m.aA o.aT=false:=by
  rw [Bool.eq_false_iff];intro q;obtain ⟨f,hf,e1,_⟩:=Ec.1 q;have:=h.Ef f hf;rw [p.N5] at e1;grind
 grind [N9,h.ja,h.xg,p.VJ,p.N6]
theorem JZ (h:ji T m) {c:bu} {o:aH}:oF T m (ll (fi m c) o):=by
 have hA:∀ p,(uc (fi m c) p).1.gj=fg 0:=λp=>by
  unfold uc;split;split
  ·rfl
  ·rfl
 have ha:(ll (fi m c) o).1.gj=fg 0:=by
  unfold ll;split;split
  ·rfl
  grind
 rcases VO m c o with h1|⟨_,p,h1⟩
 ·exact .inl h1
 ·have hg:=agq h h1;refine .inr ⟨⟨hg.z7,hg.BR,λq hq=>?_,?_,?_,?_,?_,?_⟩,by grind [JY],by rw [h1.N7];exact hg,h1.VK⟩
  ·rw [h1.VL];rcases (hg.xf q).1 hq with hq|hq
   ·have:=h.Ef q hq;omega
   grind [h1.N5]
  ·rw [h1.afV];exact ⟨h.qM.1,by have:=h.qM.2;omega⟩
  ·rw [h1.VM];exact h.yH
  ·rw [h1.VM];exact h.vC
  ·rw [h1.VN];exact h.yI
  ·rw [h1.VN];exact h.vD
theorem agk (l:List aI) (dir:Int):(yj l dir).length<=l.length:=by
 unfold yj;split
 ·obtain ⟨h1,h2⟩:=Dp l dir;rw [(tM _).length_eq];have:=uW (l:=(ke l dir).2.map (·.2.1)) (m:=l.map (·.fm)) h1.uZ λs hs=>by
   obtain ⟨e,he,rfl⟩:=List.mem_map.1 hs;exact List.mem_map.2 ⟨e.2.2,(h2 e he).1,(h1.zD e he)⟩
  simp_all
 simp_all
theorem ago (h:ji T m) {k:Int} {s:cj aI} (hs:sH m k=some s):s.ab.length<=200:=by
 unfold sH at hs;split at hs
 ·grind [h.ja.BP]
 ·cases hf:m.dO.ab.find? λs=>decide (s.iI=k) with
  |none=>simp_all
  |some x=>
   rw [hf] at hs;cases hs;obtain ⟨g,g1,g2⟩:=h.vC x (List.mem_of_find?_eq_some hf);show x.DT.ab.length<=200;rw [g2];exact g1.BP
theorem GN (h:ji T m) {x:dj} (hl:x.bp.aA=m.aA) (hs:x.bp.eC=m.eC) (hr:x.bp.iH=m.iH) (ho:x.fP.ab=[]) (ha:yG x.gj) (hn:1<=x.bp.fz/\x.bp.fz<=T+2) (h1:x.bp.dO.ab.length<=8) (h2:∀ s∈x.bp.dO.ab,∃ g,iy g/\s.DT=g.aQ)
  (h3:x.bp.de.ab.length<=8) (h4:∀ w∈x.bp.de.ab,BU w.l8):oF T m (x,0):=
 .inr ⟨⟨by rw [hl];exact h.ja,by rw [hl];exact h.xg,by rw [hl,hs];exact h.Ef,hn,h1,h2,h3,h4⟩,ha,by rw [ho,hl];exact .N8 h.ja h.xg,hr⟩
theorem Oi (h:ji T m) {c:bu} {a:l7} (ha:yG a):oF T m (({fi m c with gj:=a}:dj),0):=
 GN h rfl rfl rfl rfl ha ⟨h.qM.1,by have:=h.qM.2;show m.fz<=_;omega⟩ h.yH h.vC h.yI h.vD
theorem agh (h:ji T m) (c:bu):oF T m (ud (fi m c)):=by
 grind [ud,JZ,pw]
theorem agy (h:ji T m) (c:bu):oF T m (uq (fi m c)):=by
 grind [uq,JZ,pw]
theorem agn (h:ji T m) (c:bu):oF T m (ug (fi m c)):=by
 grind [ug,JZ,pw]
theorem agu (h:ji T m) (c:bu):oF T m (uj (fi m c)):=by
 grind [uj,JZ,pw]
theorem agt (h:ji T m) (c:bu):oF T m (ui (fi m c)):=by
 unfold ui
 repeat' (first|exact Oi h (c:=c) ⟨Nat.zero_le _,Nat.zero_le _⟩|(exact pw _ _ _ (by assumption))|(exact pw _ _ _ dd)|(split<;>try dsimp only))
theorem agl (h:ji T m) (c:bu):oF T m (uf (fi m c)):=by
 unfold uf;cases hn:sH (fi m c).bp (fi m c).jh.cR with
 |none=>grind [pw]
 |some s=>
  have:=ago h hn;dsimp only;split
  ·grind [pw]
  split
  ·grind [pw]
  ·exact Oi h (c:=c) ⟨Nat.le_trans (agk _ _) this,Nat.zero_le _⟩
theorem agv (h:ji T m) (c:bu):oF T m (um (fi m c)):=by
 unfold um;split
 ·grind [pw]
 ·rename_i h8;have hn:=h.qM;refine GN h rfl rfl rfl rfl ⟨Nat.zero_le _,Nat.zero_le _⟩ (by show 1<=m.fz+1/\m.fz+1<=_;omega) ?_ (λs hs=>?_) h.yI h.vD
  ·show (m.dO.ab++[_]).length<=8;have h8:¬8<=m.dO.ab.length:=h8;grind
  ·rcases List.mem_append.1 (show s∈m.dO.ab++[⟨m.fz,m.aA.aQ⟩] from hs) with hs|hs
   ·exact h.vC s hs
   ·rw [List.mem_singleton.1 hs];exact ⟨m.aA,h.ja,rfl⟩
theorem agj (h:ji T m) (c:bu):oF T m (ue (fi m c)):=by
 unfold ue;split
 ·grind [pw]
 ·have hn:=h.qM;refine GN h rfl rfl rfl rfl ⟨Nat.zero_le _,Nat.zero_le _⟩ (by show 1<=m.fz/\m.fz<=_;omega) ?_ (λs hs=>?_) ?_ (λs hs=>?_)
  ·exact Nat.le_trans (List.length_filter_le _ _) h.yH
  ·exact h.vC s ((List.mem_filter.1 hs).1)
  ·exact Nat.le_trans (List.length_filter_le _ _) h.yI
  ·exact h.vD s ((List.mem_filter.1 hs).1)
theorem agx (h:ji T m) (c:bu):oF T m (uo (fi m c)):=by
 unfold uo;have hn:=h.qM;split;split
 ·grind [pw]
 split
 ·grind [pw]
 split
 ·grind [pw]
 ·rename_i h8;refine GN h rfl rfl rfl rfl ⟨Nat.zero_le _,Nat.zero_le _⟩ (by show 1<=m.fz+1/\m.fz+1<=_;omega) h.yH h.vC ?_ (λs hs=>?_)
  ·show (m.de.ab++[_]).length<=8;have h8:¬8<=m.de.ab.length:=h8;grind
  ·rcases List.mem_append.1 hs with hs|hs
   ·exact h.vD s hs
   ·rw [List.mem_singleton.1 hs];exact ⟨Nat.zero_le _,λ_=>Nat.zero_le _⟩
theorem VY (n:Int):∀ l:List fQ,(vp n l).length=l.length
 |[]=>rfl
 |w::l=>by
  unfold vp;split
  ·rfl
  ·rw [List.length_cons,VY n l,List.length_cons]
theorem VZ (n:Int):∀ l:List fQ,(∀ w∈l,BU w.l8)->∀ w∈vp n l,BU w.l8
 |[],_,_,hw=>by cases hw
 |w::l,h,x,hx=>by
  unfold vp at hx;split at hx
  ·grind [ags]
  ·rcases List.mem_cons.1 hx with rfl|hx
   ·simp_all
   ·exact VZ n l (λy hy=>h y (List.mem_cons_of_mem _ hy)) x hx
theorem agp (h:ji T m) (c:bu):oF T m (uh (fi m c)):=by
 unfold uh;cases hf:(fi m c).bp.de.ab.find? λw=>decide (w.ic=(fi m c).jh.cR) with
 |none=>grind [pw]
 |some w=>
  have hn:=h.qM;have hw:=h.vD w (List.mem_of_find?_eq_some hf);refine GN h rfl rfl rfl rfl ⟨Nat.zero_le _,hw.1⟩ (by show 1<=m.fz/\m.fz<=_;omega) h.yH h.vC ?_ (λs hs=>?_)
  ·show (vp _ m.de.ab).length<=8;rw [VY];exact h.yI
  ·exact VZ _ _ h.vD s hs
theorem V0 {o:aH} (h:cJ o=true):j5 o.aT=true:=(afJ h).2.2.2
theorem agm (h:ji T m) (c:bu):oF T m (sK (fi m c)):=by
 unfold sK;cases hr:pV (fi m c).jh.ia with
 |none=>grind [pw]
 |some l=>
  obtain ⟨hck,_⟩:=VC hr;have hck:=List.all_eq_true.1 hck;have hl0:(fi m c).bp=m:=rfl;obtain ⟨f1,f2,f3,f4⟩:=VR (g:=m.aA) l (x:=(m.eC, .dE)) ⟨.nil,λf hf=>by cases hf⟩;simp only [hl0];generalize l.foldl (i7 m.aA) (m.eC, .dE)=x at*;split
  ·grind [pw]
  ·rename_i h200;have hfl:∀ o∈x.2.ab,o∈l:=λo ho=>(f4 o ho).elim (λq=>by cases q) id
   obtain ⟨g,e1,e2,e3⟩:=Od x.2.ab (fi m c) h.ja h.xg (λo ho=>⟨hck o (hfl o ho),f1.Oc o ho⟩) f1.Oa (by simp_all);generalize nK (fi m c) x.2.ab=y at*;obtain ⟨d,e⟩:=y;dsimp only at e1 e2;subst e1;have hn:=h.qM;have q1:d.bp={m with aA:=g}:=by rw [e2];rfl
   have q2:d.gj=fg 0:=by rw [e2];rfl
   have q3:d.fP.ab=x.2.ab:=by rw [e2];rfl
   simp only;rw [if_neg dd];refine .inr ⟨⟨?_,?_,λq hq=>?_,?_,?_,?_,?_,?_⟩,?_,?_,?_⟩
   ·show iy d.bp.aA;rw [q1];exact e3.z7
   ·show kQ (du d.bp.aA);rw [q1];exact e3.BR
   ·have hq:q∈du d.bp.aA:=hq;rw [q1] at hq;show q.aT.dg<=x.1;rcases (e3.xf q).1 hq with hq|hq
    ·have:=h.Ef q hq;omega
    grind [V0]
   ·grind
   ·show d.bp.dO.ab.length<=8;rw [q1];exact h.yH
   ·show ∀ s∈d.bp.dO.ab,_;rw [q1];exact h.vC
   ·show d.bp.de.ab.length<=8;rw [q1];exact h.yI
   ·show ∀ s∈d.bp.de.ab,_;rw [q1];exact h.vD
   ·show yG {d.gj with qF:=_};rw [q2];exact ⟨Nat.zero_le _,Nat.zero_le _⟩
   ·grind
   grind
theorem agw (h:ji T m) (c:bu):oF T m (fi m c,0):=Oi h (c:=c) (JY 0)
structure Oe (T:Nat) (m:bM) (x:bM×l7×cj aH):Prop where
 Og:ji (T+1) x.1
 Of:yG x.2.1
 BS:pt m.aA x.1.aA x.2.2.ab
 age:x.1.iH=m.iH
theorem Oh (h:ji T m) (e:Int):Oe T m (m,fg e, .dE):=⟨h.VT,JY e, .N8 h.ja h.xg,rfl⟩
theorem agi (h:ji T m) {y:dj×Int} (hf:oF T m y):Oe T m (match y with
    |(d,e)=>if e≠0 then (m,fg e, .dE) else if d.fP.ab=[] then (d.bp,d.gj,d.fP) else ((DU d m.aA.aQ.ab).bp,d.gj,d.fP)):=by
 obtain ⟨d,e⟩:=y;dsimp only;split
 ·exact Oh h e
 ·rename_i he;have hf:VU T m d:=hf.elim (λq=>absurd q he) id;split
  ·exact ⟨hf.yJ,hf.VV,hf.VW,hf.VX⟩
  ·refine ⟨⟨hf.yJ.ja,hf.yJ.xg,hf.yJ.Ef,hf.yJ.qM,hf.yJ.yH,hf.yJ.vC,?_,λw hw=>?_⟩,hf.VV,hf.VW,hf.VX⟩
   ·show (d.bp.de.ab.map _).length<=8;grind [hf.yJ.yI]
   ·obtain ⟨w0,h0,rfl⟩:=List.mem_map.1 (show w∈d.bp.de.ab.map (nL m.aA.aQ.ab d.bp.aA.aQ.ab) from hw);exact agr (hf.yJ.vD w0 h0) _
theorem Eg (h:ji T m) (c:bu):Oe T m (dR m c):=by
 unfold dR;split
 ·exact Oh h 180
 ·cases hw:DV c.dD with
  |none=>exact Oh h 180
  |some f=>
   have hf:oF T m (f (fi m c)):=by
    rcases VP hw with ⟨_,rfl⟩|⟨_,rfl⟩|⟨_,rfl⟩|⟨_,rfl⟩|⟨_,rfl⟩|⟨_,rfl⟩|⟨_,rfl⟩|⟨_,rfl⟩|⟨_,rfl⟩|⟨_,rfl⟩|⟨_,rfl⟩|⟨_,rfl⟩
    ·exact agh h c
    ·exact agy h c
    ·exact agt h c
    ·exact agn h c
    ·exact agu h c
    ·exact agl h c
    ·exact agv h c
    ·exact agj h c
    ·exact agx h c
    ·exact agp h c
    ·exact agw h c
    ·exact agm h c
   exact agi h hf
end
theorem Om {α:Type} {p:α->Bool}:∀ {l:List α},l.any p=true->(mC p l).length+1=l.length
 |[],h=>by simp at h
 |a::l,h=>by
  unfold mC;split
  ·rfl
  ·rename_i ha;rw [List.any_cons,Bool.or_eq_true] at h;rw [List.length_cons,List.length_cons,Om (h.resolve_left ha)]
theorem agA {α:Type} {p:α->Bool} {l:List α} {a:α} (h:l.find? p=some a):l.any p=true:=List.any_eq_true.2 ⟨a,List.mem_of_find?_eq_some h,List.find?_some h⟩
theorem V6 (t:ib) (th lk:Int):(iO t th lk).1.eW.ab.length+(iO t th lk).1.di.ab.length+(if (iO t th lk).2.isSome=true then 1 else 0)<=t.eW.ab.length+t.di.ab.length/\
  (iO t th lk).1.di.ab.length+(if (iO t th lk).2.isSome=true then 1 else 0)=t.di.ab.length:=by
 unfold iO;cases h1:t.eW.ab.any λx=>decide (x=⟨lk,th⟩) with
 |false=>simp_all
 |true=>
  have e1:=Om h1;simp only;cases h2:t.di.ab.find? λw=>decide (w.eA=lk) with
  |none=>
   refine ⟨?_,?_⟩
   ·show (mC _ t.eW.ab).length+t.di.ab.length+0<=_;omega
   trivial
  |some w=>
   have e2:=Om (agA h2);refine ⟨?_,?_⟩
   ·show (mC _ t.eW.ab++[w]).length+(mC _ t.di.ab).length+1<=_;grind
   trivial
theorem agB (t:ib) (th lk:Int):((sB t th lk).2=true->(sB t th lk).1.di.ab.length=t.di.ab.length/\(sB t th lk).1.eW.ab.length<=t.eW.ab.length+1)/\
  ((sB t th lk).2=false->(sB t th lk).1.di.ab.length<=t.di.ab.length+1/\(sB t th lk).1.eW.ab.length=t.eW.ab.length):=by
 unfold sB;cases DM t lk with
 |none=>exact ⟨λ_=>⟨rfl,by show (t.eW.ab++[_]).length<=_;simp_all⟩,λh=>by cases h⟩
 |some h=>
  simp only;split
  ·simp_all
  ·split
   ·simp_all
   ·exact ⟨λh=>(by cases h),λ_=>⟨by show (t.di.ab++[_]).length<=_;simp_all,rfl⟩⟩
theorem agC (th:Int) (x:ib×cj bX) (h:bX):(nI th x h).1.eW.ab.length+(nI th x h).1.di.ab.length<=x.1.eW.ab.length+x.1.di.ab.length/\(nI th x h).1.di.ab.length+(nI th x h).2.ab.length=x.1.di.ab.length+x.2.ab.length:=by
 unfold nI;split
 ·obtain ⟨a,b⟩:=V6 x.1 th h.eA;generalize iO x.1 th h.eA=y at*;obtain ⟨t,o⟩:=y;cases o with
  |none=>
   simp_all
  |some n=>
   simp only [Option.isSome_some,if_true] at a b;refine ⟨by grind,?_⟩;show t.di.ab.length+(x.2.ab++[_]).length=_;grind
 omega
theorem V5 (th:Int):∀ (l:List bX) (x:ib×cj bX),(l.foldl (nI th) x).1.eW.ab.length+(l.foldl (nI th) x).1.di.ab.length<=x.1.eW.ab.length+x.1.di.ab.length/\(l.foldl (nI th) x).1.di.ab.length+(l.foldl (nI th) x).2.ab.length=x.1.di.ab.length+x.2.ab.length
 |[],x=>⟨Nat.le_refl _,rfl⟩
 |h::l,x=>by
  obtain ⟨a,b⟩:=agC th x h;obtain ⟨c,d⟩:=V5 th l (nI th x h);grind
theorem On (t:ib) (th:Int):(j7 t th).1.eW.ab.length+(j7 t th).1.di.ab.length<=t.eW.ab.length+t.di.ab.length/\(j7 t th).1.di.ab.length+(j7 t th).2.ab.length<=t.di.ab.length:=by
 unfold j7;obtain ⟨a,b⟩:=V5 th t.eW.ab (⟨t.eW,t.di.gL λw=>decide (w.fZ=th)⟩, .dE);have h:(t.di.gL λw=>decide (w.fZ=th)).ab.length<=t.di.ab.length:=List.length_filter_le _ _;grind [cj.dE]
structure p7 (t:cd):Prop where
 rK:t.dN.bY.length<=1000
 uu:t.dN.fO.length<=1000
 vH:t.dN.ia.length<=5000
 vG:0<=t.mX
 yK:yG t.dT
def gB (f:cd->Nat) (l:List cd):Nat:=(l.map f).sum
theorem J3 (f:cd->Nat) (t:cd) (l:List cd):gB f (t::l)=f t+gB f l:=rfl
theorem agz (f:cd->Nat):gB f []=0:=rfl
theorem Ol (f:cd->Nat):∀ (l m:List cd),gB f (l++m)=gB f l+gB f m
 |[],m=>by grind [agz]
 |t::l,m=>by rw [List.cons_append,J3,J3,Ol f l m];omega
theorem V4 (f:cd->Nat) {l:List cd} {t:cd} (h:t∈l):f t<=gB f l:=by
 induction l with
 |nil=>cases h
 |cons a l ih=>
  grind [J3]
theorem BV {f:cd->Nat} {g:cd->cd} {d:Nat} (l:List cd) (n:Nat) (h:∀ t∈l,f (g t)<=f t+d):gB f (l.modify n g)<=gB f l+d:=by
 induction l generalizing n with
 |nil=>simp_all
 |cons t l ih=>
  grind [J3]
theorem V3 {g:cd->cd} {l:List cd} {n:Nat} {t:cd} (h:t∈l.modify n g):t∈l\/∃ s∈l,t=g s:=by
 induction l generalizing n with
 |nil=>simp_all
 |cons a l ih=>
  grind
def kS (t:cd):Nat:=t.jB.ab.length
def kR (t:cd):Nat:=t.mX.toNat
structure fS (T:Nat) (x:aV):Prop where
 ma:x.aq.ab.length<=40
 oG:∀ t∈x.aq.ab,p7 t
 vF:gB kS x.aq.ab+x.cM.di.ab.length<=T
 vE:gB kR x.aq.ab+x.cM.di.ab.length<=T
 nO:x.cM.eW.ab.length+x.cM.di.ab.length<=T
theorem fS.V1 {T U:Nat} {x:aV} (h:fS T x) (k:T<=U):fS U x:=⟨h.ma,h.oG,Nat.le_trans h.vF k,Nat.le_trans h.vE k,Nat.le_trans h.nO k⟩
theorem Ei (l:List cd) (n:Int) (f:cd->cd):(gA l n f).length=l.length:=by
 grind [gA]
theorem J4 {T d e:Nat} {x:aV} (n:Int) (f:cd->cd) (h1:x.aq.ab.length<=40) (h2:∀ t∈x.aq.ab,p7 t) (hf:∀ t,p7 t->p7 (f t)) (hd:∀ t,p7 t->kS (f t)<=kS t+d) (he:∀ t,p7 t->kR (f t)<=kR t+e)
  (h3:gB kS x.aq.ab+d+x.cM.di.ab.length<=T) (h4:gB kR x.aq.ab+e+x.cM.di.ab.length<=T) (h5:x.cM.eW.ab.length+x.cM.di.ab.length<=T):fS T (gy x n f):=by
 have hsum:∀ (g:cd->Nat) (k:Nat),(∀ t,p7 t->g (f t)<=g t+k)->gB g (gA x.aq.ab n f)<=gB g x.aq.ab+k:=λg k hk=>by
  unfold gA;split
  ·omega
  ·exact BV _ _ λt ht=>hk t (h2 t ht)
 refine ⟨by show (gA x.aq.ab n f).length<=40;rw [Ei];exact h1,λt ht=>?_,?_,?_,h5⟩
 ·have ht:t∈gA x.aq.ab n f:=ht;grind [gA,V3]
 ·have:=hsum kS d hd;show gB kS (gA x.aq.ab n f)+x.cM.di.ab.length<=T;omega
 ·have:=hsum kR e he;show gB kR (gA x.aq.ab n f)+x.cM.di.ab.length<=T;omega
theorem J2 (u:dt):∀ t,p7 t->p7 (nJ t u):=λt h=>by
 unfold nJ;split
 ·refine ⟨h.rK,h.uu,h.vH,?_,h.yK⟩;have:=h.vG;grind
 split
 ·refine ⟨h.rK,h.uu,h.vH,?_,h.yK⟩;have:=h.vG;grind
 split
 ·exact ⟨h.rK,h.uu,h.vH,h.vG,h.yK⟩
 split
 ·exact ⟨h.rK,h.uu,h.vH,h.vG,h.yK⟩
 ·exact h
theorem J1 (u:dt) (t:cd):kS (nJ t u)<=kS t+(if u.gu=1 then 1 else 0):=by
 unfold nJ kS;split
 ·show (t.jB.ab++[_]).length<=_;simp_all
 split
 ·exact Nat.le_trans (List.length_filter_le _ _) (Nat.le_add_right _ _)
 grind
theorem J0 (u:dt) (t:cd) (h:p7 t):kR (nJ t u)<=kR t+(if u.gu=1 then 1 else 0):=by
 have:=h.vG;unfold nJ kR;grind
theorem Eh {T:Nat} {x:aV} (who:Int) (u:dt) (h:fS T x) (hu:u.gu≠1):fS T (jT x who u):=by
 unfold jT;refine J4 (d:=0) (e:=0) who _ h.ma h.oG (J2 u) (λt _=>?_) (λt ht=>?_) h.vF h.vE h.nO
 ·grind [J1]
 grind [J0]
theorem V2 {T:Nat} {x:aV} (g:bX) (h1:x.aq.ab.length<=40) (h2:∀ t∈x.aq.ab,p7 t) (h3:gB kS x.aq.ab+1+x.cM.di.ab.length<=T) (h4:gB kR x.aq.ab+1+x.cM.di.ab.length<=T) (h5:x.cM.eW.ab.length+x.cM.di.ab.length<=T):fS T (jE x g):=
 J4 (d:=1) (e:=1) _ _ h1 h2 (J2 _) (λt _=>J1 _ t) (λt ht=>J0 _ t ht) h3 h4 h5
theorem Oj {T:Nat}:∀ (l:List bX) {x:aV},x.aq.ab.length<=40->(∀ t∈x.aq.ab,p7 t)->gB kS x.aq.ab+l.length+x.cM.di.ab.length<=T->gB kR x.aq.ab+l.length+x.cM.di.ab.length<=T->x.cM.eW.ab.length+x.cM.di.ab.length<=T->fS T (l.foldl jE x)
 |[],x,h1,h2,h3,h4,h5=>⟨h1,h2,h3,h4,h5⟩
 |g::l,x,h1,h2,h3,h4,h5=>by
  rw [List.length_cons] at h3 h4;rw [List.foldl_cons];have h:=V2 (T:=T - l.length) (x:=x) g h1 h2 om om;have hx:(jE x g).cM=x.cM:=rfl;have hs1:gB kS (jE x g).aq.ab<=gB kS x.aq.ab+1:=by
   show gB kS (gA _ _ _)<=_;unfold gA;split
   ·omega
   ·exact BV _ _ λt _=>J1 _ t
  have hs2:gB kR (jE x g).aq.ab<=gB kR x.aq.ab+1:=by
   show gB kR (gA _ _ _)<=_;unfold gA;split
   ·omega
   ·exact BV _ _ λt ht=>J0 _ t (h2 t ht)
  refine Oj l (x:=jE x g) ?_ ?_ (by rw [hx];omega) (by rw [hx];omega) (by rw [hx];exact h5)
  ·show (gA _ _ _).length<=40;rw [Ei];exact h1
  ·intro t ht;have ht:t∈gA x.aq.ab _ _:=ht;grind [gA,V3,J2]
theorem BW {T:Nat} {x:aV} (h:fS T x) (n:Int) (f:cd->cd) (hf:∀ t,p7 t->p7 (f t)) (hd:∀ t,kS (f t)<=kS t) (he:∀ t,kR (f t)<=kR t):fS T (gy x n f):=
 J4 (d:=0) (e:=0) n f h.ma h.oG hf (λt _=>hd t) (λt _=>he t) h.vF h.vE h.nO
theorem Ov {T:Nat} {x:aV} (h:fS T x) (n:Int):fS T (kD x n):=BW h n _ (λ_ k=>⟨k.rK,k.uu,k.vH,k.vG,k.yK⟩) (λ_=>Nat.le_refl _) λ_=>Nat.le_refl _
theorem V8 {T:Nat}:∀ (l:List Int) {x:aV},fS T x->fS T (l.foldl kD x)
 |[],_,h=>h
 |n::l,_,h=>V8 l (Ov h n)
theorem agL {T:Nat} {x:aV} (h:fS T x) (who:Int) (u:dt) (hu:u.gu=1):fS (T+1) (yB x who u):=by
 have h1:=h.vF;have h2:=h.vE;have h3:=h.nO;obtain ⟨a1,a2⟩:=agB x.cM who u.pk;unfold yB;generalize sB x.cM who u.pk=y at*;obtain ⟨t,b⟩:=y;dsimp only at*;cases b with
 |true=>
  obtain ⟨e1,e2⟩:=a1 rfl;rw [if_pos rfl];unfold jT;refine J4 (d:=1) (e:=1) who _ h.ma h.oG (J2 u) (λt _=>?_) (λt ht=>?_) ?_ ?_ ?_
  ·grind [J1]
  ·grind [J0]
  ·grind
  ·grind
  grind
 |false=>
  obtain ⟨e1,e2⟩:=a2 rfl;rw [if_neg dd];refine ⟨h.ma,h.oG,?_,?_,?_⟩
  ·grind
  ·grind
  grind
theorem V9 {T:Nat} {x:aV} (h:fS T x) (who:Int) (u:dt) (hu:u.gu≠1):fS T (yA x who u):=by
 have h1:=h.vF;have h2:=h.vE;have h3:=h.nO;obtain ⟨a1,a2⟩:=V6 x.cM who u.pk;unfold yA;generalize iO x.cM who u.pk=y at*;obtain ⟨t,o⟩:=y;cases o with
 |none=>
  simp only [Option.isSome_none,Bool.false_eq_true,if_false] at a1 a2;refine Eh who u ⟨h.ma,h.oG,?_,?_,?_⟩ hu
  ·simp_all
  ·simp_all
  grind
 |some n=>
  simp only [Option.isSome_some,if_true] at a1 a2;have hb:fS (T - 1) (jT {x with cM:=t} who u):=by
   refine Eh who u ⟨h.ma,h.oG,?_,?_,?_⟩ hu
   ·grind
   ·grind
   grind
  grind [hb.vF,hb.vE,hb.nO,V2,hb.ma,hb.oG]
theorem V7 (t:cd) (h:p7 t):p7 (i6 t):=⟨h.rK,h.uu,h.vH,Int.le_refl _,h.yK⟩
theorem agE {T:Nat} {x:aV} (h:fS T x) (who:Int) (n:Nat):fS T (ln who x n):=by
 have h1:=h.vF;have h2:=h.vE;have h3:=h.nO;unfold ln;split
 ·exact h
 ·split
  ·obtain ⟨a1,a2⟩:=On x.cM n;generalize j7 x.cM n=y at*;obtain ⟨t,p⟩:=y;dsimp only at*;have hb:fS T (gy {x with cM:=t} n i6):=by
    refine BW (x:={x with cM:=t}) ⟨h.ma,h.oG,?_,?_,?_⟩ n _ V7 (λ_=>Nat.zero_le _) λ_=>Nat.zero_le _
    ·grind
    ·grind
    grind
   have q1:gB kS (gA x.aq.ab n i6)<=gB kS x.aq.ab+0:=by
    unfold gA;split
    ·exact Nat.le_refl _
    ·exact BV _ _ λ_ _=>Nat.zero_le _
   have q2:gB kR (gA x.aq.ab n i6)<=gB kR x.aq.ab+0:=by
    unfold gA;split
    ·exact Nat.le_refl _
    ·exact BV _ _ λ_ _=>Nat.zero_le _
   refine Oj p.ab hb.ma hb.oG ?_ ?_ hb.nO
   ·show gB kS (gA x.aq.ab n i6)+p.ab.length+t.di.ab.length<=T;omega
   ·show gB kR (gA x.aq.ab n i6)+p.ab.length+t.di.ab.length<=T;omega
  ·exact h
theorem Ou {T:Nat} (who:Int):∀ (l:List Nat) {x:aV},fS T x->fS T (l.foldl (ln who) x)
 |[],_,h=>h
 |n::l,_,h=>Ou who l (agE h who n)
structure eN (T:Nat) (x:aV):Prop where
 jb:ji T x.br
 gC:fS T x
 p8:x.dy.gi.ab.length<=T
 p9:0<=x.ca/\x.ca<=T
 sS:x.bG.ab.length<=x.br.aA.b8.ab.length+1300
 sR:∀ o∈x.bG.ab,cJ o=true
 uv:x.bG.ab=[]->x.bG.dI=true
theorem fS.yL {T:Nat} {x y:aV} (h:fS T x) (h1:y.aq=x.aq) (h2:y.cM=x.cM):fS T y:=⟨by rw [h1];exact h.ma,by rw [h1];exact h.oG,by grind [h.vF],by grind [h.vE],by rw [h2];exact h.nO⟩
structure rM (x y:aV):Prop where
 Aa:y.br=x.br
 Oo:y.dy=x.dy
 Ot:y.ca=x.ca
 Ab:y.bG=x.bG
theorem rM.Oq (x:aV):rM x x:=⟨rfl,rfl,rfl,rfl⟩
theorem rM.Ej {x y z:aV} (h:rM x y) (k:rM y z):rM x z:=⟨k.Aa.trans h.Aa,k.Oo.trans h.Oo,k.Ot.trans h.Ot,k.Ab.trans h.Ab⟩
theorem uw (x:aV) (n:Int) (f:cd->cd):rM x (gy x n f):=⟨rfl,rfl,rfl,rfl⟩
theorem GO {α:Type} {f:aV->α->aV} (hf:∀ x a,rM x (f x a)):∀ (l:List α) (x:aV),rM x (l.foldl f x)
 |[],x=> .Oq x
 |a::l,x=>(hf x a).Ej (GO hf l (f x a))
theorem Wb (x:aV) (who:Int) (u:dt):rM x (yB x who u):=by
 unfold yB;split;split
 ·exact ⟨rfl,rfl,rfl,rfl⟩
 ·exact ⟨rfl,rfl,rfl,rfl⟩
theorem Wa (x:aV) (who:Int) (u:dt):rM x (yA x who u):=by
 unfold yA;split
 ·exact ⟨rfl,rfl,rfl,rfl⟩
 ·exact ⟨rfl,rfl,rfl,rfl⟩
theorem agI (who:Int) (x:aV) (n:Nat):rM x (ln who x n):=by
 unfold ln;split
 ·exact .Oq x
 ·split
  ·split;rename_i tb p _;exact (show rM x (gy {x with cM:=tb} n i6) from ⟨rfl,rfl,rfl,rfl⟩).Ej (GO (f:=jE) (λx h=>uw x _ _) _ _)
  ·exact .Oq x
theorem agH (x:aV) (who:Int):rM x (yz x who):=GO (agI who) _ x
theorem eN.z8 {T:Nat} {x y:aV} (h:eN T x) (k:rM x y) (t:fS T y):eN T y:=
 ⟨by rw [k.Aa];exact h.jb,t,by rw [k.Oo];exact h.p8,by rw [k.Ot];exact h.p9,by rw [k.Ab,k.Aa];exact h.sS,by rw [k.Ab];exact h.sR,by rw [k.Ab];exact h.uv⟩
theorem eN.rL {T:Nat} {x:aV} (h:eN T x):eN (T+1) x:=
 ⟨h.jb.VT,h.gC.V1 (Nat.le_succ _),Nat.le_succ_of_le h.p8,⟨h.p9.1,by have:=h.p9.2;omega⟩,h.sS,h.sR,h.uv⟩
theorem agK {T:Nat} {x:aV} (h:eN T x) (c:bu) (h1:c.bY.length<=1000) (h2:c.fO.length<=1000) (h3:c.ia.length<=5000):eN (T+1) (qJ x c).1:=by
 unfold qJ;split
 ·exact h.rL
 ·rename_i h40;have hl:=h.rL;have ht:=h.p9;refine ⟨hl.jb,⟨?_,λt hm=>?_,?_,?_,hl.gC.nO⟩,hl.p8,⟨?_,?_⟩,hl.sS,hl.sR,hl.uv⟩
  ·show (x.aq.ab++[_]).length<=40;grind
  ·rcases List.mem_append.1 (show t∈x.aq.ab++[Gt c (x.ca+1)] from hm) with hm|hm
   ·exact h.gC.oG t hm
   ·rw [List.mem_singleton.1 hm];exact ⟨h1,h2,h3,Int.le_refl _,Nat.zero_le _,Nat.zero_le _⟩
  ·show gB kS (x.aq.ab++[_])+_<=_;rw [Ol];exact hl.gC.vF
  ·show gB kR (x.aq.ab++[_])+_<=_;rw [Ol];exact hl.gC.vE
  ·grind
  simp_all
theorem Wc (th up:Int):∀ l:List fI,(BD th up l).length=l.length
 |[]=>rfl
 |w::l=>by
  unfold BD;split
  ·rfl
  ·rw [List.length_cons,Wc th up l,List.length_cons]
theorem agF (g:l6) (th up:Int):(zO g th up).1.gi.ab.length<=g.gi.ab.length+1:=by
 unfold zO;split
 ·exact Nat.le_succ _
 split
 ·show (BD th up g.gi.ab).length<=_;grind [Wc]
 ·show (g.gi.ab++[_]).length<=_;simp_all
theorem agN {T:Nat} {x:aV} (h:eN T x) (who:Int):eN (T+1) (vu x who):=by
 have hl:=h.rL;have hj:=agF x.dy who (Gx x who);have hg:=h.p8;unfold vu;generalize zO x.dy who (Gx x who)=y at*;obtain ⟨g,k⟩:=y;dsimp only at*;have h0:eN (T+1) {x with dy:=g}:=⟨hl.jb,hl.gC.yL rfl rfl,by grind,hl.p9,hl.sS,hl.sR,hl.uv⟩;split
 ·exact h0.z8 (uw _ _ _) (Ov h0.gC who)
 ·exact h0
theorem agG {T:Nat} {x:aV} (h:eN T x) (who:Int) (full:Bool):eN T (qH x who full):=by
 unfold qH;split
 ·have h0:eN T {x with dy:=⟨x.dy.nH,x.dy.gi.gL λw=>decide (w.fJ=who)⟩}:=⟨h.jb,h.gC.yL rfl rfl,Nat.le_trans (List.length_filter_le _ _) h.p8,h.p9,h.sS,h.sR,h.uv⟩;have h1:fS T (gy {x with dy:=⟨x.dy.nH,x.dy.gi.gL λw=>decide (w.fJ=who)⟩} who λt=>{t with dT:=fg 120}):=
   BW h0.gC who _ (λt k=>⟨k.rK,k.uu,k.vH,k.vG,JY _⟩) (λ_=>Nat.le_refl _) λ_=>Nat.le_refl _
  exact h0.z8 ((uw _ _ _).Ej (uw _ _ _)) (Ov h1 who)
 ·have h2:(w6 x.dy x.bG.ab.length).1.gi.ab.length<=x.dy.gi.ab.length:=List.length_filter_le _ _;generalize w6 x.dy x.bG.ab.length=y at*;obtain ⟨g,gone⟩:=y;dsimp only at*;have h0:eN T {x with dy:=g}:=⟨h.jb,h.gC.yL rfl rfl,Nat.le_trans h2 h.p8,h.p9,h.sS,h.sR,h.uv⟩;exact h0.z8 (GO (λx n=>uw x _ _) _ _) (V8 gone.ab h0.gC)
theorem agJ {T:Nat} {x:aV} (h:eN T x) (who:Int) (u:dt) (hu:u.gu≠1):eN T (Gu x who u):=
 h.z8 ((uw _ _ _).Ej (uw _ _ _)) (BW (Eh who u h.gC hu) who _ (λ_ k=>⟨k.rK,k.uu,k.vH,k.vG,k.yK⟩) (λ_=>Nat.le_refl _) λ_=>Nat.le_refl _)
theorem agD {T:Nat} {x:aV} (h:eN T x) (who:Int) (u:dt) (hu:u.gu≠1):eN (T+1) (vr x who u):=by
 have hl:=h.rL;have hd:=Eg h.jb (lK x who);have ho:=h.sS;unfold vr;generalize dR x.br (lK x who)=y at*;obtain ⟨m,a,ops⟩:=y;have hcnt:=hd.BS.Ee;have hmem:=hd.BS.xf;have hlo:=hd.BS.z7;have hmo:=hd.Og;have han:=hd.Of;dsimp only at*;have h0:eN (T+1) {x with br:=m,bG:=⟨(x.bG.eI ops.ab).dI,(x.bG.eI ops.ab).ab⟩}:=by
  refine ⟨hmo,hl.gC.yL rfl rfl,hl.p8,hl.p9,?_,λo hm=>?_,λhq=>?_⟩
  ·show (x.bG.ab++ops.ab).length<=m.aA.b8.ab.length+1300;grind
  ·rcases List.mem_append.1 (show o∈x.bG.ab++ops.ab from hm) with hm|hm
   ·exact h.sR o hm
   ·obtain ⟨e,he,rfl⟩:=List.mem_map.1 ((hmem o).2 (.inr hm));exact hlo.xd e he
  ·have hq:x.bG.ab++ops.ab=[]:=hq;obtain ⟨q1,q2⟩:=List.append_eq_nil_iff.1 hq;show (x.bG.dI && ops.ab.isEmpty)=true;rw [h.uv q1,q2];rfl
 have h1:fS (T+1) (gy {x with br:=m,bG:=⟨(x.bG.eI ops.ab).dI,(x.bG.eI ops.ab).ab⟩} who λt=>{t with dT:=a,lh:=x.ca,ua:=(x.bG.eI ops.ab).ab.length}):=
  BW h0.gC who _ (λt k=>⟨k.rK,k.uu,k.vH,k.vG,han⟩) (λ_=>Nat.le_refl _) λ_=>Nat.le_refl _
 have h2:=h0.z8 ((uw _ _ _).Ej (uw _ _ _)) (Eh who u h1 hu);split
 ·exact h2.z8 (agH _ _) (Ou who _ h2.gC)
 ·exact h2
theorem agM {T:Nat} {x:aV} (h:eN T x) (who:Int) (u:dt):eN (T+1) (BH x who u):=by
 unfold BH;split
 ·rename_i hu;exact h.rL.z8 (Wb _ _ _) (agL h.gC who u hu)
 rename_i hu;split
 ·exact h.rL.z8 (Wa _ _ _) (V9 h.rL.gC who u hu)
 grind [agD,agN,agJ,h.rL]
theorem Ox {T:Nat} {x:aV} (h:eN T x) (p:Int) (full:Bool):eN (T+2) (pX x p full):=by
 have ht:=h.p9;have hl:=h.rL;have h0:eN (T+1) {x with ca:=x.ca+1}:=⟨hl.jb,hl.gC.yL rfl rfl,hl.p8,⟨by grind,by simp_all⟩,hl.sS,hl.sR,hl.uv⟩;unfold pX;split
 ·exact hl.rL
 ·split
  ·exact (agG h0 _ _).rL
  grind [agM]
theorem Ow {r:Int} (h:(oD r).2=0):eN 0 (oD r).1:=by
 unfold oD at*;have hm:(rF r).2=0->ji 0 (rF r).1:=λe=>by
  unfold rF at*;split at e
  ·cases e
  ·rename_i hr;rw [if_neg hr];exact ⟨.afE, .nil,λo ho=>(by cases ho),⟨Int.le_refl _,Int.le_refl _⟩,Nat.zero_le _,λs hs=>(by cases hs),Nat.zero_le _,λs hs=>(by cases hs)⟩
 generalize rF r=y at*;obtain ⟨m,e⟩:=y;dsimp only at*;split at h
 ·omega
 ·rename_i he;rw [if_neg he];exact ⟨hm (by simpa using he),⟨Nat.zero_le _,λt ht=>(by cases ht),Nat.le_refl _,Nat.le_refl _,Nat.le_refl _⟩,Nat.le_refl _,⟨Int.le_refl _,Int.le_refl _⟩,Nat.zero_le _,λo ho=>(by cases ho),λ_=>rfl⟩
structure jL where
 cX:eD
 sT:Bool
 rN:Bool
structure dF where
 bL:aV
 kT:jL
 yM:Int
def agO:jL:=⟨De,true,true⟩
def Ek:dF:=⟨Nz,agO,0⟩
def yP (b:jL) (o:aH):jL×Int:=
 if cJ o=false then (b,50)
 else if 40000<(dM o).length\/1000000<b.cX.cQ then (b,130)
 else (⟨(ot b.cX (dM o)).1,b.sT,false⟩,0)
def Ag:jL->List aH->jL
 |b,[]=>b
 |b,o::l=>match yP b o with
  |(b',e)=>if e≠0 then b' else Ag b' l
def Af (l:List aH):List UInt8:=l.flatMap dM
def sU (b:jL) (l:List aH):jL×Int:=
 if l.all cJ=false then (b,50)
 else if b.cX.gp=0/\b.cX.cV<200/\40000<(gr b.cX.cQ (Af l)).length then (b,130)
 else match jz b.cX (Af l) with
  |(w,e)=>if e≠0 then (b,e) else match mv (kb w) with
   |(w',e')=>if e'≠0 then (b,e') else (⟨w',false,b.rN⟩,0)
def Ad (b:jL) (l:List aH):jL×Int:=match j1 b.cX with
 |(w,e)=>if e≠0 then sU b l else (⟨kb w,true,if b.cX.cD=[] then b.rN else true⟩,0)
def qc (replica size:Int):dF×Int:=match oD replica with
 |(c,e)=>if e≠0 then (Ek,e) else match oY size with
  |(w,e')=>if e'≠0 then (Ek,e') else (⟨c,⟨w,true,true⟩,0⟩,0)
def qd (d:dF) (c:bu):dF×Int×Int:=match qJ d.bL c with
 |(x,n,e)=>if e≠0 then (d,0,e) else ({d with bL:=x},n,0)
def Oy (sent:Int) (l:List aH):List aH:=l.drop (min (max sent 0) l.length).toNat
def Ah (d:dF) (p:Int):dF:=match qI d.bL p with
 |none=>d
 |some (_,true)=>match Ad d.kT d.bL.bG.ab with
  |(b,e)=>⟨pX d.bL p (decide (e≠0)),b,d.yM⟩
 |some (_,false)=>
  ⟨pX d.bL p false,Ag d.kT (Oy d.yM (pX d.bL p false).bG.ab),(pX d.bL p false).bG.ab.length⟩
def Ae (d:dF):dF×Int:=match sU d.kT d.bL.bG.ab with
 |(b,e)=>if e≠0 then (d,e) else ({d with kT:=b},0)
def xh:List (List UInt8)->List aH->Option (List aH)
 |[],acc=>some acc
 |r::l,acc=>match kO r with
  |some (o,[])=>xh l (acc++[o])
  |_=>none
def Wd (c:aV) (ops:List aH):aV:={c with br:=Jz c.br ops,bG:=⟨true,ops⟩,dy:=⟨ops.length,c.dy.gi⟩}
def yO (replica:Int) (d:dL):dF×Int:=match oD replica with
 |(c,e)=>if e≠0 then (Ek,e) else if (iX d).x9≠0 then (Ek,(iX d).x9) else match pV (iX d).ya with
  |none=>(Ek,140)
  |some l=>match xh (iX d).kJ l with
   |none=>(Ek,140)
   |some ops=>(⟨Wd c ops,⟨(iX d).tJ,false,true⟩,ops.length⟩,0)
def yN (d:dF) (picks:List UInt8):dF×Int:=match yO d.bL.br.iH (jO d.kT.cX.aW (ew picks)) with
 |(n,e)=>if e≠0 then (d,e) else (n,0)
structure jF where
 qN:Int
 kU:bu
 GP:Int
 BX:List UInt8
def sV (d:dF) (o:jF):dF×Int:=
 if o.qN=1 then ((qd d o.kU).1,(qd d o.kU).2.2)
 else if o.qN=2 then (Ah d o.GP,0)
 else if o.qN=3 then Ae d
 else if o.qN=4 then yN d o.BX
 else (d,0)
def Ac (d:dF) (l:List jF):dF:=l.foldl (λd o=>(sV d o).1) d
def yQ (p:Int):Nat->Nat->dF->dF
 |0,_,d=>d
 |k+1,i,d=>if BG d.bL=true then d else yQ p k (i+1) (Ah d (p+(i % 7:Nat)))
def BY (d:dF) (p:Int):dF:=yQ p (45*d.bL.aq.ab.length*d.bL.aq.ab.length) 0 d
section
theorem Wh (d:dL):(lF d).bE=d.bE:=by grind [lF]
theorem Wi (w:eD):(gP w).aW.bE=w.aW.bE:=by
 grind [gP,Wh]
theorem agR (w:eD) (p:List UInt8):(ot w p).1.aW=w.aW:=by grind [ot]
theorem agT (w:eD):(j1 w).1.aW.bE=w.aW.bE:=by
 grind [j1,L0,Wi]
theorem Wj (w:eD):(kb w).aW.bE=w.aW.bE:=by
 grind [kb,Wh]
theorem agS (w:eD) (s:List UInt8):(jz w s).1.aW.bE=w.aW.bE:=by
 grind [jz,L0,Wi]
theorem agU (w:eD):(mv w).1.aW.bE=w.aW.bE:=by
 grind [mv,L0]
variable {w:eD}
theorem Oz (h:je w):(kb w).aW.cH=[]:=by
 have:(kb w).aW=lF w.aW:=by grind [kb]
 grind [lF,h.pO]
end
structure lq (b:jL):Prop where
 yR:je b.cX
 El:b.cX.aW.cH.length<=2000
 Em:b.sT=true->b.cX.aW.cH=[]
 agP:b.rN=true->b.cX.cD=[]
 GQ:b.cX.aW.bE<=255
theorem Wg {b:jL} (h:lq b) (o:aH):lq (yP b o).1:=by
 unfold yP;split
 ·exact h
 rename_i hc;split
 ·exact h
 ·have hd:=agR b.cX (dM o);refine ⟨h.yR.aaX (Nat.le_trans (Vu (by simpa using hc)) dd),?_,?_,λe=>(by cases e),?_⟩
  ·show (ot b.cX _).1.aW.cH.length<=_;rw [hd];exact h.El
  ·show b.sT=true->(ot b.cX _).1.aW.cH=[];rw [hd];exact h.Em
  ·show (ot b.cX _).1.aW.bE<=_;rw [hd];exact h.GQ
theorem Wf:∀ (l:List aH) {b:jL},lq b->lq (Ag b l)
 |[],_,h=>h
 |o::l,b,h=>by
  have hp:=Wg h o;show lq (match yP b o with|(b',e)=>if e≠0 then b' else Ag b' l);generalize yP b o=y at*;obtain ⟨b',e⟩:=y;dsimp only at*;split
  ·exact hp
  ·exact Wf l hp
theorem We {b:jL} (h:lq b) (l:List aH):lq (sU b l).1:=by
 have hms:=agS b.cX (Af l);have h3:=h.yR.Sb (Af l);have hwt:(jz b.cX (Af l)).2=0->(jz b.cX (Af l)).1.cD.length<=(jz b.cX (Af l)).1.mS:=by grind [jz,gP]
 unfold sU;split
 ·exact h
 split
 ·exact h
 generalize jz b.cX (Af l)=y at*;obtain ⟨w,e⟩:=y;dsimp only at*;split
 ·exact h
 have hsl:=Oz h3;have hss:=Wj w;have hws:=agU (kb w);have hlo:=h3.IQ.aa1;have g2:=h3.IQ.aa0;have hw2:(mv (kb w)).2=0->(mv (kb w)).1.cD=w.cD.drop w.mS:=by grind [mv,kb]
 generalize mv (kb w)=z at*;obtain ⟨w',e'⟩:=z;dsimp only at*;split
 ·exact h
 refine ⟨g2,by simp_all,λq=>(by cases q),λ_=>by simp_all,?_⟩;show w'.aW.bE<=_;have:=h.GQ;omega
theorem agQ {b:jL} (h:lq b) (l:List aH):lq (Ad b l).1:=by
 have hsz:=h.GQ;have ha:=We h l;have hss:=agT b.cX;have h3:=h.yR.Sc;have hwt:(j1 b.cX).2=0->(j1 b.cX).1.cD=[]:=by grind [j1]
 unfold Ad;generalize j1 b.cX=y at*;obtain ⟨w,e⟩:=y;dsimp only at*;split
 ·exact ha
 have hsl:=Oz h3;have hs2:=Wj w;have hw2:(kb w).cD=w.cD:=by grind [kb]
 refine ⟨h3.IQ,by simp_all,λ_=>hsl,λ_=>by simp_all,?_⟩;show (kb w).aW.bE<=_;omega
theorem ag1 {g:eh} (h:iy g) (hr:kQ (du g)) (o:aH):kQ (du (eF g o).1)/\∀ p∈du (eF g o).1,p∈du g\/(p=o/\cJ o=true):=by
 by_cases h1:cJ o=true
 ·by_cases h2:kg g o.aT=true
  ·grind [eF]
  ·by_cases h3:g.b8.ab.length<200
   ·have:=(N9 h hr h1 (by simpa using h2) h3).2;exact ⟨this.BR,λp hp=>((this.xf p).1 hp).imp id λq=>⟨List.mem_singleton.1 q,h1⟩⟩
   grind [eF]
 grind [eF]
def J7 (x:eh×Int) (o:aH):eh×Int:=((eF x.1 o).1,if (eF x.1 o).2≠0 then x.2+1 else x.2)
theorem Ws:∀ (l:List aH) (x:eh×Int),iy x.1->kQ (du x.1)->iy (l.foldl J7 x).1/\kQ (du (l.foldl J7 x).1)/\∀ p∈du (l.foldl J7 x).1,p∈du x.1\/(p∈l/\cJ p=true)
 |[],x,h,hr=>⟨h,hr,λp hp=> .inl hp⟩
 |o::l,x,h,hr=>by
  obtain ⟨a,b⟩:=ag1 h hr o;obtain ⟨c,d,e⟩:=Ws l (J7 x o) (h.Ea o) a;rw [List.foldl_cons];refine ⟨c,d,λp hp=>?_⟩;rcases e p hp with q|⟨q,k⟩
  ·rcases b p q with q|⟨rfl,k⟩
   ·exact .inl q
   simp_all
  simp_all
def BZ (s:Int) (o:aH):Int:=if cJ o=true then mY s o.aT else s
theorem Wt:∀ (l:List aH) (s:Int),s<=l.foldl BZ s/\∀ o∈l,cJ o=true->o.aT.dg<=l.foldl BZ s
 |[],s=>⟨Int.le_refl _,λo ho=>(by cases ho)⟩
 |o::l,s=>by
  obtain ⟨a,b⟩:=Wt l (BZ s o);have h1:s<=BZ s o/\(cJ o=true->o.aT.dg<=BZ s o):=by
   unfold BZ;split
   ·rename_i hc;obtain ⟨q1,q2⟩:=VS s o.aT;grind [V0]
   simp_all
  grind
theorem ag2 {T:Nat} {m:bM} (h:ji T m) (l:List aH):ji T (Jz m l):=by
 obtain ⟨a,b,c⟩:=Ws l (m.aA,0) h.ja h.xg;obtain ⟨d,e⟩:=Wt l m.eC;refine ⟨a,b,λo ho=>?_,h.qM,h.yH,h.vC,h.yI,h.vD⟩;show o.aT.dg<=l.foldl BZ m.eC;rcases c o ho with q|⟨q,k⟩
 ·have:=h.Ef o q;omega
 ·exact e o q k
theorem eN.agV {T U:Nat} {x:aV} (h:eN T x) (k:T<=U):eN U x:=by
 obtain ⟨d,rfl⟩:=Nat.exists_eq_add_of_le k
 induction d with
 |zero=>exact h
 |succ d ih=>exact (ih om).rL
structure dZ (T:Nat) (d:dF):Prop where
 jU:eN T d.bL
 ux:lq d.kT
theorem dZ.nP {T U:Nat} {d:dF} (h:dZ T d) (k:T<=U):dZ U d:=⟨h.jU.agV k,h.ux⟩
theorem Wq:∀ (R:List (List UInt8)) {acc l:List aH},xh R acc=some l->(∀ o∈acc,cJ o=true)->(∀ o∈l,cJ o=true)/\l.length=acc.length+R.length
 |[],acc,l,h,ha=>by
  cases h;exact ⟨ha,rfl⟩
 |r::R,acc,l,h,ha=>by
  unfold xh at h;split at h
  ·rename_i o ht;obtain ⟨h1,h2⟩:=JT ht;obtain ⟨h3,h4⟩:=Wq R h λp hp=>by
    grind
   grind
  ·cases h
theorem Wp {b:List UInt8} {l:List aH} (h:pV b=some l):l.length<=b.length/\∀ o∈l,cJ o=true:=by
 obtain ⟨h1,h2⟩:=VC h;refine ⟨?_,List.all_eq_true.1 h1⟩;rw [h2];clear h h1 h2
 induction l with
 |nil=>exact Nat.le_refl _
 |cons o l ih=>
  grind [List.length_pos_iff,Vt]
theorem ag0 {c:aV} (h:eN 0 c) {ops:List aH} (hl:ops.length<=1300) (hc:∀ o∈ops,cJ o=true):eN 0 (Wd c ops):=
 ⟨ag2 h.jb ops,h.gC.yL rfl rfl,h.p8,h.p9,by show ops.length<=_+1300;omega,hc,λ_=>rfl⟩
theorem Wn {b:jL} (h:lq b) (picks:List UInt8) (he:(iX (jO b.cX.aW (ew picks))).x9=0):lq ⟨(iX (jO b.cX.aW (ew picks))).tJ,false,true⟩/\
  (iX (jO b.cX.aW (ew picks))).ya.length<=1008/\(iX (jO b.cX.aW (ew picks))).kJ.length<=255/\∀ p∈(iX (jO b.cX.aW (ew picks))).kJ,p.length<=40000:=by
 obtain ⟨a1,a2,a3⟩:=Sh h.yR.pO (ew picks);have hsz:=h.GQ;obtain ⟨b1,b2,b3,b4,b5,b6,b7⟩:=aa5 om a3 he;have e:fb (jO b.cX.aW (ew picks))<=63:=by unfold fb;omega
 exact ⟨⟨b1,b4,λe=>(by cases e),λ_=>b2,by show (iX _).tJ.aW.bE<=_;omega⟩,om,om,b7⟩
theorem Wo {b:jL} (h:lq b) (r:Int) (picks:List UInt8) (he:(yO r (jO b.cX.aW (ew picks))).2=0):dZ 0 (yO r (jO b.cX.aW (ew picks))).1:=by
 have hlg:=Wn h picks;have hn:= @Ow r;unfold yO at*;generalize iX (jO b.cX.aW (ew picks))=O at*;generalize oD r=y at*;obtain ⟨c,e⟩:=y;dsimp only at*
 by_cases hec:e=0
 ·subst hec
  by_cases h2:O.x9=0
  ·obtain ⟨h1,h3,h4,_⟩:=hlg h2;rw [if_neg dd,if_neg (by rw [h2];decide)] at he ⊢;cases hr:pV O.ya with
   |none=>simp_all
   |some l=>
    rw [hr] at he;obtain ⟨r1,r2⟩:=Wp hr;cases ht:xh O.kJ l with
    |none=>simp_all
    |some ops=>
     obtain ⟨t1,t2⟩:=Wq O.kJ ht r2;simp only [ht];exact ⟨ag0 (hn rfl) om t1,h1⟩
  ·simp_all
 simp_all
theorem Wm {T:Nat} {d:dF} (h:dZ T d) (picks:List UInt8):dZ T (yN d picks).1:=by
 have ho:=Wo h.ux d.bL.br.iH picks;unfold yN;generalize yO d.bL.br.iH (jO d.kT.cX.aW (ew picks))=y at*;obtain ⟨n,e⟩:=y;dsimp only at*;split
 ·exact h
 ·rename_i he;exact (ho (by simpa using he)).nP (Nat.zero_le _)
theorem agZ {T:Nat} {d:dF} (h:dZ T d):dZ T (Ae d).1:=by
 have ha:=We h.ux d.bL.bG.ab;unfold Ae;generalize sU d.kT d.bL.bG.ab=y at*;obtain ⟨b,e⟩:=y;dsimp only at*;split
 ·exact h
 ·exact ⟨h.jU,ha⟩
theorem J6 {T:Nat} {d:dF} (h:dZ T d) (c:bu) (h1:c.bY.length<=1000) (h2:c.fO.length<=1000) (h3:c.ia.length<=5000):dZ (T+1) (qd d c).1:=by
 have hs:=agK h.jU c h1 h2 h3;unfold qd;generalize qJ d.bL c=y at*;obtain ⟨x,n,e⟩:=y;dsimp only at*;split
 ·exact h.nP (Nat.le_succ _)
 ·exact ⟨hs,h.ux⟩
theorem OB {T:Nat} {d:dF} (h:dZ T d) (p:Int):dZ (T+2) (Ah d p):=by
 unfold Ah;split
 ·exact h.nP om
 ·have hk:=agQ h.ux d.bL.bG.ab;generalize Ad d.kT d.bL.bG.ab=y at*;obtain ⟨b,e⟩:=y;exact ⟨Ox h.jU p _,hk⟩
 ·exact ⟨Ox h.jU p false,Wf _ h.ux⟩
structure vI (o:jF):Prop where
 agX:o.kU.bY.length<=1000
 agY:o.kU.fO.length<=1000
 agW:o.kU.ia.length<=5000
 OA:o.BX.length<=1000
theorem GR {T:Nat} {d:dF} (h:dZ T d) {o:jF} (ho:vI o):dZ (T+2) (sV d o).1:=by
 unfold sV;split
 ·exact (J6 h o.kU ho.agX ho.agY ho.agW).nP om
 split
 ·exact OB h o.GP
 split
 ·exact (agZ h).nP om
 split
 ·exact (Wm h o.BX).nP om
 ·exact h.nP om
theorem Wk:∀ (l:List jF) {T:Nat} {d:dF},dZ T d->(∀ o∈l,vI o)->dZ (T+2*l.length) (Ac d l)
 |[],_,_,h,_=>h
 |o::l,T,d,h,ho=>by
  have:=Wk l (GR h (ho o List.mem_cons_self)) λp hp=>ho p (List.mem_cons_of_mem _ hp)
  exact this.nP (by grind)
theorem J5 {r size:Int} (hs:size<=255) (h:(qc r size).2=0):dZ 0 (qc r size).1:=by
 have hc:= @Ow r;have hw:(oY size).2=0->lq ⟨(oY size).1,true,true⟩:=λe=>by
  obtain ⟨i0,g5,g8,hl⟩:=aa3 (size:=size) om e;exact ⟨i0,by simp_all,λ_=>hl,λ_=>g5,by rw [g8];omega⟩
 unfold qc at*;generalize oD r=y at*;obtain ⟨c,e⟩:=y;generalize oY size=z at*;obtain ⟨w,e'⟩:=z;dsimp only at*
 by_cases h1:e=0
 ·subst h1;rw [if_neg dd] at h ⊢
  by_cases h2:e'=0
  ·subst h2;rw [if_neg dd];exact ⟨hc rfl,hw rfl⟩
  simp_all
 simp_all
theorem nE.Wy {l:List aI} {outs:List Int} {top:Int} {ids:List Int} {dir:Int} (h:nE l outs top ids dir):(ids=[]/\dir=top)\/∃ a,ids=a++[dir]:=by
 cases h with
 |rk=>simp_all
 |qA _ _ _ _=>simp_all
theorem nE.ag7 {l:List aI} (hc:fH l=true) {outs:List Int} {top:Int} (htop:iD l top=none) (hneg:top≠-1) {ids:List Int} {dir:Int} (h:nE l outs top ids dir):∀ f,ids.length<=f->∀ a,ids=a++[dir]->kq l f dir=a.reverse++[top]:=by
 induction h with
 |rk=>simp_all
 |qA h hn hp ho ih=>
  rename_i ids0 dir0 n;intro f hf a ha;rw [List.length_append,List.length_singleton] at hf;obtain ⟨f,rfl⟩:∃ g,f=g+1:=⟨f - 1,om⟩;obtain ⟨ha,_⟩:=List.append_inj' ha rfl;subst ha;have hpar:n.gh≠-1:=by
   rw [hp];cases h with
   |rk=>exact hneg
   |qA _ hn' _ _=>
    grind [Jw,jR]
  have e:kq l (f+1) n.bc=n.gh::kq l f n.gh:=by
   rw [kq,Bm hc hn];simp_all
  rw [e,hp];rcases h.Wy with ⟨h1,h2⟩|⟨b,h1⟩
  ·subst h1 h2;have:kq l f dir0=[]:=by
    cases f with
    |zero=>rfl
    |succ f=>rw [kq,htop]
   rw [this];rfl
  simp_all
structure Wv (l:List aI) (it:dH) (n:aI) (A:List Int):Prop where
 Wx:iD l it.eM=some n
 ag3:jS l it.eM=A++[0]
 ag6:(A++[0]).head? =some n.gh
 Ww:fk n.gh=true
 ag5:it.eM≠0
 ag4:∀ a∈A,a≠it.eM/\a≠0
theorem Wz {l:List aI} (hc:fH l=true) (hg:∀ n∈l,qE n) {i:Nat} (hi:i<(eL l 0).length):∃ n A,Wv l (eL l 0)[i] n A:=by
 have hids:∀ n∈l,128<=n.bc:=λn hn=>by
  grind [Jw,jR]
 have h0:iD l 0=none:=by
  grind [iD]
 have ha0:jS l 0=[]:=by
  unfold jS;rw [if_pos hc];cases l.length with
  |zero=>rfl
  |succ k=>rw [kq,h0]
 have hit:eL l 0=ku l [0] l.length 0 []:=by
  grind [eL,Br]
 have hmem:(eL l 0)[i]∈ku l [0] l.length 0 []:=by simp_all
 have hst:=UH l [0] l.length 0 [] [];rw [<-hit] at hst;obtain ⟨n,n1,n2,n3,_,_⟩:=UI _ _ hst i hi;obtain ⟨x,suf,hw,_⟩:=F4 l.length (.rk (l:=l) (outs:=[0]) (top:=0)) _ hmem;rw [List.nil_append] at hw;generalize (eL l 0)[i]=it at*;have hnd:=hw.SR hc List.mem_cons_self;have hln:=hw.Ja hc List.mem_cons_self;have hwm:=hw.SQ;rcases hw.Wy with ⟨e,_⟩|⟨a,e⟩
 ·cases e
 have hcl:=hw.ag7 hc h0 dd l.length hln a e;have hfd:iD l it.eM=some n:=by grind [Bm]
 obtain ⟨q1,q2,_⟩:=Ns n3;have hno0:it.eM≠0:=by simp_all
 refine ⟨n,a.reverse,hfd,by grind [jS],?_,((hg n n1).1 q2).1,hno0,λb hb=>?_⟩
 ·have hlen:l.length≠0:=by grind
  have hpar:n.gh≠-1:=by
   intro q;have:=((hg n n1).1 q2).1;rw [q] at this;trivial
  have:kq l l.length it.eM=n.gh::kq l (l.length - 1) n.gh:=by
   obtain ⟨k,hk⟩:∃ k,l.length=k+1:=⟨l.length - 1,om⟩;rw [hk,kq,hfd,Nat.add_sub_cancel];simp_all
  grind
 grind
theorem WA {l:List aI} (hc:fH l=true) (hg:∀ n∈l,qE n) {i k:Nat} (hi:i<(eL l 0).length) (hk:k<i):(eL l 0)[k].dx≠(eL l 0)[i].dx/\(eL l 0)[k].eM≠(eL l 0)[i].eM:=by
 have e:eL l 0=ku l (Br l 0) l.length 0 []:=by grind [eL]
 have h1:(eL l 0).Pairwise λa b=>a.dx≠b.dx:=by grind [UG]
 have h2:(eL l 0).Pairwise λa b=>a.eM≠b.eM:=by rw [e];exact Mz hc (by grind [Br]) _ .rk
 grind [List.pairwise_iff_getElem]
theorem ag8 {es:List iG} {l:List aI} (h:mE es l) (hm:∀ e∈es,cJ e.cF=true):∀ n∈l,qE n:=by
 induction h with
 |zS=>simp_all
 |zT h o ih=>exact aeq (ih λe he=>hm e (List.mem_append_left _ he)) o (Nat.le_trans (NV (hm ⟨o,_⟩ (List.mem_append_right _ (List.mem_singleton.2 rfl)))).1 dd)
theorem iy.Wu {g:eh} (h:iy g):∀ n∈g.aQ.ab,qE n:=ag8 h.xc h.xd
def ig (x:aV):List bu:=x.aq.ab.map (·.dN)
theorem ahi {f:cd->cd} (hf:∀ t,(f t).dN=t.dN) (l:List cd) (n:Nat):(l.modify n f).map (·.dN)=l.map (·.dN):=by
 induction l generalizing n with
 |nil=>simp_all
 |cons t l ih=>
  grind
theorem B0 (x:aV) (n:Int) (f:cd->cd) (hf:∀ t,(f t).dN=t.dN):ig (gy x n f)=ig x:=by
 show (gA x.aq.ab n f).map (·.dN)=_;unfold gA;split
 ·rfl
 ·exact ahi hf _ _
theorem WB (u:dt) (t:cd):(nJ t u).dN=t.dN:=by
 grind [nJ]
theorem GS (x:aV) (who:Int) (u:dt):ig (jT x who u)=ig x:=B0 x who _ λt=>WB u t
theorem WG (x:aV) (h:bX):ig (jE x h)=ig x:=B0 x _ _ λt=>WB _ t
theorem OD (x:aV) (n:Int):ig (kD x n)=ig x:=B0 x n _ λ_=>rfl
theorem J8 {α:Type} {f:aV->α->aV} (hf:∀ x a,ig (f x a)=ig x):∀ (l:List α) (x:aV),ig (l.foldl f x)=ig x
 |[],_=>rfl
 |a::l,x=>(J8 hf l (f x a)).trans (hf x a)
theorem WJ (x:aV) (who:Int) (u:dt):ig (yB x who u)=ig x:=by
 unfold yB;split;split
 ·exact GS _ who u
 ·rfl
theorem WE (x:aV) (who:Int) (u:dt):ig (yA x who u)=ig x:=by
 unfold yA;split
 ·exact GS _ who u
 ·exact (WG _ _).trans (GS _ who u)
theorem ahf (who:Int) (x:aV) (n:Nat):ig (ln who x n)=ig x:=by
 unfold ln;split
 ·rfl
 ·split
  ·split;rename_i tb p _;exact (J8 WG p.ab (gy {x with cM:=tb} n i6)).trans (B0 {x with cM:=tb} n i6 λ_=>rfl)
  ·rfl
theorem ahe (x:aV) (who:Int):ig (yz x who)=ig x:=J8 (ahf who) _ x
theorem WD (x:aV) (who:Int) (u:dt):ig (vr x who u)=ig x:=by
 unfold vr;split;rename_i m a ops _;have e:ig (jT (gy {x with br:=m,bG:=⟨(x.bG.eI ops.ab).dI,(x.bG.eI ops.ab).ab⟩} who λt=>{t with dT:=a,lh:=x.ca,ua:=(x.bG.eI ops.ab).ab.length}) who u)=ig x:=
  (GS _ who u).trans (B0 {x with br:=m,bG:=⟨(x.bG.eI ops.ab).dI,(x.bG.eI ops.ab).ab⟩} who _ λ_=>rfl)
 grind [ahe]
theorem WK (x:aV) (who:Int):ig (vu x who)=ig x:=by
 unfold vu;split;split
 ·exact OD _ who
 ·rfl
theorem WI (x:aV) (who:Int) (u:dt):ig (Gu x who u)=ig x:=(B0 (jT x who u) who (λt=>{t with pW:=x.ca}) λ_=>rfl).trans (GS x who u)
theorem WH (x:aV) (who:Int) (full:Bool):ig (qH x who full)=ig x:=by
 unfold qH;split
 ·exact (OD _ who).trans (B0 _ who _ λ_=>rfl)
 ·split;exact J8 OD _ _
theorem ahg (x:aV) (p:Int) (full:Bool):ig (pX x p full)=ig x:=by
 unfold pX;split
 ·rfl
 ·split
  ·exact WH _ _ _
  ·unfold BH;split
   ·exact WJ _ _ _
   split
   ·exact WE _ _ _
   split
   ·exact WD _ _ _
   split
   ·exact WK _ _
   split
   ·exact WI _ _ _
   ·rfl
end Gw
namespace Go.Proofs.YtffboamedcmpaaaGreatDoor
open Gw
open Go.Am
theorem GU {o:aH} (h:cJ o=true):lZ o:=by
 obtain ⟨h1,h2⟩:=NV h;obtain ⟨_,_,_,h4,h5⟩:=Di h;exact ⟨⟨om,om⟩,⟨om,om⟩,om,om⟩
theorem ahm {g:eh} (h:iy g):xb 100000 g.aQ.ab:=
 ⟨λn hn=>by have:=h.Vs n hn;exact ⟨om,om⟩,Nat.le_trans h.BP dd⟩
theorem OF {g:eh} (h:iy g) (o:aH) (hf:lZ o):aC Tryz.prog 215 [rG g,mV o] (.aw [rG (eF g o).1, .aa .i64 (eF g o).2]):=
 afD g o hf (λe he=>GU (h.xd e he)) (Nat.le_trans h.qL dd) (ahm h)
theorem ahn {g:eh} (h:iy g):aC Tryz.prog 225 [rG g] (rG g):=
 Vr g (Nat.le_trans h.qL dd) (Nat.le_trans h.BP dd)
theorem ahl {g:eh} (h:iy g) (nil:Bool) (l:List aH) (hf:∀ o∈l,lZ o) (hl:l.length<=100000):aC Tryz.prog 178 [rG g, .ag nil 7 (l.map cI) .av] (.aw [rG (DS g l).1, .aa .i64 (DS g l).2]):=by
 have hll:(l.map cI).length=l.length:=List.length_map _;have hsm:=ahn h;unfold DS;refine bK Tryz.func178 ?_;refine ak ?_;refine db.cK (X:=Nat×eh×Nat) (λx=>[(.aj 4, .ah (.ar 1 0)),(.af 1, .au 27 [.ag true 1 [] .bR, .ag true 1 [] .bR]),(.aj 6, .ah (.ar 4 0)),(.af 4, .au 27 (UX x.2.1)),(.aj 7, .ah (.aa .i64 x.2.2)),(.aj 13, .ah (.ag nil 7 (l.map cI) .av)),(.aj 14, .ah (.aa .i64 l.length)),(.aj 15, .ah (.aa .i64 x.1))]) 5
  (λx=>x.1<=l.length/\iy x.2.1/\x.2.2<=x.1/\(l.take x.1).foldl (λx o=>((eF x.1 o).1,if (eF x.1 o).2≠0 then x.2+1 else x.2)) (g,(0:Int))=(x.2.1,(x.2.2:Int))) (λx=>l.length - x.1) dd (0,g,0) ⟨Nat.zero_le _,h,Nat.le_refl _,rfl⟩ ⟨rfl,rfl,rfl,rfl,rfl,rfl,rfl,rfl,rfl,rfl,rfl,rfl,?_,rfl,rfl,rfl,trivial⟩ ?_
 ·show bs.ah (ae.aa .i64 ((l.map cI).length:Nat))=_;rw [hll]
 rintro ⟨k,x,c⟩ ⟨hk,hx,hc,hfold⟩;dsimp only at hk hx hc hfold ⊢;refine cn ?_;refine ⟨λh=>?_,λh=>?_⟩
 ·have h:=of_decide_eq_true h;have hlt:k<l.length:=om;have hg:=lN cI hlt;have hadd:=OF hx l[k] (hf _ (List.getElem_mem hlt));have hxa:=hx.Ea l[k];have htk:l.take (k+1)=l.take k++[l[k]]:=List.take_succ_eq_append_getElem hlt;have w0:IntKind.i64.wrap ((k:Int)+1)=((k+1:Nat):Int):=by grind [bj]
  have w1:IntKind.i64.wrap ((c:Int)+1)=((c+1:Nat):Int):=by grind [bj]
  generalize l[k]=o at*;refine ak ?_;have hstep:(l.take (k+1)).foldl (λx o=>((eF x.1 o).1,if (eF x.1 o).2≠0 then x.2+1 else x.2)) (g,(0:Int))=((eF x o).1,if (eF x o).2≠0 then (c:Int)+1 else c):=by simp_all
  generalize eF x o=r at*;obtain ⟨y,e⟩:=r;dsimp only at hstep hxa ⊢
  conv=>whnf
  refine ⟨λh=>?_,λh=>?_⟩
  ·have h:¬e=0:=by simpa using h
   rw [if_pos h] at hstep
   conv=>whnf
   refine ⟨(k+1,y,c+1),⟨om,hxa,by simp_all,hstep⟩,by grind,rfl,rfl,rfl,rfl,rfl,rfl,rfl,rfl,?_,rfl,rfl,rfl,rfl,rfl,?_,rfl,trivial⟩
   ·exact dh
   ·exact dh
  ·have h:e=0:=by simpa using h
   rw [if_neg (λq=>q h)] at hstep
   conv=>whnf
   refine ⟨(k+1,y,c),⟨om,hxa,by grind,hstep⟩,by grind,rfl,rfl,rfl,rfl,rfl,rfl,rfl,rfl,rfl,rfl,rfl,rfl,rfl,rfl,?_,rfl,trivial⟩;exact dh
 ·have h:=of_decide_eq_false h;obtain rfl:k=l.length:=om;rw [List.take_length] at hfold;rw [hfold];exact bm
end Go.Proofs.YtffboamedcmpaaaGreatDoor
