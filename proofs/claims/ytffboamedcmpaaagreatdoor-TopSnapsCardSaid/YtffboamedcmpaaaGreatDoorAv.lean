import Derived.Test.YtffboamedcmpaaaGreatDoorAu
set_option linter.all false
set_option maxHeartbeats 4000000
set_option maxRecDepth 100000
namespace Gw
open Go
def Fp:List (List UInt8)->List UInt8
 |[]=>[]
 |x::r=>x++(r.map λy=>47::y).flatten
theorem apg {x} (h:(47:UInt8)∉x) (r):mi (x++47::r)=x::mi r:=by
 induction x with
 |nil=>grind [mi]
 |cons b x i=>
  grind [mi]
theorem aph {x} (h:(47:UInt8)∉x):mi x=[x]:=by
 induction x with
 |nil=>rfl
 |cons b x i=>grind [mi]
theorem S5:∀ x l,(∀ t∈x::l,(47:UInt8)∉t)->mi (Fp (x::l))=x::l
 |x,[],h=>by grind [Fp,aph]
 |x,y::l,h=>by
  have e:Fp (x::y::l)=x++47::Fp (y::l):=by simp [Fp]
  rw [e,apg (h x (by simp)),S5 y l (λt a=>h t (by simp [a]))]
theorem ab3 (k e):∀ m:lY,jJ k (m++[e])=match jJ k m with|some n=>some n|none=>if e.2.1=k then some e.2.2 else none
 |[]=>rfl
 |x::m=>by
  rw [bP,jJ,jJ];split
  .rfl
  .exact ab3 k e m
theorem acb (x n k):jJ k (Ao x n).2=if k=n.iU then some n else jJ k x.2:=by
 unfold Ao;rcases Mu n.iU n x.2 with ⟨a,c⟩|⟨e,a,_,_,d,_⟩
 .rw [a];show jJ k (x.2++[(x.1,n.iU,n)])=_;rw [ab3];grind
 simp_all
def Ib (r:Option eF) (n:eF):Bool:=match r with
 |none=>true
 |some old=>!ke n.lA old.lA
def xp (dir:Int) (s:List UInt8) (r:Option eF) (n:eF):Option eF:=
 if (na n dir && (decide (n.iU=s) && Ib r n))=true then some n else r
def ab0 (l:List eF) (dir:Int) (s:List UInt8):Option eF:=l.foldl (xp dir s) none
theorem api (n m):GO n m=Ib (jJ n.iU m) n:=rfl
theorem apo (dir x n s):jJ s (Al dir x n).2=xp dir s (jJ s x.2) n:=by
 unfold Al xp;rw [api];cases na n dir with
 |false=>rfl
 |true=>
  rw [ak rfl,bo]
  by_cases a:n.iU=s
  .grind [acb]
  grind [acb]
theorem aca (l:List eF) (dir:Int) (s:List UInt8):jJ s (nb l dir).2=ab0 l dir s:=by
 unfold nb ab0;have k:∀ (l:List eF) (x:Nat×lY) (r:Option eF),jJ s x.2=r->jJ s (l.foldl (Al dir) x).2=l.foldl (xp dir s) r:=by
  intro l
  induction l with
  |nil=>simp_all
  |cons n l i=>
   grind [apo]
 exact k l (0,[]) none rfl
theorem ace {a b c} (h:ke a b=false) (k:ke b c=false):ke a c=false:=by
 grind [ke]
theorem acd (a):ke a a=false:=by
 unfold ke;simp
theorem ab1 (dir:Int) (s:List UInt8):∀ (l:List eF) (r:Option eF) (seen:List eF),
  (∀ n,r=some n->∀ m∈seen,na m dir=true->m.iU=s->ke n.lA m.lA=false)->(r=none->∀ m∈seen,na m dir=true->m.iU=s->False)->
  (∀ n,l.foldl (xp dir s) r=some n->∀ m∈seen++l,na m dir=true->m.iU=s->ke n.lA m.lA=false)/\(l.foldl (xp dir s) r=none->∀ m∈seen++l,na m dir=true->m.iU=s->False)
 |[],r,seen,d,e=>by
  simp_all
 |a::l,r,seen,d,e=>by
  have t:=ab1 dir s l (xp dir s r a) (seen++[a]) ?_ ?_
  .simp_all
  .intro n h m hm i b;unfold xp at h;split at h
   .rename_i c;cases h;simp only [az,aM] at c;rcases aF.1 hm with hm|hm
    .cases f:r with
     |none=>simp_all
     |some old=>
      grind [Ib,ace]
    grind [acd]
   .rename_i c;rcases aF.1 hm with hm|hm
    .simp_all
    .rw [aw] at hm;subst hm;rw [h,i,aO b,bo,bo] at c;simp only [Ib,bR,Bool.not_eq_false] at c;have:ke m.lA n.lA=true:=c;grind [ke]
  .intro h m hm i b;unfold xp at h;split at h
   .cases h
   .rename_i c;rcases aF.1 hm with hm|hm
    .exact e h m hm i b
    .rw [aw] at hm;subst hm;rw [h,i,aO b,bo,bo] at c;exact c rfl
theorem ab2 {l:List eF} (c:gU l=true) {dir:Int} {m:eF} (a:m∈l) (i:na m dir=true):∃ n,iB l dir m.iU=some n:=by
 cases h:iB l dir m.iU with
 |some n=>exact ⟨n,rfl⟩
 |none=>
  unfold iB at h;rw [ak c,aca] at h;exact ((ab1 dir m.iU l none [] (λn b=>by cases b) (λ_ m a=>by cases a)).2 h m (by simpa using a) i rfl).elim
theorem ab5 {l} (c:gU l=true) {dir s}:s∈um l dir↔∃ n,iB l dir s=some n:=by
 unfold um iB;rw [ak c,ak c];obtain ⟨a,g⟩:=An l dir;constructor
 .intro h;obtain ⟨e,f,rfl⟩:=aE.1 ((ui _).mem_iff.1 h);exact ⟨e.2.2,Ju a.u5 f⟩
 grind [EB,ui]
theorem apm (l dir):(um l dir).Nodup:=by
 unfold um;split
 .exact (ui _).nodup_iff.2 (An l dir).1.u5
 .exact cW
def wb (names:List (List UInt8)):List UInt8:=(names.map λs=>47::s).flatten
theorem ab8 (s:List UInt8) (r):wb (s::r)=47::Fp (s::r):=by
 unfold wb;simp [Fp]
def ab6:List UInt8->List (List UInt8)
 |[]=>[]
 |_::r=>mi r
theorem ab7 {names} (h:names≠[]) (n:∀ t∈names,(47:UInt8)∉t):ab6 (wb names)=names:=by
 cases names with
 |nil=>exact absurd rfl h
 |cons s r=>
  rw [ab8];exact S5 s r n
theorem apk {l outs dir s n} (h:jJ s (lJ l outs dir)=some n):jJ s (nb l dir).2=some n:=by
 obtain ⟨b,a⟩:=EB h;exact Ju (An l dir).1.u5 (bG.1 a).1
theorem apn {l outs dir s n} (h:jJ s (nb l dir).2=some n) (o:n.eM∉outs):jJ s (lJ l outs dir)=some n:=by
 obtain ⟨b,a⟩:=EB h;refine Ju (Mt l outs dir).u5 (bG.2 ⟨a,?_⟩);simpa using o
theorem ab9 (path s:List UInt8) (r):rG path s++wb r=path++wb (s::r):=by
 unfold rG wb;simp
theorem S6 {l} (g:gU l=true) (m:∀ n∈l,ni n) {outs}:∀ (f:Nat) {dir:Int} {path:List UInt8},iy dir=true->∀ b∈mL l outs f dir path,
  ∃ names,names≠[]/\(∀ t∈names,(47:UInt8)∉t)/\b.fM=path++wb names/\jz l dir names=(b.iM,0)
 |0,_,_,_,b,h=>by cases h
 |f+1,dir,path,j,b,h=>by
  rw [mL] at h;obtain ⟨s,n,_,k,i⟩:=Qn h;obtain ⟨o,p,q,y⟩:=x3 k;obtain ⟨_,x,_⟩:=BQ p;have a:=(Mn ((m n o).1 x).2).1;rw [q] at a;have c:iB l dir s=some n:=by grind [iB,apk]
  rcases aK.1 i with rfl|i
  .refine ⟨[s],by simp,by simpa using a,by show path++[47]++s=_;simp [wb],?_⟩;grind [jz]
  .split at i
   .rename_i d;obtain ⟨names,z,u,v,w⟩:=S6 g m f d b i;grind [ab9,jz]
   .cases i
theorem ab4 {l} (p:gU l=true) {outs} (o:∀ n∈l,n.eM∈outs->False) {top} (v:top∈outs):∀ (names:List (List UInt8)) (f:Nat) {ids:List Int} {dir id:Int} {path:List UInt8},names≠[]->ow l outs top ids dir->l.length<=ids.length+f->
  jz l dir names=(id,0)->∃ i∈mL l outs f dir path,i.fM=path++wb names/\i.iM=id
 |[],_,_,_,_,_,h,_,_,_=>absurd rfl h
 |s::r,f,ids,dir,id,path,_,A,H,d=>by
  rw [jz] at d
  by_cases u:iy dir=true
  .rw [ak u] at d;cases c:iB l dir s with
   |none=>simp_all
   |some n=>
    rw [c] at d;simp only at d;obtain ⟨k,w,F⟩:=wX c;have e:=ow.q9 A k (BQ w).1 (λh=>o n k h);have z:=e.GN p v;rw [au,cQ] at z;obtain ⟨f,rfl⟩:∃ g,f=g+1:=⟨f - 1,by omega⟩;have q:jJ s (nb l dir).2=some n:=by grind [iB]
    have j:=apn (outs:=outs) q (λh=>o n k h);have m:∀ i∈C2 (mL l outs f) path s n,i∈mL l outs (f+1) dir path:=λi y=>by
     rw [mL];unfold BI;refine List.mem_flatMap.2 ⟨s,(ui _).mem_iff.2 ?_,?_⟩
     .grind [EB]
     grind [tl]
    cases r with
    |nil=>
     rw [jz] at d;cases d;exact ⟨_,m _ aP,by show path++[47]++s=_;simp [wb],rfl⟩
    |cons t r=>
     have a:iy n.eM=true:=by
      rw [jz] at d;grind
     obtain ⟨i,B,D,E⟩:=ab4 p o v (t::r) f (path:=rG path s) (by simp) e (by rw [au,cQ];omega) d;refine ⟨i,m i (aQ _ (by rw [ak a];exact B)),by rw [D,ab9],E⟩
  simp_all
theorem apj {l} (c:gU l=true):jN l 0=none:=by
 grind [jN,EF,mK]
theorem apl {l} (h:gU l=true):jo l 0=mL l [0] l.length 0 []:=by
 have a:mT l 0=[]:=by
  unfold mT;rw [ak h];cases l with
  |nil=>rfl
  |cons n l=>rw [aL,iZ,apj h]
 grind [jo,C3]
theorem Cr {l} (c:gU l=true) {o} (m:lH l o=true) {n}:n∈iF l o↔(n∈l/\n.eM≠o.eO)\/n=mj ((jN l o.eO).getD (tj o.eO)) o:=by
 unfold iF;rw [ak m];constructor
 .intro h;rcases aF.1 h with h|h
  .rcases aF.1 h with h|h
   .have:=Qr n h;grind
   simp_all
  .have:=Qq c n h;grind
 .rintro (⟨h,e⟩|h)
  .have s:l=l.take (il l o.eO)++l.drop (il l o.eO):=(bJ _ _).symm;rw [s] at h;rcases aF.1 h with h|h
   .grind
   .refine aF.2 (.inr ?_);unfold lB;split
    .rename_i a;have p:il l o.eO<l.length:=by
      grind
     rw [aY p] at h;grind [o8]
    .exact h
  simp_all
def zH (l:List eF) (dir:Int) (s:List UInt8) (n:eF):Prop:=n∈l/\na n dir=true/\n.iU=s/\∀ m∈l,na m dir=true->m.iU=s->ke n.lA m.lA=false/\(ke m.lA n.lA=true\/m.eM<=n.eM)
theorem acf (dir s):∀ l r seen,(seen++l).Pairwise (λa b=>a.eM<b.eM)->
  (∀ n,r=some n->zH seen dir s n)->(r=none->∀ m∈seen,na m dir=true->m.iU=s->False)->∀ n,l.foldl (xp dir s) r=some n->zH (seen++l) dir s n
 |[],r,seen,_,f,_,n,h=>by
  simp_all
 |a::l,r,seen,hp,f,k,n,h=>by
  have t:=acf dir s l (xp dir s r a) (seen++[a]) (by rw [aA];exact hp) ?_ ?_ n h
  .simp_all
  .intro n d;have g:∀ m∈seen,m.eM<a.eM:=λm hm=>(cG.1 hp).2.2 m hm a aP
   unfold xp at d;split at d
   .rename_i c;cases d;simp only [az,aM] at c;refine ⟨aF.2 (.inr aP),c.1,c.2.1,λm hm i e=>?_⟩;rcases aF.1 hm with hm|hm
    .have:=g m hm;refine ⟨?_, .inr (by omega)⟩;cases j:r with
     |none=>simp_all
     |some old=>
      have o:=c.2.2;rw [j] at o;simp only [Ib,bR] at o;exact ace o ((f old j).2.2.2 m hm i e).1
    grind [acd]
   .rename_i c;obtain ⟨p,q,u,v⟩:=f n d;refine ⟨aF.2 (.inl p),q,u,λm hm i e=>?_⟩;grind [Ib,ke]
  .intro d m hm i e;unfold xp at d;split at d
   .cases d
   .rename_i c;rcases aF.1 hm with hm|hm
    .exact k d m hm i e
    .rw [aw] at hm;subst hm;rw [d,i,aO e,bo,bo] at c;exact c rfl
theorem DF {l:List eF} {dir:Int} {s:List UInt8} {n:eF} (h:iB l dir s=some n):zH l dir s n:=by
 unfold iB at h;split at h
 .rename_i hc;rw [aca] at h;have:=acf dir s l none [] (by grind [EF]) (λn hn=>by cases hn) (λ_ m hm=>by cases hm) n h
  rwa [bE] at this
 .cases h
theorem apr {l} (d:gU l=true) {dir s n m} (h:zH l dir s n) (k:zH l dir s m):n=m:=by
 have b:=h.2.2.2 m k.1 k.2.1 k.2.2.1;have c:=k.2.2.2 n h.1 h.2.1 h.2.2.1;have e:n.eM=m.eM:=by
  grind
 have a:=tf d h.1;have f:=tf d k.1;simp_all
theorem DE {l} (c:gU l=true) {dir s n} (h:zH l dir s n):iB l dir s=some n:=by
 obtain ⟨m,a⟩:=ab2 c h.1 h.2.1;rw [h.2.2.1] at a;rw [a,apr c h (DF a)]
def mE (l:List eF) (a b:Int):Prop:=∃ n,jN l a=some n/\n.jj=b/\b≠-1
inductive lc (l:List eF):Int->Int->Prop
 |uL {p a:Int} (h:mE l a p):lc l p a
 |tW {p q a:Int} (h:mE l a q) (k:lc l p q):lc l p a
theorem lc.acj {l a b c} (h:lc l a b) (k:lc l b c):lc l a c:=by
 induction k with
 |uL u=>exact .tW u h
 |tW u _ i=>exact .tW u i
def qm (l:List eF):Prop:=∀ a,¬lc l a a
theorem S8 {l}:∀ (f:Nat) {a z:Int},z∈iZ l f a->lc l z a
 |0,_,_,h=>by cases h
 |f+1,a,z,h=>by
  rw [iZ] at h;cases b:jN l a with
  |none=>simp_all
  |some n=>
   rw [b] at h;dsimp only at h
   by_cases p:n.jj=-1
   .simp_all
   .rw [ai p] at h;have u:mE l a n.jj:=⟨n,b,rfl,p⟩;rcases aK.1 h with rfl|h
    .exact .uL u
    .exact .tW u (S8 f h)
theorem AZ {l a b} (h:mE l a b) (f):iZ l (f+1) a=b::iZ l f b:=by
 obtain ⟨n,c,d,e⟩:=h;rw [iZ,c];simp_all
theorem apu {l a z} (h:lc l z a):∃ f,z∈iZ l f a:=by
 induction h with
 |uL u=>exact ⟨1,by rw [AZ u];exact aP⟩
 |tW u _ i=>
  obtain ⟨f,b⟩:=i;exact ⟨f+1,by grind [AZ]⟩
theorem acm {l} (h:qm l):∀ f a,(a::iZ l f a).Nodup/\∀ x∈(a::iZ l f a).dropLast,∃ n∈l,n.eM=x
 |0,a=>⟨by simp [iZ],λx c=>by simp [iZ] at c⟩
 |f+1,a=>by
  by_cases u:∃ b,mE l a b
  .obtain ⟨b,u⟩:=u;obtain ⟨d,e⟩:=acm h f b;rw [AZ u];refine ⟨b8.2 ⟨λq=>?_,d⟩,λx c=>?_⟩
   .have:a∈iZ l (f+1) a:=by grind [AZ]
    exact h a (S8 _ this)
   .rw [List.dropLast_cons_of_ne_nil (by simp)] at c;rcases aK.1 c with rfl|c
    .obtain ⟨n,i,_⟩:=u;obtain ⟨m,j,_⟩:=tg i;exact ⟨n,m,j⟩
    .exact e x c
  .have:iZ l (f+1) a=[]:=by
    rw [iZ];cases g:jN l a with
    |none=>rfl
    |some n=>
     by_cases p:n.jj=-1
     .simp_all
     .exact absurd ⟨n.jj,n,g,rfl,p⟩ u
   simp_all
theorem S9 {l} (h:qm l) (f a):(iZ l f a).length<=l.length:=by
 obtain ⟨b,c⟩:=acm h f a;have:=xX (l:=(a::iZ l f a).dropLast) (m:=l.map (·.eM)) (b.sublist (List.dropLast_sublist _)) λx g=>by
  simp_all
 simp_all
theorem N3 {l}:∀ f a,(iZ l f a).length<f->∀ k,iZ l (f+k) a=iZ l f a
 |0,_,h,_=>by simp at h
 |f+1,a,h,k=>by
  by_cases u:∃ b,mE l a b
  .obtain ⟨b,u⟩:=u;rw [AZ u] at h ⊢;rw [show f+1+k=f+k+1 by omega,AZ u,N3 f b (by simpa using h) k]
  .have z:∀ g,iZ l (g+1) a=[]:=λg=>by
    rw [iZ];cases c:jN l a with
    |none=>rfl
    |some n=>
     by_cases p:n.jj=-1
     .simp_all
     .exact absurd ⟨n.jj,n,c,rfl,p⟩ u
   grind
theorem ack {l}:∀ f a z,z∈iZ l f a->∀ k,z∈iZ l (f+k) a
 |0,_,_,h,_=>by cases h
 |f+1,a,z,h,k=>by
  by_cases u:∃ b,mE l a b
  .obtain ⟨b,u⟩:=u;rw [AZ u] at h;rw [show f+1+k=f+k+1 by omega,AZ u];rcases aK.1 h with rfl|h
   .exact aP
   .exact aQ _ (ack f b z h k)
  .have d:iZ l (f+1) a=[]:=by
    rw [iZ];cases c:jN l a with
    |none=>rfl
    |some n=>
     by_cases p:n.jj=-1
     .simp_all
     .exact absurd ⟨n.jj,n,c,rfl,p⟩ u
   simp_all
theorem aco {l} (s:gU l=true) (h:qm l) {z a}:z∈mT l a↔lc l z a:=by
 unfold mT;rw [ak s];refine ⟨λq=>S8 _ q,λq=>?_⟩;obtain ⟨f,e⟩:=apu q;have k:=ack f a z e (l.length+1);have m:=N3 (l:=l) (l.length+1) a (by have:=S9 h (l.length+1) a;omega) f;have c:z∈iZ l (l.length+1) a:=by grind
 by_cases t:(iZ l l.length a).length<l.length
 .rw [N3 l.length a t 1] at c;exact c
 .have w:=S9 h (l.length+1) a;have p:∀ f a,∃ r,iZ l (f+1) a=iZ l f a++r:=λf=>by
   induction f with
   |zero=>exact λa=>⟨iZ l 1 a,rfl⟩
   |succ f v=>
    intro a
    by_cases u:∃ b,mE l a b
    .obtain ⟨b,u⟩:=u;obtain ⟨r,d⟩:=v b;exact ⟨r,by grind [AZ]⟩
    .have j:∀ g,iZ l (g+1) a=[]:=λg=>by
      rw [iZ];cases e:jN l a with
      |none=>rfl
      |some n=>
       by_cases i:n.jj=-1
       .simp_all
       .exact absurd ⟨n.jj,n,e,rfl,i⟩ u
     simp_all
  obtain ⟨r,d⟩:=p l.length a;grind
theorem Ta {l} (c:gU l=true) {o} (m:lH l o=true) (a):jN (iF l o) a=if a=o.eO then some (mj ((jN l o.eO).getD (tj o.eO)) o) else jN l a:=by
 have d:=C7 c o
 by_cases b:a=o.eO
 .grind [tf,Cr,JB]
 grind [jN,tf,Cr,JB]
theorem N4 {l} (f:gU l=true) {o} (g:lH l o=true) (k:o.iT≠1) {a b}:mE (iF l o) a b↔mE l a b:=by
 unfold mE;rw [Ta f g]
 by_cases e:a=o.eO
 .rw [ak e];subst e;unfold mj;rw [ai k];cases i:jN l o.eO with
  |none=>
   refine ⟨λ⟨n,h,c,d⟩=>?_,λ⟨n,h,_⟩=>(by cases h)⟩;cases h;exact absurd c.symm d
  |some m=>
   simp_all
 .rw [ai e]
theorem acq {l} (f:gU l=true) {o} (m:lH l o=true) (k:o.iT=1) {a b} (h:mE (iF l o) a b):(a≠o.eO/\mE l a b)\/(a=o.eO/\b=o.iW):=by
 unfold mE at h;rw [Ta f m] at h
 by_cases c:a=o.eO
 .grind [mj]
 .rw [ai c] at h;exact .inl ⟨c,h⟩
theorem acp {l} (d:gU l=true) {o} (m:lH l o=true) (k:o.iT=1) {p a} (h:lc (iF l o) p a):lc l p a\/((a=o.eO\/lc l o.eO a)/\(p=o.iW\/lc l p o.iW)):=by
 induction h with
 |uL u=>
  rcases acq d m k u with ⟨_,u⟩|⟨e,b⟩
  .exact .inl (.uL u)
  omega
 |tW u _ i=>
  rcases acq d m k u with ⟨_,u⟩|⟨e,b⟩
  .rcases i with i|⟨i1,c⟩
   .exact .inl (.tW u i)
   .refine .inr ⟨.inr ?_,c⟩;rcases i1 with rfl|i1
    .exact .uL u
    .exact .tW u i1
  grind
theorem acn {l o} (m:lH l o=true) (k:o.iT=1):o.iW≠o.eO/\o.eO∉iZ l l.length o.iW:=by
 grind [lH,GK]
theorem aps {l} (d:gU l=true) (h:qm l) (o):qm (iF l o):=by
 by_cases m:lH l o=true
 .by_cases k:o.iT=1
  .intro a g;obtain ⟨i,j⟩:=acn m k;have f:¬lc l o.eO o.iW:=λq=>j (by
    have:=(aco d h).2 q;grind [mT])
   rcases acp d m k g with q|⟨e,c⟩
   .exact h a q
   .rcases e with rfl|e
    .simp_all
    .rcases c with rfl|c
     .exact f e
     .exact f (e.acj c)
  .intro a g;have:∀ {p b},lc (iF l o) p b->lc l p b:=fun {p b} q=>by
    induction q with
    |uL u=>exact .uL ((N4 d m k).1 u)
    |tW u _ n=>exact .tW ((N4 d m k).1 u) n
   exact h a (this g)
 grind [iF]
theorem apt:qm []:=λa h=>by
 cases h with
 |uL u=>obtain ⟨n,b,_⟩:=u;cases b
 |tW u _=>obtain ⟨n,b,_⟩:=u;cases b
theorem apv {es l} (h:pe es l):qm l:=by
 induction h with
 |AD=>exact apt
 |zd h o i=>exact aps h.zc i o
theorem l8.S7 {g} (h:l8 g):qm g.ec.al:=apv h.qK
theorem acy {n o} (h:o.iT≠1):(mj n o).jj=n.jj/\(mj n o).iU=n.iU/\(mj n o).lA=n.lA/\(mj n o).eM=n.eM:=by
 grind [mj]
def xr (o:e7) (n:eF):eF:=if n.eM=o.eO then mj n o else n
theorem KL {o} (h:o.iT≠1) (n):(xr o n).jj=n.jj/\(xr o n).iU=n.iU/\(xr o n).lA=n.lA/\(xr o n).eM=n.eM:=by
 grind [xr,acy]
theorem acx {l} (c:gU l=true) {o} (d:lH l o=true) (k:o.iT≠1) {n} (h:n∈iF l o) (i:m9 n.lA=true):∃ m∈l,n=xr o m:=by
 rcases (Cr c d).1 h with ⟨a,b⟩|a
 .grind [xr]
 .cases f:jN l o.eO with
  |none=>
   rw [f] at a;rw [a,(acy k).2.2.1] at i;exact absurd i (by show ¬m9 ⟨0,0⟩=true;decide)
  |some m=>
   obtain ⟨q,e,_⟩:=tg f;grind [xr]
theorem apA {l} (c:gU l=true) {o} (m:lH l o=true) {n} (h:n∈l):xr o n∈iF l o:=by
 grind [xr,Cr,tf]
theorem xq {n dir}:na n dir=true↔n.jj=dir/\m9 n.lA=true:=by
 grind [na]
theorem acs {l} (c:gU l=true) {o} (p:lH l o=true) (d:o.iT≠1) (dir s):iB (iF l o) dir s=(iB l dir s).map (xr o):=by
 have j:=C7 c o;have y:∀ n,zH l dir s n->zH (iF l o) dir s (xr o n):=λn h=>by
  obtain ⟨v,w,u,x⟩:=KL d n;obtain ⟨I,J⟩:=xq.1 h.2.1;refine ⟨apA c p h.1,xq.2 ⟨by rw [v];exact I,by rw [u];exact J⟩,by rw [w];exact h.2.2.1,λm r F H=>?_⟩;obtain ⟨t,q⟩:=xq.1 F;obtain ⟨k,a,rfl⟩:=acx c p d r q;obtain ⟨g,i,f,z⟩:=KL d k;rw [u,x,f,z];exact h.2.2.2 k a (xq.2 ⟨by rw [<-g];exact t,by rw [<-f];exact q⟩) (by rw [<-i];exact H)
 cases b:iB l dir s with
 |some n=>grind [DE,DF]
 |none=>
  cases E:iB (iF l o) dir s with
  |none=>rfl
  |some n=>
   exfalso;obtain ⟨A,B,D⟩:=wX E;obtain ⟨t,q⟩:=xq.1 B;obtain ⟨k,a,rfl⟩:=acx c p d A q;obtain ⟨g,i,f,_⟩:=KL d k;obtain ⟨m,e⟩:=ab2 c a (dir:=dir) (xq.2 ⟨by rw [<-g];exact t,by rw [<-f];exact q⟩);simp_all
theorem acw {l} (c:gU l=true) {o} (m:lH l o=true) (h:o.iT≠1):∀ names at_,jz (iF l o) at_ names=jz l at_ names
 |[],_=>rfl
 |s::r,at_=>by
  rw [jz,jz,acs c m h];split
  .cases iB l at_ s with
   |none=>rfl
   |some n=>
    show jz _ (xr o n).eM r=_;rw [(KL h n).2.2.2];exact acw c m h r n.eM
  .rfl
structure A0 (l:List eF) (o:e7):Prop where
 KJ:lH l o=true
 KI:o.iT=1
 N5:∀ n∈l,n.eM≠o.eO
 Tb:∀ n∈l,n.jj≠o.eO
 apw:iB l o.iW o.mI=none
theorem KK {l} (c:gU l=true) {o} (h:A0 l o) {n}:n∈iF l o↔n∈l\/n=mj (tj o.eO) o:=by
 have f:jN l o.eO= .none:=by
  cases f:jN l o.eO with
  |none=>rfl
  |some m=>
   obtain ⟨a,b,_⟩:=tg f;exact absurd b (h.N5 m a)
 rw [Cr c h.KJ,f];exact ⟨λq=>q.imp (λq=>q.1) id,λq=>q.imp (λq=>⟨q,h.N5 n q⟩) id⟩
theorem Tc {o} (h:o.iT=1):mj (tj o.eO) o=⟨o.eO,o.iW,o.mI,o.fa,[],⟨0,0⟩⟩:=by
 unfold mj;rw [ak h];rfl
theorem acr {l} (d:gU l=true) {o} (h:A0 l o) {dir s n} (c:iB l dir s=some n):iB (iF l o) dir s=some n:=by
 have t:=DF c;refine DE (C7 d o) ⟨(KK d h).2 (.inl t.1),t.2.1,t.2.2.1,λm e i a=>?_⟩;rcases (KK d h).1 e with q|q
 .exact t.2.2.2 m q i a
 .exfalso;rw [Tc h.KI] at q;subst q;have b:=(xq.1 i).1;grind [h.apw]
theorem apx {l} (c:gU l=true) {o} (h:A0 l o) {dir s n} (a:iB (iF l o) dir s=some n):iB l dir s=some n\/n.eM=o.eO:=by
 have t:=DF a;rcases (KK c h).1 t.1 with q|q
 .refine .inl (DE c ⟨q,t.2.1,t.2.2.1,λm b i d=>t.2.2.2 m ((KK c h).2 (.inl b)) i d⟩)
 grind [Tc,h.KI]
theorem acu {l} (a:gU l=true) {o} (h:A0 l o):∀ (names:List (List UInt8)) (at_:Int) {id:Int},jz l at_ names=(id,0)->jz (iF l o) at_ names=(id,0)
 |[],_,_,f=>f
 |s::r,at_,id,f=>by
  rw [jz] at f ⊢;split at f
  .rename_i d;rw [ak d];cases c:iB l at_ s with
   |none=>simp_all
   |some n=>
    rw [c] at f;rw [acr a h c];exact acu a h r n.eM f
  .cases f
theorem acv {l} (b:gU l=true) {o} (h:A0 l o):∀ (names:List (List UInt8)) (at_:Int) {id:Int},jz (iF l o) at_ names=(id,0)->jz l at_ names=(id,0)\/id=o.eO
 |[],_,_,f=> .inl f
 |s::r,at_,id,f=>by
  rw [jz] at f ⊢;split at f
  .rename_i i;rw [ak i];cases c:iB (iF l o) at_ s with
   |none=>simp_all
   |some n=>
    rw [c] at f;rcases apx b h c with q|q
    .rw [q];exact acv b h r n.eM f
    .cases r with
     |nil=>
      have f:(n.eM,(0:Int))=(id,0):=f;simp_all
     |cons d j=>
      exfalso;have f:jz (iF l o) n.eM (d::j)=(id,0):=f;rw [jz] at f;split at f
      .cases a:iB (iF l o) n.eM d with
       |none=>simp_all
       |some m=>
        obtain ⟨e,g,_⟩:=wX a;have p:=(xq.1 g).1;rw [q] at p;rcases (KK b h).1 e with k|k
        .exact h.Tb m k p
        .rw [k,Tc h.KI] at p;exact (acn h.KJ h.KI).1 p
      .cases f
  .cases f
theorem apy {l} (e:gU l=true) {o} (h:A0 l o) {p a} (v:lc (iF l o) p a):lc l p a\/a=o.eO:=by
 have f:∀ {b},¬lc l o.eO b:=fun {b} q=>by
  induction q with
  |uL u=>
   obtain ⟨n,c,d,_⟩:=u;exact h.Tb n (tg c).1 d
  |tW _ _ i=>exact i
 grind [acp,h.KJ,h.KI]
theorem apz {l} (c:gU l=true) {o} (m:lH l o=true) (k:o.iT≠1) {p a} (h:lc (iF l o) p a):lc l p a:=by
 induction h with
 |uL u=>exact .uL ((N4 c m k).1 u)
 |tW u _ i=>exact .tW ((N4 c m k).1 u) i
section
structure oC (t:kz) (has:Int->List Int):Prop where
 zI:∀ k n,(⟨k,n⟩:fK)∈t.iV.al↔k∈has n
 DG:(t.iV.al.map (·.gf)).Nodup
 we:∀ n,(has n).Nodup
 Fq:(t.fH.al.map (·.ig)).Nodup
 A1:∀ w∈t.fH.al,∃ m,m≠w.ig/\w.gf∈has m
def oD (has:Int->List Int) (n:Int) (l:List Int):Int->List Int:=λm=>if m=n then l else has m
theorem Ie (has n l):oD has n l n=l:=ak rfl
theorem KM (has) {n m} (l) (h:m≠n):oD has n l m=has m:=ai h
theorem Td {α m:Type} {f:α->m} {l:List α} (h:(l.map f).Nodup) {a b:α} (i:a∈l) (j:b∈l) (e:f a=f b):a=b:=by
 induction l with
 |nil=>cases i
 |cons c l k=>
  grind
theorem Ic {α:Type} (p):∀ l:List α,(mV p l).Sublist l
 |[]=> .slnil
 |a::l=>by
  unfold mV;split
  .simp_all
  .exact (Ic p l).cons_cons a
theorem apC {α:Type} {p:α->Bool} {l:List α} {b:α} (h:b∈l) (hp:p b=false):b∈mV p l:=by
 induction l with
 |nil=>cases h
 |cons a l i=>
  grind [mV]
theorem apD {α:Type} {p:α->Bool} {l:List α} {a b:α} (d:b∈l) (e:l.find? p=some a) (n:b≠a):b∈mV p l:=by
 induction l with
 |nil=>cases d
 |cons c l i=>
  grind [mV]
theorem acA {α e:Type} {f:α->e} {p:α->Bool} {l:List α} (h:(l.map f).Nodup) {a:α} (b:l.find? p=some a):a∉mV p l:=by
 induction l with
 |nil=>cases b
 |cons c l i=>
  grind [mV]
variable {t:kz} {has:Int->List Int}
theorem oC.Cs (h:oC t has) {k n m:Int} (a:k∈has n) (b:k∈has m):n=m:=by
 have:=Td h.DG ((h.zI k n).2 a) ((h.zI k m).2 b) rfl;simp_all
theorem apF {k m} (h:yW t k=some m):(⟨k,m⟩:fK)∈t.iV.al:=by
 unfold yW at h;obtain ⟨x,c,rfl⟩:=eB.1 h;have:=dL c;have d:=bY c;obtain ⟨a,b⟩:=x;simp_all
theorem apE {k} (h:yW t k=none) (m):(⟨k,m⟩:fK)∉t.iV.al:=λq=>by
 grind [yW,Option.map_eq_none_iff]
theorem oC.apB (h:oC t has) {n k:Int} (r:∀ w∈t.fH.al,w.ig≠n) (p:k∉has n):
  ((pc t n k).2=true/\oC (pc t n k).1 (oD has n (has n++[k]))/\(pc t n k).1.fH=t.fH)\/
  ((pc t n k).2=false/\oC (pc t n k).1 has/\(pc t n k).1.fH.al=t.fH.al++[⟨k,n⟩]/\(pc t n k).1.iV=t.iV):=by
 unfold pc;cases l:yW t k with
 |some m=>
  have q:=(h.zI k m).1 (apF l);have g:m≠n:=λe=>p (e▸q)
  simp only;rw [ai g,ai (by
   grind)]
  refine .inr ⟨rfl,⟨h.zI,h.DG,h.we,?_,?_⟩,rfl,rfl⟩
  .show ((t.fH.al++[_]).map _).Nodup;grind [h.Fq]
  .intro w c;rcases aF.1 c with c|c
   .exact h.A1 w c
   grind
 |none=>
  have o:=λm=>apE l m
  simp only;refine .inl ⟨trivial,⟨λj m=>?_,?_,λm=>?_,h.Fq,λw c=>?_⟩,ae⟩
  .show _∈t.iV.al++[_]↔_;grind [h.zI,oD]
  .show ((t.iV.al++[_]).map _).Nodup;rw [aU,db];refine ⟨h.DG,by simp,λa f b d=>?_⟩;obtain ⟨x,u,rfl⟩:=aE.1 f;rw [bp,cJ,aw] at d;subst d;intro e;obtain ⟨a,b⟩:=x;simp_all
  .unfold oD;split
   .rw [db];exact ⟨h.we n,by simp,λa f b d e=>p (by simp_all)⟩
   .exact h.we m
  .obtain ⟨m,s,i⟩:=h.A1 w c;refine ⟨m,s,?_⟩;grind [oD]
theorem oC.acz (h:oC t has) {n k:Int} (H:k∈has n):
  ((kl t n k).2=none/\oC (kl t n k).1 (oD has n ((has n).filter λj=>!decide (j=k)))/\(kl t n k).1.fH=t.fH)\/
  ∃ m,(kl t n k).2=some m/\m≠n/\(⟨k,m⟩:fK)∈t.fH.al/\k∉has m/\oC (kl t n k).1 (oD (oD has n ((has n).filter λj=>!decide (j=k))) m (has m++[k]))/\
   ∀ w,w∈(kl t n k).1.fH.al↔w∈t.fH.al/\w≠⟨k,m⟩:=by
 have i:=(h.zI k n).2 H;have g:∀ x,x∈mV (λx=>decide (x=(⟨k,n⟩:fK))) t.iV.al↔x∈t.iV.al/\x≠⟨k,n⟩:=λx=>by
  constructor
  .intro q;refine ⟨(Ic _ _).mem q,λe=>?_⟩;subst e;obtain ⟨a,B⟩:=bN.1 (dM.2 ⟨_,i,aO rfl⟩:(t.iV.al.find? λx=>decide (x=(⟨k,n⟩:fK))).isSome=true);grind [acA,h.DG]
  grind [apC]
 have o:∀ m,m≠n->k∉has m:=λm N q=>N (h.Cs q H)
 unfold kl;have y:(t.iV.al.any λx=>decide (x=(⟨k,n⟩:fK)))=true:=bD.2 ⟨_,i,aO rfl⟩;rw [y];simp only;cases p:t.fH.al.find? λw=>decide (w.gf=k) with
 |none=>
  simp only;have I:=dp.1 p;refine .inl ⟨trivial,⟨λj m=>?_,(h.DG.sublist ((Ic _ _).map _)),λm=>?_,h.Fq,λw D=>?_⟩,ae⟩
  .show _∈mV _ _↔_;grind [h.zI,oD]
  .unfold oD;split
   .exact (h.we n).filter _
   .exact h.we m
  .obtain ⟨m,E,A⟩:=h.A1 w D;refine ⟨m,E,?_⟩;have f:w.gf≠k:=by simpa using I w D
   grind [oD]
 |some w=>
  have f:w.gf=k:=by simpa using dL p
  have s:=bY p;obtain ⟨z,m⟩:=w;simp only at f;subst f;simp only;obtain ⟨K,E,A⟩:=h.A1 _ s;obtain rfl:n=K:=h.Cs H A;have d:m≠n:=λe=>E e.symm
  have r:∀ x,x∈mV (λw=>decide (w.gf=z)) t.fH.al↔x∈t.fH.al/\x≠⟨z,m⟩:=λx=>by
   grind [Ic,acA,h.Fq,apD]
  refine .inr ⟨m,rfl,d,s,o m d,⟨λj a=>?_,?_,λa=>?_,h.Fq.sublist ((Ic _ _).map _),λw D=>?_⟩,r⟩
  .show _∈mV _ _++[_]↔_;grind [h.zI,oD]
  .show ((mV _ _++[_]).map _).Nodup;grind [Ic,Td,h.DG]
  .unfold oD;split
   .rename_i e;subst e;rw [db];exact ⟨h.we a,by simp,λx J b l e=>o a d (by simp_all)⟩
   .split
    .exact (h.we n).filter _
    .exact h.we a
  .obtain ⟨O,P⟩:=(r w).1 D;obtain ⟨a,L,F⟩:=h.A1 w O
   by_cases e:w.gf=z
   .refine ⟨m,λq=>P ?_,?_⟩
    .obtain ⟨Q,K⟩:=w;simp_all
    grind [oD]
   .refine ⟨a,L,?_⟩;grind [oD]
end
def mA (l:List ft) (n:Int):List Int:=if n<0 then [] else ((l[n.toNat]?).map (·.fA.al)).getD []
theorem qo {l} {n:Nat} {t} (h:l[n]? =some t):mA l n=t.fA.al:=by
 grind [mA]
theorem apH {l} {n k:Int} (h:k∈mA l n):∃ (m:Nat) (t:ft),n=m/\l[m]? =some t/\k∈t.fA.al:=by
 unfold mA at h;grind
def xt (h:Int):Prop:=iy h=true/\h≠2
def vp (l:List eF) (c:fG) (d:Int):Prop:=d∈ng l c/\d≠1
structure uM (l:List eF) (t:ft) (k:Int):Prop where
 uN:t.g8=false
 zJ:jd t.fx≠ .pR
 Fu:∀ c,jd t.fx= .nf c->(t.fA.al=[]/\k=1)\/(1∈t.fA.al/\k∈ng l c/\∀ d,vp l c d->lc l d k->d∈t.fA.al)
 Fv:∀ ns,jd t.fx= .ml ns->(t.fA.al=[]/\k=0)\/∃ h n,t.fA.al=[h]/\0<=t.jA/\t.jA<ns.al.length/\iB l h (ns.al[t.jA.toNat]?.getD [])=some n/\n.eM=k/\xt k
def mO (t:ft):Bool:=match jd t.fx with
 | .nf _=>true
 |_=>false
def wh (t:ft):Int:=t.fA.al.getLast?.getD 0
def oS (l:List eF) (t:ft) (n:List (List UInt8)):Nat:=if t.fA.al=[]\/jR l (n.take t.jA.toNat)=(wh t,0) then 0 else 1
structure sT (D:Prop) (l:List eF) (t:ft):Prop where
 Ft:t.fA.al.length<=3
 Ig:t.g8=false->∀ ns,jd t.fx= .ml ns->oS l t ns.al=0\/D
 Fs:t.gS=true->t.g8=true/\t.fA.al=[]
 N6:t.g8=false->jd t.fx= .pR->t.fA.al=[]
 Ct:t.g8=false->∀ c,jd t.fx= .nf c->t.fA.al=[]\/(1∈t.fA.al/\∀ e∈t.fA.al,e≠1->vp l c e/\∀ d,vp l c d->lc l d e->d∈t.fA.al)
 A2:t.g8=false->∀ ns,jd t.fx= .ml ns->(t.fA.al=[]/\t.jA=0)\/(∃ h,t.fA.al=[h]/\0<=t.jA/\t.jA<=ns.al.length/\xt h)\/(∃ h c,t.fA.al=[h,c]/\0<=t.jA/\t.jA<=ns.al.length/\xt h/\xt c)
theorem sT.KN {D E:Prop} (k:D->E) {l t} (h:sT D l t):sT E l t:={h with Ig:=λq n r=>(h.Ig q n r).imp id k}
def tX (l:List ft):Prop:=∃ (m:Nat) (s:ft),l[m]? =some s/\mO s=true/\s.g8=true
structure j9 (x:fb):Prop where
 pY:oC x.fg (mA x.bf.al)
 wg:∀ w∈x.fg.fH.al,∃ (n:Nat) (t:ft),w.ig=n/\x.bf.al[n]? =some t/\uM x.ep.cy.ec.al t w.gf
 pn:∀ (n:Nat) t,x.bf.al[n]? =some t->sT (tX x.bf.al) x.ep.cy.ec.al t
 vo:∀ g∈x.fm.iI.al,∃ (n:Nat) (t:ft),g.js=n/\x.bf.al[n]? =some t/\t.g8=true/\t.gS=false/\t.fA.al=[]/\t.fx.gD=12/\g.pz<=x.eL.al.length
theorem acC {x}:∀ {l:List ft} {n:Nat},mq x n l=[]->∀ (k:Nat) t,l[k]? =some t->oe x (n+k) t=false
 |[],_,_,_,_,h=>by simp at h
 |a::l,n,h,k,t,hk=>by
  unfold mq at h;split at h
  .cases h
  .rename_i c;cases k with
   |zero=>
    simp_all
   |succ k=>
    have:=acC h k t (by simpa using hk);grind
theorem Tg {l:List eF} (b:qm l) (Q:Int->Prop) (s:∀ k,Q k->∃ a,mE l a k/\Q a):∀ (f:Nat) (k:Int),l.length - (iZ l (l.length+1) k).length<f->Q k->False
 |0,_,h,_=>by omega
 |f+1,k,h,d=>by
  obtain ⟨a,u,q⟩:=s k d;have i:=S9 b (l.length+1) a;have e:(iZ l (l.length+2) a).length=(iZ l (l.length+1) k).length+1:=by rw [AZ u,aL]
  have c:iZ l (l.length+2) a=iZ l (l.length+1) a:=N3 (l.length+1) a (by omega) 1;rw [c] at e;exact Tg b Q s f a (by omega) q
theorem Tf {l} (c:gU l=true) {h} (d:xt h) {s n} (e:iB l h s=some n):mE l n.eM h:=by
 obtain ⟨a,b,_⟩:=wX e;refine ⟨n,tf c a,(xq.1 b).1,?_⟩;intro q;subst q;exact absurd d.1 (by decide)
theorem j9.Te {x} (h:j9 x) (a:∀ (n:Nat) t,x.bf.al[n]? =some t->t.gS=true\/∃ w∈x.fg.fH.al,w.ig=n) {w} (l:w∈x.fg.fH.al):
  ∃ (m:Nat) (t:ft) (w':fK),x.bf.al[m]? =some t/\(m:Int)≠w.ig/\w.gf∈t.fA.al/\w'∈x.fg.fH.al/\w'.ig=m/\uM x.ep.cy.ec.al t w'.gf:=by
 obtain ⟨m,j,k⟩:=h.pY.A1 w l;obtain ⟨m,t,rfl,b,c⟩:=apH k;rcases a m t b with q|⟨w',d,f⟩
 .rw [((h.pn m t b).Fs q).2] at c;cases c
 .obtain ⟨n,o,g,e,i⟩:=h.wg w' d;grind
theorem j9.apG {x:fb} (h:j9 x) (hc:gU x.ep.cy.ec.al=true) (ha:qm x.ep.cy.ec.al) (l:∀ (n:Nat) t,x.bf.al[n]? =some t->t.gS=true\/∃ w∈x.fg.fH.al,w.ig=n):x.fg.fH.al=[]:=by
 by_cases W:∃ f∈x.fg.fH.al,∃ (L:Nat) (U:ft) (Z:fG),f.ig=L/\x.bf.al[L]? =some U/\jd U.fx= .nf Z/\1∈U.fA.al
 .exfalso;obtain ⟨f,A,L,U,Z,e0,Q,y0,Y⟩:=W;obtain ⟨n0',t0',d,N,q3⟩:=h.wg f A;obtain rfl:L=n0':=by omega
  rw [Q] at N;cases N;obtain ⟨p1,p2,p3⟩:=(q3.Fu Z y0).resolve_left λq=>by simp_all
  have R:f.gf≠1:=λe=>by
   obtain ⟨m,g,J⟩:=h.pY.A1 f A;rw [e] at J;exact g (by rw [e0];exact (h.pY.Cs J (by grind [qo])))
  have S:f.gf∉U.fA.al:=λq=>by
   obtain ⟨m,g,J⟩:=h.pY.A1 f A;exact g (by rw [e0];exact h.pY.Cs J (by grind [qo]))
  have s:∀ k,(k=f.gf\/lc x.ep.cy.ec.al f.gf k)/\(∃ w∈x.fg.fH.al,w.gf=k)->∃ E,mE x.ep.cy.ec.al E k/\(E=f.gf\/lc x.ep.cy.ec.al f.gf E)/\∃ w∈x.fg.fH.al,w.gf=E:=by
   rintro k ⟨hk,w,D,rfl⟩;obtain ⟨m,t,F,g,J,a,O,X,j⟩:=h.Te l D;have o:=h.pn m t g;cases y:jd t.fx with
   |pR=>exact absurd y j.zJ
   |nf c=>
    exfalso;rcases o.Ct j.uN c y with q|⟨q,q'⟩
    .simp_all
    .have hm:m=L:=by
      have:=h.pY.Cs (k:=1) (n:=m) (m:=L) (by grind [qo]) (by grind [qo]);omega
     subst hm;rw [Q] at g;cases g;rw [y0] at y;cases y
     by_cases P:w.gf=1
     .rcases hk with hk|hk
      .exact R (hk▸P)
      .rw [P] at hk;have:∀ b,¬lc x.ep.cy.ec.al b 1:=λb q=>by
        have v:∃ b',mE x.ep.cy.ec.al 1 b':=by cases q with|uL u=>exact ⟨_,u⟩|tW u _=>exact ⟨_,u⟩
        obtain ⟨b',n,f1,_⟩:=v;obtain ⟨f2,f3,_⟩:=tg f1;obtain ⟨i,hi,rfl⟩:=List.mem_iff_getElem.1 f2;have:=Qh hc hi;rw [f3] at this;exact absurd this (by decide)
       exact this _ hk
     .obtain ⟨_,T⟩:=q' _ a P;rcases hk with hk|hk
      .exact S (hk▸a)
      .exact S (T f.gf ⟨p2,R⟩ hk)
   |ml B=>
    rcases j.Fv B y with ⟨q,_⟩|⟨k0,n,d,N,q3,T,q5,q6⟩
    .simp_all
    .rw [d,aw] at a;rcases o.A2 j.uN B y with ⟨z,_⟩|⟨z,p,_,_,K⟩|⟨z,z',p,_⟩
     .simp_all
     .rw [p] at d;cases d;have v:=Tf hc K T;rw [q5,<-a] at v;refine ⟨F.gf,v, .inr ?_,F,O,rfl⟩;rcases hk with hk|hk
      .rw [<-hk];exact .uL v
      .exact .tW v hk
     simp_all
  exact Tg ha (λk=>(k=f.gf\/lc x.ep.cy.ec.al f.gf k)/\∃ w∈x.fg.fH.al,w.gf=k) (λk hk=>s k hk) _ f.gf (dI _) ⟨.inl rfl,f,A,rfl⟩
 ·
  have s:∀ k,(∃ w∈x.fg.fH.al,w.gf=k/\xt k)->∃ E,mE x.ep.cy.ec.al E k/\∃ w∈x.fg.fH.al,w.gf=E/\xt E:=by
   rintro k ⟨w,D,rfl,hk⟩;obtain ⟨m,t,F,g,J,a,O,X,j⟩:=h.Te l D;have o:=h.pn m t g;cases y:jd t.fx with
   |pR=>exact absurd y j.zJ
   |nf c=>
    exfalso;rcases o.Ct j.uN c y with q|⟨q,_⟩
    .simp_all
    grind
   |ml B=>
    rcases j.Fv B y with ⟨q,_⟩|⟨k0,n,d,N,q3,T,q5,q6⟩
    .simp_all
    .rw [d,aw] at a;rcases o.A2 j.uN B y with ⟨z,_⟩|⟨z,p,_,_,K⟩|⟨z,z',p,_⟩
     .simp_all
     .rw [p] at d;cases d;have v:=Tf hc K T;grind
     simp_all
  cases hwl:x.fg.fH.al with
  |nil=>rfl
  |cons w r=>
   exfalso;have D:w∈x.fg.fH.al:=by rw [hwl];exact aP
   obtain ⟨n,t,P,e2,e3⟩:=h.wg w D;have hk:xt w.gf:=by
    cases y:jd t.fx with
    |pR=>exact absurd y e3.zJ
    |nf c=>
     exfalso;rcases e3.Fu c y with ⟨d,N⟩|⟨d,_⟩
     .obtain ⟨m,t',F,g,J,a,O,X,j⟩:=h.Te l D;rw [N] at a;cases H:jd t'.fx with
      |pR=>exact absurd H j.zJ
      |nf c'=>grind
      |ml B=>
       have I:¬xt 1:=λq=>absurd q.1 (by decide)
       rcases (h.pn m t' g).A2 j.uN B H with ⟨z,_⟩|⟨z,p,_,_,K⟩|⟨z,z',p,_,_,K,z3⟩
       .simp_all
       .simp_all
       grind
     grind
    |ml B=>
     rcases e3.Fv B y with ⟨_,q⟩|⟨_,_,_,_,_,_,_,q⟩
     .rw [q];exact ⟨by decide,by decide⟩
     .exact q
   exact Tg ha (λk=>∃ w∈x.fg.fH.al,w.gf=k/\xt k) (λk hk=>s k hk) _ w.gf (dI _) ⟨w,D,rfl,hk⟩
theorem j9.acB {x:fb} (h:j9 x) (hc:gU x.ep.cy.ec.al=true) (ha:qm x.ep.cy.ec.al) (hd:vL x=false):yY x≠[]:=λhab=>by
 have hno:∀ (n:Nat) t,x.bf.al[n]? =some t->oe x n t=false:=λn t e=>by
  have:=acC hab n t e
  rwa [bZ] at this
 have hg:x.fm.iI.al=[]:=by
  cases hgw:x.fm.iI.al with
  |nil=>rfl
  |cons g r=>
   exfalso;obtain ⟨n,t,e1,e2,e3,e4,_⟩:=h.vo g (by rw [hgw];exact aP);have hno:=hno n t e2;have g1:¬(yX x.fg n).isSome=true:=λq=>by
    unfold yX at q;rw [eA,dM] at q;obtain ⟨w,hw,q⟩:=q;obtain ⟨n',t',f1,f2,f3⟩:=h.wg w hw;grind [f3.uN]
   have g2:mo x.fm n=true:=by
    grind [mo]
   grind [oe,ED]
 have hall:∀ (n:Nat) t,x.bf.al[n]? =some t->t.gS=true\/∃ w∈x.fg.fH.al,w.ig=n:=λn t e=>by
  have:=hno n t e;unfold oe at this
  by_cases he:t.gS=true
  .exact .inl he
  .rw [ai he] at this;right
   by_cases hw:(yX x.fg n).isSome=true
   .grind [yX]
   grind [mo]
 have hs:=h.apG hc ha hall;grind [vL,List.mem_iff_getElem?]
section
def mb (l:List ft):Nat:=l.countP λt=>mO t && !t.g8
def r7 (t:ft) (L:Nat):Nat:=if t.fA.al.length=0 then 2*L+2 else if t.fA.al.length=1 then 2*(L - t.jA.toNat)+1 else 2*(L - t.jA.toNat)+2
def nB (l:List eF) (K:Nat) (wait r:Bool) (t:ft):Nat:=
 if t.gS=true then 0
 else if t.g8=true then t.fA.al.length+(if r=true then 1 else 2)
 else match jd t.fx with
  | .pR=>3
  | .nf _=>12 - 2*t.fA.al.length - (if wait=true then 1 else 0)
  | .ml n=>r7 t n.al.length - (if wait=true then 1 else 0)+3+(2*n.al.length+4)*(K+oS l t n.al)
def m6 (t:kz) (n:Nat):Bool:=t.fH.al.any λw=>decide (w.ig=n)
def mF (x:fb) (n:Nat):Nat:=match x.bf.al[n]? with
 |some t=>nB x.ep.cy.ec.al (mb x.bf.al) (m6 x.fg n) (mo x.fm n) t
 |none=>0
def nC (x:fb):Nat:=((List.range x.bf.al.length).map (mF x)).sum
theorem acG {f g:Nat->Nat}:∀ {l:List Nat},(∀ i∈l,f i<=g i)->(l.map f).sum<=(l.map g).sum
 |[],_=>aq _
 |a::l,h=>by
  have c:=acG (f:=f) (g:=g) (l:=l) λi b=>h i (aQ _ b)
  grind
theorem acH {f g:Nat->Nat}:∀ {l:List Nat},(∀ i∈l,f i<=g i)->(∃ i∈l,f i<g i)->(l.map f).sum<(l.map g).sum
 |[],_,h=>by simp_all
 |a::l,h,k=>by
  have d:=h a aP;obtain ⟨i,b,k⟩:=k;simp only [bp,List.sum_cons];rcases aK.1 b with rfl|b
  .have c:=acG (f:=f) (g:=g) (l:=l) λi b=>h i (aQ _ b)
   omega
  .have c:=acH (f:=f) (g:=g) (l:=l) (λi b=>h i (aQ _ b)) ⟨i,b,k⟩;omega
theorem zK {x y:fb} (e:y.bf.al.length=x.bf.al.length) (h:∀ n,n<x.bf.al.length->mF y n<=mF x n) (k:∃ n,n<x.bf.al.length/\mF y n<mF x n):nC y<nC x:=by
 unfold nC;rw [e];obtain ⟨n,b,c⟩:=k;exact acH (λi a=>h i (dS.1 a)) ⟨n,dS.2 b,c⟩
theorem DH {l} {n:Nat} {t} (h:l[n]? =some t) (f):mA (l.modify n f)=oD (mA l) n (f t).fA.al:=by
 grind [mA,oD]
theorem zL (l) (n:Nat) (f):jh l n f=l.modify n f:=by
 grind [jh]
theorem Fw {l f} (h:∀ t,mO (f t)=mO t/\(f t).g8=t.g8):∀ n,mb (l.modify n f)=mb l:=by
 unfold mb
 induction l with
 |nil=>intro n;simp
 |cons a l i=>
  grind
theorem Th {l h s n} (d:iy h=true) (b:iB l h s=some n):∀ xs r,jz l r xs=(h,0)->jz l r (xs++[s])=(n.eM,0)
 |[],r,e=>by
  grind [jz]
 |a::xs,r,e=>by
  rw [bP];rw [jz] at e ⊢;split at e
  .rename_i f;rw [ak f];cases c:iB l r a with
   |none=>simp_all
   |some m=>
    rw [c] at e;exact Th d b xs m.eM e
  .cases e
variable {D:Prop} {l:List eF} {t:ft} {K:Nat} {w g:Bool}
theorem acE (e:t.gS=false) (h:t.g8=false) (y:jd t.fx= .pR):nB l K w g t=3:=by simp [nB,e,h,y]
theorem N8 {c} (e:t.gS=false) (h:t.g8=false) (y:jd t.fx= .nf c):nB l K w g t=12 - 2*t.fA.al.length - (if w=true then 1 else 0):=by simp [nB,e,h,y]
theorem yu {n} (e:t.gS=false) (h:t.g8=false) (y:jd t.fx= .ml n):nB l K w g t=r7 t n.al.length - (if w=true then 1 else 0)+3+(2*n.al.length+4)*(K+oS l t n.al):=by simp [nB,e,h,y]
theorem yt (e:t.gS=false) (h:t.g8=true):nB l K w g t=t.fA.al.length+(if g=true then 1 else 2):=by simp [nB,e,h]
theorem Ih (h:t.gS=true):nB l K w g t=0:=by simp [nB,h]
theorem Ti (n):oS l t n<=1:=by grind [oS]
theorem N9 {n} (h:t.fA.al=[]):oS l t n=0:=by grind [oS]
theorem acF {n} (h:jR l (n.take t.jA.toNat)=(wh t,0)):oS l t n=0:=by grind [oS]
theorem N7 (h:sT D l t) (d:t.g8=false):t.gS=false:=by
 cases q:t.gS with
 |false=>rfl
 |true=>rw [(h.Fs q).1] at d;cases d
theorem acD {k:Int} (h:sT D l t) (w:uM l t k) (hf:t.fA.al.length+1<=3) (K:Nat) (g:Bool):sT D l (gl t ⟨1,k⟩)/\nB l K false g (gl t ⟨1,k⟩)<=nB l K true g t:=by
 have hd:=w.uN;have he:=N7 h hd;obtain ⟨f1,f2,f3,f4,f5⟩:(gl t ⟨1,k⟩).gS=false/\(gl t ⟨1,k⟩).g8=false/\(gl t ⟨1,k⟩).fx=t.fx/\(gl t ⟨1,k⟩).fA.al=t.fA.al++[k]/\(gl t ⟨1,k⟩).jA=if t.fA.al.length=1/\rH t.fx=true then t.jA+1 else t.jA:=by
  unfold gl;rw [ak rfl];exact ⟨he,hd,rfl,rfl,rfl⟩
 generalize gl t ⟨1,k⟩=T at*;have no:T.gS=true->T.g8=true/\T.fA.al=[]:=λq=>by simp_all
 have few:T.fA.al.length<=3:=by simp_all
 cases hy:jd t.fx with
 |pR=>grind [w.zJ]
 |nf c=>
  have y:jd T.fx= .nf c:=by rw [f3];exact hy
  refine ⟨⟨few,λ_ s q=>(by simp_all),no,λ_ q=>(by simp_all),λ_ u q=> .inr ?_,λ_ s q=>(by simp_all)⟩,?_⟩
  .rw [y] at q;cases q;rw [f4];rcases w.Fu c hy with ⟨q1,q2⟩|⟨q1,q2,v⟩
   .simp_all
   .refine ⟨bO _ q1,λe a hne=>?_⟩;rcases aF.1 a with a|a
    .rcases h.Ct hd c hy with z|⟨_,z⟩
     .simp_all
     grind
    .rw [aw] at a;subst a;exact ⟨⟨q2,hne⟩,λd p o=>bO _ (v d p o)⟩
  grind [N8]
 |ml s=>
  have y:jd T.fx= .ml s:=by rw [f3];exact hy
  have hw:rH t.fx=true:=by grind [rH]
  rw [yu f1 f2 y,yu he hd hy];refine (show _/\_ from ?_);rcases w.Fv s hy with ⟨q1,q2⟩|⟨z,n,q1,q2,v,A,B,E⟩
  .have ha:t.jA=0:=by
    rcases h.A2 hd s hy with ⟨_,q⟩|⟨z,q,_⟩|⟨z,x,q,_⟩
    .exact q
    .simp_all
    simp_all
   subst q2;rw [q1] at f4 f5;rw [ai (by simp),ha] at f5;have s1:oS l T s.al=0:=acF (by
    rw [f5];unfold wh;rw [f4];rfl)
   refine ⟨⟨few,λ_ b q=> .inl (by simp_all),no,λ_ q=>(by simp_all),λ_ u q=>(by simp_all),λ_ b q=> .inr (.inl ⟨0,f4,by omega,by omega,by decide,by decide⟩)⟩,?_⟩;grind [r7]
  .have hlen:t.fA.al.length=1:=by rw [q1];rfl
   rw [ak ⟨hlen,hw⟩] at f5;rw [q1] at f4;have f:xt z:=by
    rcases h.A2 hd s hy with ⟨q,_⟩|⟨x,q,_,_,r⟩|⟨x,F,q,_⟩
    .simp_all
    .simp_all
    simp_all
   have m:oS l T s.al<=oS l t s.al:=by
    by_cases hz:jR l (s.al.take t.jA.toNat)=(wh t,0)
    .rw [acF (t:=T)]
     .exact ar _
     .have j:wh t=z:=by grind [wh]
      have i:wh T=k:=by grind [wh]
      rw [i,f5];have hlt:t.jA.toNat<s.al.length:=by omega
      have ht:s.al.take (t.jA+1).toNat=s.al.take t.jA.toNat++[s.al[t.jA.toNat]?.getD []]:=by
       rw [show (t.jA+1).toNat=t.jA.toNat+1 by omega,aD hlt,aj hlt];rfl
      rw [ht,<-B];rw [j] at hz;exact Th f.1 A _ _ hz
    .have:oS l t s.al=1:=by
      grind [oS]
     grind [Ti]
   refine ⟨⟨few,λ_ b q=>?_,no,λ_ q=>(by simp_all),λ_ u q=>(by simp_all),λ_ b q=> .inr (.inr ⟨z,k,f4,by omega,?_,f,E⟩)⟩,?_⟩
   .rw [y] at q;cases q;rcases h.Ig hd s hy with z|z
    .omega
    .exact .inr z
   .grind
   .have hb:r7 T s.al.length+1<=r7 t s.al.length:=by
     grind [r7]
    have hm:=cz (2*s.al.length+4) (Nat.add_le_add_left m K);grind
end
structure Fx (x y:fb):Prop where
 acI:y.ep=x.ep
 apJ:y.eL=x.eL
 apI:y.fm=x.fm
 Ii:y.bf.al.length=x.bf.al.length
theorem Cu (t) {u} (h:u.kX=1\/u.kX=2):mO (gl t u)=mO t/\(gl t u).g8=t.g8:=by
 grind [gl,mO]
theorem Ij {T n} (h:m6 T n=false):∀ w∈T.fH.al,w.ig≠n:=λw a e=>by
 have:=dN.1 h w a;simp [e] at this
theorem KO {g} {n:Nat} (h:mo g n=false):∀ w∈g.iI.al,w.js≠n:=λw a e=>by
 have:=dN.1 h w a;simp [e] at this
theorem Tm {α:Type}:∀ {a b:List α},a.Nodup->(∀ x∈a,x∈b)->a.length<=b.length
 |[],_,_,_=>ar _
 |x::a,b,h,k=>by
  obtain ⟨d,e,rfl⟩:=List.append_of_mem (k x aP);rw [b8] at h;have:=Tm (a:=a) (b:=d++e) h.2 λy c=>by
   grind
  grind
theorem Tl (l d):(x7 l d).length=d.length/\∀ k,k∈x7 l d↔k∈d:=by
 unfold x7;grind
theorem Tj (l d p):(oN l d p).length<=d.length+1:=by
 grind [oN]
theorem Tk (l c):(ng l c).length<=3:=by
 unfold ng;rw [aL,(Tl l _).1];unfold pS;split
 .have h:=Tj l [] c.fR;have a:=Tj l (oN l [] c.fR) c.kE;grind
 .split
  .have h:=Tj l [] c.fR;grind
  .simp
theorem acJ {D:Prop} {l t} (h:sT D l t) (f:t.g8=false) {c} (y:jd t.fx= .nf c) (n:t.fA.al.Nodup):t.fA.al.length<=3:=by
 refine av (Tm n (b:=ng l c) λe a=>?_) (Tk l c);rcases h.Ct f c y with q|⟨_,q⟩
 .simp_all
 .by_cases d:e=1
  .subst d;exact aP
  .exact (q e a d).1.1
theorem acK {D:Prop} {l t k} (h:sT D l t) (w:uM l t k) (g:k∉t.fA.al) (i:t.fA.al.Nodup):t.fA.al.length+1<=3:=by
 have f:=w.uN;cases y:jd t.fx with
 |pR=>exact absurd y w.zJ
 |nf c=>
  rcases w.Fu c y with ⟨q,_⟩|⟨m,j,_⟩
  .rw [q];decide
  .refine av (Tm (a:=k::t.fA.al) (b:=ng l c) (b8.2 ⟨g,i⟩) λe he=>?_) (Tk l c);rcases aK.1 he with rfl|he
   .exact j
   .rcases h.Ct f c y with q|⟨_,q⟩
    .simp_all
    .by_cases d:e=1
     .subst d;exact aP
     .exact (q e he d).1.1
 |ml s=>
  rcases w.Fv s y with ⟨q,_⟩|⟨z,n,q,_⟩
  .rw [q];decide
  .rw [q];simp
theorem Oc {l f} (d:∀ t,mO (f t)=mO t/\(f t).g8=t.g8) (n) (h:tX l):tX (l.modify n f):=by
 obtain ⟨m,s,a,b,c⟩:=h
 by_cases q:n=m
 .subst q;refine ⟨n,f s,?_,(d s).1.trans b,(d s).2.trans c⟩;rw [cH,a];simp
 .refine ⟨m,s,?_,b,c⟩;simp_all
theorem j9.Oa {x y} (h:j9 x) (w:Fx x y) (d:tX x.bf.al->tX y.bf.al) (l:oC y.fg (mA y.bf.al))
  (th:∀ (n:Nat) a,y.bf.al[n]? =some a->x.bf.al[n]? =some a\/(sT (tX x.bf.al) x.ep.cy.ec.al a/\mo x.fm n=false))
  (k:∀ v∈y.fg.fH.al,∃ (n:Nat) (t:ft),v.ig=n/\y.bf.al[n]? =some t/\uM x.ep.cy.ec.al t v.gf):j9 y:=by
 refine ⟨l,by rw [w.acI];exact k,λn a e=>?_,λg b=>?_⟩
 .rw [w.acI];rcases th n a e with q|q
  .exact (h.pn n a q).KN d
  .exact q.1.KN d
 .rw [w.apI] at b;obtain ⟨n,t,c,f,r⟩:=h.vo g b;have j:n<y.bf.al.length:=by
   grind [w.Ii]
  grind [w.apJ,KO]
theorem apL {l:List ft} {n m:Nat} (h:n≠m) (f:ft->ft):(l.modify n f)[m]? =l[m]?:=by
 rw [cH];simp [h]
theorem DI {l:List ft} {n:Nat} {t:ft} (h:l[n]? =some t) (f:ft->ft):(l.modify n f)[n]? =some (f t):=by
 rw [cH,h];simp
theorem apK {x:fb} (h:j9 x) {who:Nat} {t:ft} {k:Int} (c:x.bf.al[who]? =some t) (hk:k∈t.fA.al) (w:m6 x.fg who=false) (l:mo x.fm who=false) (N:sT (tX x.bf.al) x.ep.cy.ec.al (gl t ⟨2,k⟩))
  (u:nB x.ep.cy.ec.al (mb x.bf.al) false false (gl t ⟨2,k⟩)<nB x.ep.cy.ec.al (mb x.bf.al) false false t):j9 (rL x who ⟨2,k⟩)/\Fx x (rL x who ⟨2,k⟩)/\nC (rL x who ⟨2,k⟩)<nC x:=by
 have K:=(aB.1 c).1;have s:mA x.bf.al who=t.fA.al:=qo c;have hf:=h.pY.acz (n:=who) (k:=k) (by rw [s];exact hk);have I:(gl t ⟨2,k⟩).fA.al=t.fA.al.filter λj=>!decide (j=k):=by
  unfold gl;rw [ai (show ¬(2:Int)=1 by decide),ak rfl];rfl
 rw [s] at hf;have L:mF x who=nB x.ep.cy.ec.al (mb x.bf.al) false false t:=by
  grind [mF]
 unfold rL;rcases hf with ⟨D,E,f⟩|⟨m,D,E,f,e4,Q,F⟩
 .generalize kl x.fg who k=y at*;obtain ⟨T,r⟩:=y;simp only at D E f;subst D;simp only [kA,iC,zL];have p:Fx x {x with fg:=T,bf:=⟨x.bf.ie,x.bf.al.modify who λt=>gl t ⟨2,k⟩⟩}:=⟨rfl,rfl,rfl,cd _ _ _⟩;refine ⟨h.Oa p (Oc (λt=>Cu t (.inr rfl)) who) ?_ (λn t' e=>?_) (λv a=>?_),p,zK p.Ii (λn hn=>?_) ⟨who,K,?_⟩⟩
  .grind [DH]
  .grind
  .have a:v∈T.fH.al:=a;rw [f] at a;obtain ⟨n,P,q1,b,A⟩:=h.wg v a;grind [Ij]
  .have R:∀ n,m6 T n=m6 x.fg n:=λn=>by unfold m6;rw [f]
   show (match (x.bf.al.modify who λt=>gl t ⟨2,k⟩)[n]? with|some t=>nB _ (mb (x.bf.al.modify who _)) (m6 T n) _ t|none=>0)<=mF x n;rw [Fw (λt=>Cu t (.inr rfl)),R]
   by_cases q:who=n
   .grind
   .rw [apL q];exact aq _
  .have R:∀ n,m6 T n=m6 x.fg n:=λn=>by unfold m6;rw [f]
   show (match (x.bf.al.modify who λt=>gl t ⟨2,k⟩)[who]? with|some t=>nB _ (mb (x.bf.al.modify who _)) (m6 T who) _ t|none=>0)<mF x who;rw [Fw (λt=>Cu t (.inr rfl)),R,DI c,L,w,l];exact u
 .obtain ⟨m,B,rfl,b,A⟩:=h.wg _ f;have d:who≠m:=λq=>E (by rw [q])
  generalize kl x.fg who k=y at*;obtain ⟨T,r⟩:=y;simp only at D Q F b A E e4;subst D;simp only [kA,iC,lT,zL];have J:=acD (h.pn m B b) A (acK (h.pn m B b) A (by grind [qo]) (by have:=h.pY.we m;grind [qo])) (mb x.bf.al) (mo x.fm m);have Y:mo x.fm m=false:=by
   rw [bW];intro q;obtain ⟨g,X,q⟩:=bD.1 q;obtain ⟨n,P,f1,f2,f3,_⟩:=h.vo g X;grind [A.uN]
  have o:∀ n,((x.bf.al.modify who λt=>gl t ⟨2,k⟩).modify m λt=>gl t ⟨1,k⟩)[n]? =if n=m then some (gl B ⟨1,k⟩) else if n=who then some (gl t ⟨2,k⟩) else x.bf.al[n]?:=λn=>by
   grind
  have p:Fx x {x with fg:=T,bf:=⟨x.bf.ie,(x.bf.al.modify who λt=>gl t ⟨2,k⟩).modify m λt=>gl t ⟨1,k⟩⟩}:=⟨rfl,rfl,rfl,by simp_all⟩;have i:∀ v∈x.fg.fH.al,v.ig=m->v=⟨k,m⟩:=λv a e=>Td h.pY.Fq a f e
  have U:m6 x.fg m=true:=bD.2 ⟨_,f,by simp⟩;have W:∀ n,n≠m->m6 T n=m6 x.fg n:=λn hn=>by
   grind [m6]
  have S:m6 T m=false:=by
   grind [m6]
  have H:mb ((x.bf.al.modify who λt=>gl t ⟨2,k⟩).modify m λt=>gl t ⟨1,k⟩)=mb x.bf.al:=by
   rw [Fw (λt=>Cu t (.inl rfl)),Fw (λt=>Cu t (.inr rfl))]
  refine ⟨h.Oa p (λq=>Oc (λt=>Cu t (.inl rfl)) m (Oc (λt=>Cu t (.inr rfl)) who q)) ?_ (λn t' e=>?_) (λv a=>?_),p,zK p.Ii (λn hn=>?_) ⟨who,K,?_⟩⟩
  .show oC T (mA ((x.bf.al.modify who _).modify m _));rw [DH (t:=B) (by simp_all),DH c,I];have:mA x.bf.al m=B.fA.al:=qo b;rw [this] at Q;exact Q
  .grind
  .obtain ⟨O,r2⟩:=(F v).1 a;obtain ⟨n,P,Z,p2,p3⟩:=h.wg v O;grind [Ij]
  .grind [mF]
  grind [mF]
theorem apM {D:Prop} {l t k} (h:sT D l t) (w:uM l t k) (n:t.fA.al.Nodup) (K g):nB l K true g t<nB l K false g t:=by
 have d:=w.uN;have e:=N7 h d;cases y:jd t.fx with
 |pR=>exact absurd y w.zJ
 |nf c=>
  grind [N8,acJ]
 |ml s=>
  rw [yu e d y,yu e d y];have:1<=r7 t s.al.length:=by grind [r7]
  simp;omega
theorem apN {x:fb} (h:j9 x) {who:Nat} {t:ft} {k:Int} (ht:x.bf.al[who]? =some t) (hk:k∉t.fA.al) (hw:uM x.ep.cy.ec.al t k) (hnw:m6 x.fg who=false) (hg:mo x.fm who=false):
  j9 (rM x who ⟨1,k⟩)/\Fx x (rM x who ⟨1,k⟩)/\nC (rM x who ⟨1,k⟩)<nC x:=by
 have hlt:=(aB.1 ht).1;have hhas:mA x.bf.al who=t.fA.al:=qo ht;have hf:=h.pY.apB (n:=who) (k:=k) (Ij hnw) (by rw [hhas];exact hk);have hth:=h.pn who t ht;have hm0:mF x who=nB x.ep.cy.ec.al (mb x.bf.al) false false t:=by
  grind [mF]
 have hnd:t.fA.al.Nodup:=by have:=h.pY.we who;rwa [hhas] at this
 have hmw:=apM hth hw hnd (mb x.bf.al) false;have hgo:=acD hth hw (acK hth hw hk hnd) (mb x.bf.al) false;rw [hhas] at hf;unfold rM;rcases hf with ⟨e1,e2,e3⟩|⟨e1,e2,e3,e4⟩
 .generalize pc x.fg who k=y at*;obtain ⟨T,r⟩:=y;simp only at e1 e2 e3;subst e1;simp only [du,kA,iC,zL];have hah:(gl t ⟨1,k⟩).fA.al=t.fA.al++[k]:=by
   unfold gl;rw [ak rfl];rfl
  have hw':Fx x {x with fg:=T,bf:=⟨x.bf.ie,x.bf.al.modify who λt=>gl t ⟨1,k⟩⟩}:=⟨rfl,rfl,rfl,cd _ _ _⟩;have hT:∀ n,m6 T n=m6 x.fg n:=λn=>by grind [m6]
  have hTT:mb (x.bf.al.modify who λt=>gl t ⟨1,k⟩)=mb x.bf.al:=Fw (λt=>Cu t (.inl rfl)) _;have hmod:∀ n,(x.bf.al.modify who λt=>gl t ⟨1,k⟩)[n]? =if n=who then some (gl t ⟨1,k⟩) else x.bf.al[n]?:=λn=>by
   grind
  refine ⟨h.Oa hw' (Oc (λt=>Cu t (.inl rfl)) who) ?_ (λn t' e=>?_) (λv hv=>?_),hw',zK hw'.Ii (λn hn=>?_) ⟨who,hlt,?_⟩⟩
  .grind [DH]
  .grind
  .have hv:v∈T.fH.al:=hv;rw [e3] at hv;obtain ⟨n,tn,q1,q2,q3⟩:=h.wg v hv;grind [Ij]
  .grind [mF]
  grind [mF]
 .generalize pc x.fg who k=y at*;obtain ⟨T,r⟩:=y;simp only at e1 e2 e3 e4;subst e1;simp only [bA,cK];have hw':Fx x {x with fg:=T}:=⟨rfl,rfl,rfl,rfl⟩;have hWn:∀ n,n≠who->m6 T n=m6 x.fg n:=λn hn=>by
   grind [m6]
  have hWw:m6 T who=true:=by
   grind [m6]
  refine ⟨h.Oa hw' id e2 (λn t' e=> .inl e) (λv hv=>?_),hw',zK rfl (λn hn=>?_) ⟨who,hlt,?_⟩⟩
  .have hv:v∈T.fH.al:=hv;rw [e3] at hv;rcases aF.1 hv with hv|hv
   .exact h.wg v hv
   grind
  .grind [mF]
  grind [mF]
theorem apX {T m} (h:kM T m) {x o} (p:Dh m x o):x.e8.cy.ec.al=iF m.cy.ec.al o:=by
 have g:=ZN h p;have c:pe (tv m.cy o).fZ.al (tv m.cy o).ec.al:=pe.zd h.lq.qK o;have d:jl (tv m.cy o)=jl m.cy++[o]:=by
  unfold jl tv;show (m.cy.fZ.al++[_]).map _=_;rw [aU];rfl
 have r:oz (jl (tv m.cy o)):=by
  rw [d];refine cG.2 ⟨h.zj,by simp,λa e b c=>?_⟩;rw [aw] at c;subst c;have:=h.Dj a e;grind [p.Kb,ke]
 exact Zr g.B6.qK c g.Di r λq=>by
  rw [g.zi,d,aF]
theorem apW {es l S} (D:0<=S) (h:pe es l) (m:∀ e∈es,g4 e.gN=true/\e.gN.fa.iH<=S):∀ n∈l,n.eM<128*(S+1)/\n.jj<128*(S+1):=by
 induction h with
 |AD=>simp_all
 | @zd es l h o w=>
  intro n b;have g:=w λe s=>m e (bO _ s)
  obtain ⟨c,v⟩:=m _ (cP _ (aw.2 rfl));simp only at c v;obtain ⟨x,z,A,_⟩:=Rm c;have y:∀ i,mK i=true->BG o.fa i=false->i<128*(S+1):=λi B f=>by
   grind [BG,ke,CW]
  rcases Jq b with j|⟨_,p,r⟩
  .exact g n j
  .refine ⟨by simp_all,?_⟩;have d:((jN l o.eO).getD (tj o.eO)).jj<128*(S+1):=by
    cases t:jN l o.eO with
    |none=>show (-1:Int)<_;omega
    |some k=>exact (g k (tg t).1).2
   rw [p];unfold mj;split
   .rename_i u;show o.iW<_
    by_cases q:mK o.iW=true
    .exact y _ q A
    .have a:iy o.iW=true:=by
      grind [g4,wV]
     grind [iy]
   .exact d
inductive xu (l:List eF) (c:fG):List eF->Prop
 |A3:xu l c l
 |acM (o:e7) (k:c.gD=3) (m:lH l o=true) (ok:o.iT≠1):xu l c (iF l o)
 |acL (o:e7) (k:c.gD=1\/c.gD=2) (b:A0 l o):xu l c (iF l o)
 |Tn (o:e7) (k:c.gD=5\/c.gD=6) (m:lH l o=true) (ok:o.iT=1) (a b:Int) (up:mE l o.eO a) (ha:vp l c a) (hb:o.iW=2\/vp l c o.iW):xu l c (iF l o)
theorem Oe {T m} (h:kM T m) (c o) {d} (e:nU (ij m c) o=(d,0)):∃ s,Dh m d (pT o s)/\d.e8.cy.ec.al=iF m.cy.ec.al (pT o s):=by
 grind [RN,apX]
theorem Od {l o} (h:lH l o=false):iF l o=l:=by
 grind [iF]
theorem apQ {T m} (h:kM T m) {d o f} (p:Dh m d o) (i:o.eO=vH ⟨m.jk+1,m.ky⟩ f) (k:o.iT=1) (g:lH m.cy.ec.al o=true) (a:iB m.cy.ec.al o.iW o.mI=none):A0 m.cy.ec.al o:=by
 have s:=p.Zz;rw [p.Kb] at s;have j:0<=m.jk/\0<=m.ky:=by
  grind [m9]
 have c:128*(m.jk+1)<=o.eO:=by
  grind [vH]
 have l:=apW j.1 h.lq.qK λe b=>⟨h.lq.B1 e b,h.Dj _ (dD b)⟩
 exact ⟨g,k,λn a=>by grind,λn a=>by grind,a⟩
def A4 (l:List eF) (p:List UInt8) (d:Int):Prop:=∃ s r,kV p=some (s::r)/\jR l (s::r).dropLast=(d,0)/\iy d=true
theorem apU {l g p d}:d∈oN l g p↔d∈g\/A4 l p d:=by
 grind [oN,A4]
theorem acO {l:List eF} {c:fG} {d:Int}:d∈ng l c↔d=1\/∃ p∈pS c,A4 l p d:=by
 unfold ng;rw [aK,(Tl l _).2];have k:∀ (s:List (List UInt8)) (a:List Int),d∈s.foldl (oN l) a↔d∈a\/∃ p∈s,A4 l p d:=λs=>by
  induction s with
  |nil=>intro a;simp
  |cons p s i=>
   grind [apU]
 rw [k];simp
theorem apS {l p d} (h:A4 l p d):d≠1:=λe=>by
 obtain ⟨_,_,_,_,q⟩:=h;rw [e] at q;exact absurd q (by decide)
theorem Ik {l c d}:vp l c d↔∃ p∈pS c,A4 l p d:=by
 grind [vp,acO,apS]
theorem To {l s id}:∀ xs r,jz l r (xs++[s])=(id,0)->∃ a n,jz l r xs=(a,0)/\iy a=true/\iB l a s=some n/\n.eM=id
 |[],r,e=>by
  grind [jz]
 |x::xs,r,e=>by
  rw [bP,jz] at e;split at e
  .rename_i d;cases h:iB l r x with
   |none=>simp_all
   |some n=>
    rw [h] at e;obtain ⟨a,k,b,c⟩:=To xs n.eM e;grind [jz]
  .cases e
theorem apZ {l} (c:gU l=true) {h} (d:iy h=true) {s n} (e:iB l h s=some n):mE l n.eM h:=by
 obtain ⟨a,b,_⟩:=wX e;refine ⟨n,tf c a,(xq.1 b).1,λq=>?_⟩;subst q;exact absurd d (by decide)
theorem acN {l} (i:gU l=true) {p id} (e:kj l p=(id,0)):mK id=false\/∃ a,mE l id a/\A4 l p a:=by
 unfold kj at e;cases h:kV p with
 |none=>simp_all
 |some d=>
  rw [h] at e;have e:jR l d=(id,0):=e;cases d with
  |nil=>
   have:((0:Int),(0:Int))=(id,0):=e;cases this;exact .inl rfl
  |cons s r=>
   obtain ⟨x,z,c⟩:∃ x z,s::r=x++[z]:=⟨(s::r).dropLast,(s::r).getLast (by simp),(List.dropLast_concat_getLast (by simp)).symm⟩;have j:(s::r).dropLast=x:=by rw [c];simp
   rw [c] at e;obtain ⟨a,n,f,b,g,rfl⟩:=To x 0 e;refine .inr ⟨a,apZ i b g,s,r,h,?_,b⟩;rw [j];exact f
theorem apO {l p d z} (e:nT l p=((d,z),0)):A4 l p d:=by
 unfold nT at e;cases h:kV p with
 |none=>simp_all
 |some n=>
  rw [h] at e;cases n with
  |nil=>cases e
  |cons s r=>
   simp only at e;split at e
   .simp_all
   .rename_i q;split at e
    .cases e
    .rename_i a;have e:=congrArg (λy=>y.1.1) e;simp only at e;refine ⟨s,r,h,?_,by simp_all⟩;grind
theorem apR (m c):(sC (ij m c)).1.e8.cy=m.cy/\(sB (ij m c)).1.e8.cy=m.cy/\(tA (ij m c)).1.e8.cy=m.cy/\(sA (ij m c)).1.e8.cy=m.cy/\(vc (ij m c)).1.e8.cy=m.cy/\(vb (ij m c)).1.e8.cy=m.cy:=by
 refine ⟨?_,?_,?_,?_,?_,?_⟩
 .unfold sC;grind [ij]
 .unfold sB;grind [ij]
 .unfold tA;grind [ij]
 .unfold sA;grind [ij]
 .unfold vc;grind [ij]
 grind [vb,ij]
theorem acP {l o} (h:mK o.eO=false):lH l o=false:=by
 grind [lH,Rm]
theorem apP {T m} (h:kM T m) {c} (u:c.gD=1\/c.gD=2) {d} (e:uq (ij m c)=(d,0)):xu m.cy.ec.al c d.e8.cy.ec.al:=by
 unfold uq at e;split at e
 .cases e
 obtain ⟨i,l,A,t⟩:∃ a b z,nT (ij m c).e8.cy.ec.al (ij m c).kQ.fR=((a,b),z):=⟨_,_,_,rfl⟩;rw [t] at e;simp only at e;split at e
 .simp_all
 split at e
 .cases e
 rename_i B x;obtain ⟨s,r,o⟩:∃ a b,nh (ij m c).e8=(a,b):=⟨_,_,rfl⟩;rw [o] at e;simp only at e;split at e
 .simp_all
 rename_i g;have g:r=0:=by simpa using g
 subst g;obtain ⟨j,_,_⟩:=ZB o;have j:s=⟨m.jk+1,m.ky⟩:=j;obtain ⟨y,w,v⟩:=Oe h c _ e;rw [v];cases k:lH m.cy.ec.al (pT (nI 1 (vH s (decide ((ij m c).kQ.gD=1))) i l []) y) with
 |false=>rw [Od k];exact .A3
 |true=>
  refine .acL _ u (apQ h w (f:=decide ((ij m c).kQ.gD=1)) ?_ rfl k ?_)
  .rw [j];rfl
  .have:(iB m.cy.ec.al i l).isSome≠true:=x;cases p:iB m.cy.ec.al i l with
   |none=>exact p
   |some n=>simp_all
theorem ap0 {T m} (h:kM T m) {c} (k:c.gD=3) {d} (e:uv (ij m c)=(d,0)):xu m.cy.ec.al c d.e8.cy.ec.al:=by
 unfold uv at e;obtain ⟨i,g,f⟩:∃ a z,kj (ij m c).e8.cy.ec.al (ij m c).kQ.fR=(a,z):=⟨_,_,rfl⟩;rw [f] at e;simp only at e;split at e
 .simp_all
 split at e
 .cases e
 obtain ⟨s,p,n⟩:=Oe h c _ e;rw [n];cases b:lH m.cy.ec.al (pT (nI 2 i 0 [] (ij m c).kQ.lS) s) with
 |false=>rw [Od b];exact .A3
 |true=>exact .acM _ k b (by show (2:Int)≠1;decide)
theorem apV {T m} (h:kM T m) {c} (r:c.gD=5) {d} (e:ur (ij m c)=(d,0)):xu m.cy.ec.al c d.e8.cy.ec.al:=by
 unfold ur at e;split at e
 .cases e
 obtain ⟨s,x,k⟩:∃ a z,kj (ij m c).e8.cy.ec.al (ij m c).kQ.fR=(a,z):=⟨_,_,rfl⟩;rw [k] at e;simp only at e;split at e
 .simp_all
 rename_i g;have g:x=0:=by simpa using g
 subst g;obtain ⟨i,l,w,n⟩:∃ a b z,nT (ij m c).e8.cy.ec.al (ij m c).kQ.kE=((a,b),z):=⟨_,_,_,rfl⟩;rw [n] at e;simp only at e;split at e
 .simp_all
 rename_i j;have j:w=0:=by simpa using j
 subst j;split at e
 .cases e
 split at e
 .cases e
 obtain ⟨t,A,y⟩:=Oe h c _ e;rw [y];have p:pS c=[c.fR,c.kE]:=by grind [pS]
 cases f:lH m.cy.ec.al (pT (nI 1 s i l []) t) with
 |false=>rw [Od f];exact .A3
 |true=>
  rcases acN h.lq.qK.zc k with q|⟨a,u,v⟩
  .grind [acP,pT,nI]
  .exact .Tn _ (.inl r) f rfl a i u (Ik.2 ⟨c.fR,by rw [p];simp,v⟩) (.inr (Ik.2 ⟨c.kE,by rw [p];simp,apO n⟩))
theorem apY {T m} (h:kM T m) {c} (k:c.gD=6) {d} (e:uu (ij m c)=(d,0)):xu m.cy.ec.al c d.e8.cy.ec.al:=by
 unfold uu at e;split at e
 .cases e
 obtain ⟨i,l,g⟩:∃ a z,kj (ij m c).e8.cy.ec.al (ij m c).kQ.fR=(a,z):=⟨_,_,rfl⟩;rw [g] at e;simp only at e;split at e
 .simp_all
 rename_i f;have f:l=0:=by simpa using f
 subst f;split at e
 .cases e
 .cases e
 rename_i s r _;obtain ⟨j,t,n⟩:=Oe h c _ e;rw [n];have p:pS c=[c.fR]:=by grind [pS]
 cases b:lH m.cy.ec.al (pT (nI 1 i 2 ((s::r).getLast (by simp)) []) j) with
 |false=>rw [Od b];exact .A3
 |true=>
  rcases acN h.lq.qK.zc g with q|⟨a,u,v⟩
  .grind [acP,pT,nI]
  .exact .Tn _ (.inr k) b rfl a 2 u (Ik.2 ⟨c.fR,by rw [p];simp,v⟩) (.inl rfl)
theorem apT {T m} (h:kM T m) (c) (g:c.gD≠13):xu m.cy.ec.al c (gA m c).1.cy.ec.al:=by
 unfold gA;split
 .exact .A3
 cases w:vI c.gD with
 |none=>exact .A3
 |some f=>
  simp only;obtain ⟨d,e,a⟩:∃ d e,f ⟨m,iL 0,c, .g6⟩=(d,e):=⟨_,_,rfl⟩;rw [a];simp only;split
  .exact .A3
  rename_i b;have b:e=0:=by simpa using b
  subst b;have k:xu m.cy.ec.al c d.e8.cy.ec.al:=by
   have a:f (ij m c)=(d,0):=a;obtain ⟨i,j,l,n,o,r⟩:=apR m c;have s:∀ {y:iY×Int},y.1.e8.cy=m.cy->y=(d,0)->xu m.cy.ec.al c d.e8.cy.ec.al:=λp q=>by
    rw [q] at p;have p:d.e8.cy=m.cy:=p;rw [p];exact .A3
   rcases Nq w with ⟨q,rfl⟩|⟨q,rfl⟩|⟨q,rfl⟩|⟨q,rfl⟩|⟨q,rfl⟩|⟨q,rfl⟩|⟨q,rfl⟩|⟨q,rfl⟩|⟨q,rfl⟩|⟨q,rfl⟩|⟨q,rfl⟩|⟨q,rfl⟩
   .exact apP h q a
   .exact ap0 h q a
   .exact s i a
   .exact apV h q a
   .exact apY h q a
   .exact s j a
   .exact s l a
   .exact s n a
   .exact s o a
   .exact s r a
   .exact s rfl a
   .exact absurd q g
  split
  .exact k
  .exact k
end Gw
