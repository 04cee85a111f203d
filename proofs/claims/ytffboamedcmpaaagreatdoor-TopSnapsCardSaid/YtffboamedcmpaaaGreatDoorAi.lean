import Derived.Shelf.SlSortCmp.Whole1
import Derived.Shelf.SlSortCmp.NoneTotal
import Derived.Test.YtffboamedcmpaaaGreatDoorAh
set_option linter.all false
set_option maxHeartbeats 4000000
set_option maxRecDepth 100000
namespace Go.Proofs.YtffboamedcmpaaaGreatDoor
open Gw
open Go.Am
open Go.Proofs.Tryz Tryz
def jv (x:Int):Prop:=-9223372036854775808<=x/\x<=9223372036854775807
def BU (s:mJ):b9:= .eN [.ax .i64 s.iH, .ax .i64 s.jw]
theorem G0 (s:mJ):er prog 68 [BU s] (.eD (m9 s)):=by
 obtain ⟨c,r⟩:=s;show er prog _ [.eN [.ax .i64 c, .ax .i64 r]] (.eD (decide (1<=c) && (decide (c<=1048576) && (decide (0<=r) && decide (r<=63)))));refine fS func68 ?_
 conv=>whnf
 refine ⟨λh=>?_,λh=>?_⟩
 .rw [h]
  conv=>whnf
  refine ⟨λa=>?_,λa=>?_⟩
  .rw [a]
   conv=>whnf
   refine ⟨λb=>?_,λb=>?_⟩
   .rw [b];exact fu
   .rw [b];exact fu
  .rw [a];exact fu
 .rw [h];exact fu
theorem Qx (a b:mJ):er prog 97 [BU a,BU b] (.eD (ke a b)):=by
 obtain ⟨c,r⟩:=a;obtain ⟨d,q⟩:=b;show er prog _ [.eN [.ax .i64 c, .ax .i64 r], .eN [.ax .i64 d, .ax .i64 q]] (.eD (decide (c<d)||(decide (c=d) && decide (r<q))));refine fS func97 ?_;refine cx ?_;refine ⟨λe=>?_,λe=>?_⟩
 .conv=>whnf
  simp_all
 .have e:¬(c=d/\r=q):=by simpa using e
  conv=>whnf
  refine ⟨λh=>?_,λh=>?_⟩
  .have h:¬c=d:=by simpa using h
   conv=>whnf
   simp_all
  .have h:c=d:=by simpa using h
   conv=>whnf
   simp_all
theorem GZ (id:Int) (i:jv id):er prog 33 [.ax .i64 id] (.dn [BU (CW id), .eD (GJ id), .eD (mK id)]):=by
 unfold jv at i;have c:=G0 ⟨id.tdiv 128,(id.tmod 128).tdiv 2⟩;refine fS func33 ?_
 conv=>whnf
 refine ⟨λa=>?_,λa=>?_⟩
 .have a:=ah a;have e:mK id=false:=by simp [mK];omega
  conv=>whnf
  rw [CW,GJ,e,ai dd];rfl
 have a:=ag a;have b:id.tdiv 128=id / 128:=PE om;have d:id.tmod 128=id % 128:=Vn om;have f:(id % 128).tdiv 2=id % 128 / 2:=PE om;have g:id.tmod 2=id % 2:=Vn om;have w:IntKind.i64.wrap (id / 128)=id / 128:=fq om om;have j:IntKind.i64.wrap (id % 128 / 2)=id % 128 / 2:=fq om om;rw [b,d,f] at c;have o:m9 ⟨id / 128,id % 128 / 2⟩=mK id:=by
  grind [m9,mK]
 rw [o] at c
 conv=>whnf
 rw [b,d,f,w,j];refine cx ?_;unfold CW GJ;generalize mK id=q
 conv=>whnf
 refine ⟨λh=>?_,λh=>?_⟩
 .have h:q=false:=by simpa using h
  conv=>whnf
  rw [h];rfl
 .have h:q=true:=by simpa using h
  conv=>whnf
  rw [h,g,ak rfl,bo];rfl
theorem WY (s:mJ) (id:Int) (i:jv id):er prog 161 [BU s, .ax .i64 id] (.eD (BG s id)):=by
 have a:=GZ id i;have b:=Qx s (CW id);unfold BG;generalize CW id=o at a b ⊢;refine fS func161 ?_;refine cx ?_;generalize mK id=q
 conv=>whnf
 refine ⟨λh=>?_,λh=>?_⟩
 .refine cx ?_;rw [h];rfl
 .conv=>whnf
  rw [h];rfl
theorem w7 (id:Int) (i:jv id):er prog 13 [.ax .i64 id] (.eD (iy id)):=by
 have c:=GZ id i;unfold iy;refine fS func13 ?_
 conv=>whnf
 refine ⟨λh=>?_,λh=>?_⟩
 .have h:id=0:=by simpa using h
  conv=>whnf
  simp_all
 have h:¬id=0:=by simpa using h
 rw [aJ h]
 conv=>whnf
 refine ⟨λa=>?_,λa=>?_⟩
 .have a:id=2:=by simpa using a
  conv=>whnf
  simp_all
 have a:¬id=2:=by simpa using a
 rw [aJ a];refine cx ?_;generalize mK id=q
 conv=>whnf
 refine ⟨λb=>?_,λb=>?_⟩
 .conv=>whnf
  rw [b];rfl
 .conv=>whnf
  rw [b];rfl
def rc (o:e7):b9:= .eN [.ax .i64 o.fa.iH, .ax .i64 o.fa.jw, .ax .i64 o.iT, .ax .i64 o.eO, .ax .i64 o.iW, .cp o.mI, .cp o.n9]
def Ax (o:e7):b9:=if o.iT=1 then .gm 287 (rc o) else if o.iT=2 then .gm 288 (rc o) else .gy
structure qf (o:e7):Prop where
 Aw:jv o.eO
 Qv:jv o.iW
 Qu:o.mI.length<=1048576
 WV:o.n9.length<=1048576
theorem oQ {σ:eK} {cs:List b9} (h:pr cs=true):Am.oI σ (.eN cs) (.eN (mB cs)):=
 .O0 (wI cs).symm λi x y b c=>by
  obtain ⟨z,a,rfl⟩:=wH c;rw [b] at a;cases a;exact .qw (xG h i x b)
theorem Qw (o:e7):er prog 94 [rc o] (Ax o):=by
 unfold Ax;refine fS func94 ?_
 conv=>whnf
 refine ⟨λh=>?_,λh=>?_⟩
 .have h:o.iT=1:=by simpa using h
  rw [ak h]
  conv=>whnf
  exact .ou (oQ (cs:=[.ax .i64 o.fa.iH, .ax .i64 o.fa.jw, .ax .i64 o.iT, .ax .i64 o.eO, .ax .i64 o.iW, .cp o.mI, .cp o.n9]) rfl)
 .have h:¬o.iT=1:=by simpa using h
  rw [ai h]
  conv=>whnf
  refine ⟨λa=>?_,λa=>?_⟩
  .have a:o.iT=2:=by simpa using a
   rw [ak a]
   conv=>whnf
   exact .ou (oQ (cs:=[.ax .i64 o.fa.iH, .ax .i64 o.fa.jw, .ax .i64 o.iT, .ax .i64 o.eO, .ax .i64 o.iW, .cp o.mI, .cp o.n9]) rfl)
  .have a:¬o.iT=2:=by simpa using a
   rw [ai a]
   conv=>whnf
theorem ag6 (o:e7) (h:qf o):er prog 329 [rc o] (.eD (wV o)):=by
 have a:=GZ o.eO h.Aw;have b:=w7 o.iW h.Qv;have c:=WY o.fa o.iW h.Qv;have d:=WR o.mI h.Qu;unfold wV;refine fS func329 ?_;refine cx ?_;refine ⟨λq=>?_,λq=>?_⟩
 .rw [q];refine cx ?_;refine ⟨λq=>?_,λq=>?_⟩
  .rw [q];refine cx ?_;refine ⟨λq=>?_,λq=>?_⟩
   .rw [q];refine cx ?_;refine ⟨λq=>?_,λq=>?_⟩
    .rw [q];exact fu
    .rw [q];exact fu
   .rw [q];exact fu
  .rw [q];exact fu
 .rw [q];exact fu
theorem ag7 (o:e7) (h:qf o):er prog 331 [rc o] (.eD (Ai o)):=by
 have a:=GZ o.eO h.Aw;unfold Ai;refine fS func331 ?_;refine cx ?_;refine ⟨λq=>?_,λq=>?_⟩
 .rw [q]
  conv=>whnf
  refine ⟨λq=>?_,λq=>?_⟩
  .rw [q]
   conv=>whnf
   refine ⟨λq=>?_,λq=>?_⟩
   .have q:o.n9.length<=64:=by grind
    rw [aO q]
    conv=>whnf
    refine ⟨λq=>?_,λq=>?_⟩
    .have q:o.iW=0:=by simpa using q
     rw [aO q];exact fu
    .have q:¬o.iW=0:=by simpa using q
     rw [aJ q];exact fu
   .have q:¬o.n9.length<=64:=by grind
    rw [aJ q];exact fu
  .rw [q];exact fu
 .rw [q];exact fu
theorem EH (o:e7) (f:qf o):er prog 92 [rc o] (.eD (g4 o)):=by
 have h:=Qw o;have c:=G0 o.fa;have d:=WY o.fa o.eO f.Aw;unfold Ax at h;unfold g4
 by_cases k:o.iT=1
 .rw [ak k] at h ⊢;have a:=ag6 o f;refine fS func92 ?_;refine cx ?_;refine ⟨λq=>?_,λq=>?_⟩
  .rw [q];refine cx ?_;refine ⟨λq=>?_,λq=>?_⟩
   .rw [q]
    conv=>whnf
    refine ⟨329,eI,fF.kc a rfl ?_⟩;exact fu
   .rw [q];exact fu
  .rw [q];exact fu
 .rw [ai k] at h ⊢
  by_cases b:o.iT=2
  .rw [ak b] at h ⊢;have a:=ag7 o f;refine fS func92 ?_;refine cx ?_;refine ⟨λq=>?_,λq=>?_⟩
   .rw [q];refine cx ?_;refine ⟨λq=>?_,λq=>?_⟩
    .rw [q]
     conv=>whnf
     refine ⟨331,eI,fF.kc a rfl ?_⟩;exact fu
    .rw [q];exact fu
   .rw [q];exact fu
  .rw [ai b] at h ⊢;refine fS func92 ?_;exact jf
def gV (o:e7):List b9:=[.ax .i64 o.fa.iH, .ax .i64 o.fa.jw, .ax .i64 o.iT, .ax .i64 o.eO, .ax .i64 o.iW, .cp o.mI, .cp o.n9]
def nj (l:List e7):List (List b9):=l.map gV
theorem ag4 {l:List e7} {k:Nat} (h:k<l.length):(nj l)[k]? =some (gV l[k]):=by grind [nj]
theorem MC (l:List e7):(nj l).length=l.length:=by simp [nj]
def mD (n:eF):List b9:=[.ax .i64 n.eM, .ax .i64 n.jj, .cp n.iU, .ax .i64 n.lA.iH, .ax .i64 n.lA.jw, .cp n.qZ, .ax .i64 n.Jo.iH, .ax .i64 n.Jo.jw]
def ib (l:List eF):List (List b9):=l.map mD
theorem BS (l:List eF):(ib l).length=l.length:=ap _
theorem BR {l:List eF} {k:Nat} (h:k<l.length):(ib l)[k]? =some (mD l[k]):=by grind [ib]
theorem EI (i:Bool) (l:List eF) (v:∀ n∈l,jv n.eM) (D:l.length<=1048576):er prog 30 [.a8 i 8 (ib l) .dm] (.eD (gU l)):=by
 have f:=BS l;refine fS func30 ?_
 conv=>whnf
 refine iE.gY (λk:Nat=>[(.ct 0, .bg (.a8 i 8 (ib l) .dm)),(.ct 8, .bg (.a8 i 8 (ib l) .dm)),(.ct 9, .bg (.ax .i64 l.length)),(.ct 10, .bg (.ax .i64 k))]) 0 (λk=>k<=l.length/\∀ j,j<k->x1 l j=true) (λk=>l.length - k) dd 0 ⟨ar _,λj h=>om⟩ ⟨rfl,rfl,rfl,rfl,?_,af⟩ ?_
 .show gC.bg (b9.ax .i64 (ib l).length)=_;rw [f]
 rintro k ⟨B,a⟩;refine gk ?_;refine ab (λr=>?_) λr=>?_
 .have t:k<l.length:=om;have A:=BR t;refine cx ?_;have g:=v _ (aI t)
  conv=>whnf
  refine fF.kc (GZ _ g) rfl ?_;have m:x1 l k=(mK l[k].eM && Mo l l[k].eM k):=by grind [x1]
  have b:x1 l k=false->gU l=false:=λh=>by
   rw [bW];intro s;have:=bi.1 s k (dS.2 t);simp_all
  have o:IntKind.i64.wrap ((k:Int)+1)=((k+1:Nat):Int):=by grind [fq]
  have e:x1 l k=true->∀ j,j<k+1->x1 l j=true:=λh j x=>by
   grind
  generalize l[k]=d at*;generalize mK d.eM=q at*;generalize CW d.eM=F at*;generalize GJ d.eM=z at*;cases q with
  |false=>
   rw [b (by rw [m];rfl)];exact jf
  |true=>
  rw [bo] at m;cases k with
  |zero=>
   refine kw ?_;refine ⟨eI,?_⟩
   conv=>whnf
   refine ⟨1,⟨t,e (by rw [m];rfl)⟩,by grind,af⟩
  |succ j=>
   have u:=BR (show j<l.length by omega);have y:x1 l (j+1)=decide (l[j].eM<d.eM):=by rw [m];show (match l[j]? with|none=>false|some p=>decide (p.eM<d.eM))=_;grind
   have w:IntKind.i64.wrap (((j+1:Nat):Int) - 1)=(j:Int):=by grind [fq]
   conv=>whnf
   repeat (
       first
          |refine ⟨λh=>absurd h dd,λ_=>?_⟩
          |refine ⟨λ_=>?_,λh=>absurd h dd⟩
          |refine ⟨λ_=>?_,λh=>absurd h (by simp_all)⟩
          |fail "end"
       (conv=>whnf))
   rw [w];refine cx ?_;generalize l[j]=E at*;refine cx ?_;refine ab (λh=>?_) λh=>?_
   .rw [b (by grind)]
    conv=>whnf
   .conv=>whnf
    refine ⟨j+2,⟨om,e (by simp_all)⟩,by grind,rfl,rfl,rfl,rfl,rfl,rfl,?_,rfl,ae⟩;show gC.bg (b9.ax .i64 (IntKind.i64.wrap (((j+1:Nat):Int)+1)))=_;rw [o]
 .have c:gU l=true:=bi.2 λj x=>a j (by grind)
  rw [c]
  conv=>whnf
theorem ahb (x:Int):er prog 110 [.ax .i64 x] (.eD false):=by
 refine fS func110 ?_
 conv=>whnf
 simp
def GX (a b:Int):Int:=if a<b then -1 else if b<a then 1 else 0
theorem ag0 (a b:Int):er prog 54 [.ax .i64 a, .ax .i64 b] (.ax .i64 (GX a b)):=by
 unfold GX;have n:=ahb;refine fS func54 ?_
 conv=>whnf
 refine fF.kc (n a) rfl ?_
 conv=>whnf
 refine fF.kc (n b) rfl ?_;refine cx ?_;refine ⟨λh=>?_,λh=>?_⟩
 .rw [ak (ah h)]
  conv=>whnf
 .have h:=ag h;rw [ai h]
  conv=>whnf
  refine ⟨λc=>?_,λc=>?_⟩
  .rw [ak (ah c)]
   conv=>whnf
  .rw [ai (ag c)]
   conv=>whnf
theorem WZ (n:eF) (id:Int):er prog 67 [.eN (mD n), .ax .i64 id] (.ax .i64 (GX n.eM id)):=by
 have h:=ag0 n.eM id;refine fS func67 ?_;exact jf
theorem agY (n:Bool) (l:List eF) (id:Int) (D:l.length<=1048576) (r:gU l=true):
  er prog 66 [.a8 n 8 (ib l) .dm, .ax .i64 id, .eW 67 [] []] (.dn [.ax .i64 (il l id:Nat), .eD (o8 l id)]):=by
 have c:=BS l;refine fS func66 ?_
 conv=>whnf
 refine iE.gY (X:=Nat×Nat) (λx=>[(.ct 0, .bg (.a8 n 8 (ib l) .dm)),(.ct 1, .bg (.ax .i64 id)),(.ct 2, .bg (.eW 67 [] [])),(.ct 8, .bg (.ax .i64 l.length)),(.ct 9, .bg (.ax .i64 x.1)),(.ct 10, .bg (.ax .i64 x.2))]) 0
  (λx=>x.1<=x.2/\x.2<=l.length/\(∀ k (f:k<l.length),k<x.1->l[k].eM<id)/\(∀ k (f:k<l.length),x.2<=k->id<=l[k].eM)) (λx=>x.2 - x.1) dd (0,l.length) ⟨ar _,aq _,(λk _ h=>absurd h (jZ k)),(λk g d=>absurd g om)⟩ ⟨rfl,rfl,rfl,rfl,rfl,rfl,?_,rfl,rfl,rfl,?_,rfl,ae⟩ ?_
 .show gC.bg (b9.ax .i64 (ib l).length)=_;rw [c]
 .show gC.bg (b9.ax .i64 (ib l).length)=_;rw [c]
 rintro ⟨i,j⟩ ⟨g,d,m,o⟩;simp only at g d m o;dsimp only;refine gk ?_;refine ab (λh=>?_) λh=>?_
 .conv=>whnf
  refine ⟨dd,?_⟩;have v:IntKind.i64.wrap ((IntKind.u64.wrap (IntKind.i64.wrap ((i:Int)+j))).fdiv (2^min (Int.toNat 1) IntKind.u64.bits))=(((i+j) / 2:Nat):Int):=by
   have z:IntKind.i64.wrap ((i:Int)+j)=((i+j:Nat):Int):=by grind [fq]
   have A:IntKind.u64.wrap ((i+j:Nat):Int)=((i+j:Nat):Int):=by rw [IntKind.wrap_u64];omega
   rw [z,A,show (2:Int)^min (Int.toNat 1) IntKind.u64.bits=2 from rfl,Int.fdiv_eq_ediv_of_nonneg _ dd,fq om om];omega
  have s:(i+j) / 2<l.length:=om;have w:=BR s
  conv=>whnf
  rw [v];generalize E:(i+j) / 2=q at*;refine cx ?_;have y:=WZ l[q] id;have F:IntKind.i64.wrap ((q:Int)+1)=((q+1:Nat):Int):=by grind [fq]
  refine cx ?_;refine ⟨λa=>?_,λa=>?_⟩
  .have a:l[q].eM<id:=by
    grind [GX]
   conv=>whnf
   refine ⟨(q+1,j),⟨om,d,λk f b=>?_,o⟩,by grind,rfl,rfl,rfl,rfl,rfl,rfl,rfl,rfl,?_,af⟩
   .have b:k<q+1:=b
    by_cases e:k=q
    .subst e;exact a
    .have:=CX r (show k<q by omega) s;omega
   .exact ix
  .have a:id<=l[q].eM:=by
    grind [GX]
   conv=>whnf
   refine ⟨(i,q),⟨by show i<=q;omega,om,m,λk f b=>?_⟩,by grind,af⟩;have b:q<=k:=b
   by_cases e:q=k
   .subst e;exact a
   .have:=CX r (show q<k by omega) f;omega
 .have p:i=j:=om;subst p;have u:=Qi d m o
  conv=>whnf
  refine ab (λh=>?_) λh=>?_
  .have t:i<l.length:=om;have w:=BR t;have y:=WZ l[i] id;have B:o8 l id=decide (l[i].eM=id):=by
    grind [o8]
   refine cx ?_;grind [GX,b9.eD.injEq]
  .conv=>whnf
   grind [o8]
theorem MF (n:Bool) (l:List eF) (id:Int) (a:l.length<=1048576) (h:gU l=true):er prog 32 [.a8 n 8 (ib l) .dm, .ax .i64 id] (.dn [.ax .i64 (il l id:Nat), .eD (o8 l id)]):=by
 have b:=agY n l id a h;refine fS func32 ?_;exact jf
def mr (l:List Int):List (List b9):=l.map λz=>[.ax .i64 z]
theorem MD (l:List Int):(mr l).length=l.length:=by simp [mr]
theorem JD {l:List Int} {k:Nat} (h:k<l.length):(mr l)[k]? =some [.ax .i64 l[k]]:=by grind [mr]
theorem ag5 (l:List Int) (z:Int):mr l++[[b9.ax .i64 z]]=mr (l++[z]):=by simp [mr]
theorem aha (n:Bool) (l:List Int) (z:Int) (m:l.length<=1048576):∃ r:Int,(0<=r↔l.contains z=true)/\er prog 210 [.a8 n 1 (mr l) .dm, .ax .i64 z] (.ax .i64 r):=by
 have b:=MD l;refine ⟨(l.findIdx? (λx=>decide (z=x))).elim (-1) (λk=>(k:Int)),?_,?_⟩
 .cases h:l.findIdx? (λx=>decide (z=x)) with
  |none=>
   grind
  |some k=>
   grind [List.findIdx?_eq_some_iff_getElem]
 refine fS func210 ?_
 conv=>whnf
 refine iE.gY (λk:Nat=>[(.ct 0, .bg (.a8 n 1 (mr l) .dm)),(.ct 1, .bg (.ax .i64 z)),(.ct 7, .bg (.ax .i64 l.length)),(.ct 8, .bg (.ax .i64 k))]) 0
  (λk=>k<=l.length/\∀ j (c:j<l.length),j<k->z≠l[j]) (λk=>l.length - k) dd 0 ⟨ar _,λj _ h=>absurd h (jZ j)⟩ ⟨rfl,rfl,rfl,rfl,?_,af⟩ ?_
 .show gC.bg (b9.ax .i64 (mr l).length)=_;rw [b]
 rintro k ⟨f,g⟩;refine gk ?_;refine ab (λh=>?_) λh=>?_
 .have t:k<l.length:=om;have i:=JD t;refine cx ?_;refine ⟨λa=>?_,λa=>?_⟩
  .have a:z=l[k]:=by simpa using a
   have e:l.findIdx? (λx=>decide (z=x))=some k:=by
    grind [List.findIdx?_eq_some_iff_getElem]
   rw [e];exact fu
  .have a:z≠l[k]:=by simpa using a
   conv=>whnf
   refine ⟨k+1,⟨om,λj c d=>?_⟩,by grind,rfl,rfl,rfl,rfl,rfl,rfl,?_,rfl,ae⟩
   .grind
   .exact ix
 .have e:l.findIdx? (λx=>decide (z=x))=none:=by
   grind [List.getElem_of_mem]
  rw [e];exact fu
theorem GY (n:Bool) (l:List Int) (z:Int) (h:l.length<=1048576):er prog 139 [.a8 n 1 (mr l) .dm, .ax .i64 z] (.eD (l.contains z)):=by
 obtain ⟨r,a,b⟩:=aha n l z h;refine fS func139 ?_;refine cx ?_;simp_all
theorem W1 (n:Bool) (l:List eF) (id:Int) (q:l.length<=1048576) (k:gU l=true):
  er prog 31 [.a8 n 8 (ib l) .dm, .ax .i64 id] (.a8 (decide (iZ l l.length id=[])) 1 (mr (iZ l l.length id)) .dm):=by
 have g:=BS l;have p:=λz=>MF n l z q k
 refine ic func31 ?_
 conv=>whnf
 refine iE.CI 5 3 1 rfl rfl (.inr rfl) ?_;refine iE.gY (X:=List Int×Int) (λx=>[(.ct 0, .bg (.a8 n 8 (ib l) .dm)),(.ct 1, .bg (.ax .i64 x.2)),(.ct 5, .bg (.a8 (decide (x.1=[])) 1 (mr x.1) (.je 2))),(.eT 2, .eU 3 1 x.1.length)]) 3
  (λx=>x.1.length<=l.length/\iZ l l.length id=x.1++iZ l (l.length - x.1.length) x.2) (λx=>l.length - x.1.length) dd ([],id) ⟨Nat.zero_le _,by trivial⟩ ⟨rfl,rfl,rfl,rfl,rfl,rfl,rfl,rfl,trivial⟩ ?_
 rintro ⟨a,z⟩ ⟨j,b⟩;simp only at j b;dsimp only;have e:=MD a;refine gk ?_;rw [e,g];refine ab (λh=>?_) λh=>?_
 .have t:a.length<l.length:=om;obtain ⟨f,m⟩:∃ f,l.length - a.length=f+1:=⟨l.length - a.length - 1,om⟩;rw [m,iZ] at b;have d:=CY l z
  conv=>whnf
  refine fF.kc (p z) rfl ?_;cases c:jN l z with
  |none=>
   rw [c] at b d;simp only [aH] at b;rw [b,d];exact fu
  |some nd=>
   rw [c] at b d;simp only at b;obtain ⟨_,_,r,i⟩:=tg c;have o:=BR r;rw [i] at o;rw [d,dJ];refine cx ?_;refine ⟨λh=>?_,λh=>?_⟩
   .have h:nd.jj=-1:=by simpa using h
    rw [ak h,aH] at b;rw [b];exact fu
   .have h:nd.jj≠-1:=by simpa using h
    rw [ai h] at b;refine cx ?_;refine ⟨⟨e.symm,ji (by grind) dd⟩,?_⟩
    conv=>whnf
    refine ⟨(a++[nd.jj],nd.jj),⟨by grind,?_⟩,by grind,rfl,rfl,rfl,rfl,?_,rfl,?_,rfl,ae⟩
    .grind
    .show gC.bg (b9.a8 (decide (a=[]) && false) 1 (mr a++[[b9.ax .i64 nd.jj]]) _)=gC.bg (b9.a8 (decide (a++[nd.jj]=[])) 1 (mr (a++[nd.jj])) _);rw [cf,aJ (by simp),ag5]
    .show gC.eU _ 1 ((mr a).length+1)=gC.eU _ 1 (a++[nd.jj]).length;simp_all
 .rw [show l.length - a.length=0 by omega,iZ,aH] at b;rw [b];exact fu
theorem JE (i:Bool) (l:List eF) (id:Int) (b:∀ n∈l,jv n.eM) (a:l.length<=1048576):
  er prog 11 [.a8 i 8 (ib l) .dm, .ax .i64 id] (.a8 (decide (mT l id=[])) 1 (mr (mT l id)) .dm):=by
 have k:=EI i l b a;have h:=W1 i l id a;unfold mT;refine ic func11 ?_;refine cx ?_;cases c:gU l with
 |false=>
  refine cx ?_;exact mR.kd _ _ _
 |true=>
  rw [ak rfl];refine cx ?_;refine fF.kc (h c) rfl ?_;exact fu
theorem agZ (n:eF):(mD n).length=8:=rfl
theorem ag2 (l:List eF):∀ e∈ib l,e.length=8:=λe h=>by
 obtain ⟨n,_,rfl⟩:=aE.1 h;rfl
theorem ME (l:List eF):(ib l).flatten.length=l.length*8:=by
 induction l with
 |nil=>rfl
 |cons n l i=>grind [ib,agZ]
theorem ag8 (l m:List eF):(ib (l++m)).flatten=(ib l).flatten++(ib m).flatten:=by grind [ib]
theorem ag9 (l:List eF):kT (ib l).flatten=true:=by
 induction l with
 |nil=>rfl
 |cons n l i=>exact i
theorem ag3 (l:List eF) (k:Nat):(ib l).take k=ib (l.take k):=by unfold ib;rw [cr]
theorem ag1 (l:List eF) (k:Nat):(ib l).drop k=ib (l.drop k):=by unfold ib;rw [jV]
theorem WW {X S Z:List b9} {x s y:Nat} (a:X.length=x) (h:S.length=s) (b:y=x+s):List.take x (X++Z)++List.take s S++List.drop y (X++Z)=X++S++Z.drop s:=by
 subst a h b;simp_all
theorem ahc (l o:List eF) (i u:Nat) (a:i<=u) (b:u<=l.length):(ib (l.take i++o++l.drop u)).flatten=(ib (l.take i)).flatten++(ib o).flatten++(ib (l.drop u)).flatten/\
  (ib (l.take i++o++l.drop u)).length=i+o.length+(l.length - u)/\(ib (l.take i++o++l.drop u)).flatten.length=(i+o.length+(l.length - u))*8:=by
 have h:(l.take i++o++l.drop u).length=i+o.length+(l.length - u):=by grind
 grind [ag8,BS,ME]
theorem EG (J K:Bool) (l o:List eF) (i u:Nat) (F:i<=u) (I:u<=l.length) (P:l.length<=1048576) (Q:o.length<=1):
  er prog 283 [.a8 J 8 (ib l) .dm, .ax .i64 i, .ax .i64 u, .a8 K 8 (ib o) .dm] (.a8 false 8 (ib (l.take i++o++l.drop u)) .dm):=by
 have h:=BS l;have g:=BS o;have y:IntKind.i64.wrap (IntKind.i64.wrap (IntKind.i64.wrap ((i:Int)+o.length)+l.length) - (u:Int))=((i+o.length+(l.length - u):Nat):Int):=by
  rw [fq (x:=(i:Int)+o.length) om om,fq (x:=(i:Int)+o.length+l.length) om om,fq om om];omega
 obtain ⟨a,H,m⟩:=ahc l o i u F I;have n:=ag9 (l.take i++o++l.drop u);have s:=ag2 (l.take i++o++l.drop u);refine fS func283 ?_
 conv=>whnf
 rw [h,g,y];refine ⟨⟨om,rfl,ji om dd⟩,?_⟩
 conv=>whnf
 refine ⟨by rw [h];omega,?_⟩
 conv=>whnf
 generalize O:i+o.length+(l.length - u)=N at*;generalize k:jM (N:Int).toNat _=Z;have f:Z.length=N*8:=by rw [<-k,wK];rfl
 refine cx ?_;have p:min (List.take (i:Int).toNat (ib l)).length (N:Int).toNat=i:=by grind
 rw [p];refine cx ?_;have b:=ME (l.take i);have j:=ME o;have c:=ME (l.drop u);rw [aT] at b;rw [aV] at c;have w:List.take (i:Int).toNat (ib l)=ib (l.take i):=by grind [ag3]
 have q:List.drop (u:Int).toNat (ib l)=ib (l.drop u):=by grind [ag1]
 rw [w];generalize z:(ib (l.take i)).flatten=A at*;generalize D:(ib o).flatten=B at*;have L:List.take 0 Z++List.take (i*8) A++List.drop (0+i*8) Z=A++Z.drop (i*8):=by
  grind
 rw [L];have r:min (ib o).length ((N:Int).toNat - (i:Int).toNat)=o.length:=om;have t:IntKind.i64.wrap ((i:Int)+(o.length:Nat))=((i+o.length:Nat):Int):=by rw [fq om om];rfl
 refine ⟨by grind,?_⟩
 conv=>whnf
 rw [r,t,WW (by rw [b];omega) j om];have d:(List.drop (o.length*8) (List.drop (i*8) Z)).length=(l.length - u)*8:=by grind
 generalize e:List.drop (o.length*8) (List.drop (i*8) Z)=R at*;refine ⟨⟨om,om⟩,?_⟩
 conv=>whnf
 refine ⟨by rw [h];omega,?_⟩
 conv=>whnf
 refine ⟨by grind,?_⟩
 conv=>whnf
 rw [q];have v:min (ib (l.drop u)).length ((N:Int).toNat - ((i+o.length:Nat):Int).toNat)=l.length - u:=by grind
 rw [v,WW (by grind) c om,bM (l:=R) om,aH];refine cx ?_;clear b j c p r t v w q d e k f;rw [<-a];generalize ib (l.take i++o++l.drop u)=E at*;refine .CJ rfl H s (cE om) ?_ n;grind
def WX (u:Aj):b9:= .eN (.eD u.Qf:: .eD u.Qg::mD u.xZ)
theorem W0 (n:Bool) (l:List eF) (a:l.length<=1048576):er prog 282 [.a8 n 8 (ib l) .dm] (.a8 false 8 (ib l) .dm):=by
 have e:=BS l;have h:=EG n true l [] l.length l.length (aq _) (aq _) a (ar _);rw [aN,cR,aH,aH] at h;have h:=h.Ut (args':=[.a8 n 8 (ib l) .dm, .ax .i64 (l.length:Nat), .ax .i64 (l.length:Nat), .a8 true 1 [] .dm]) (.fj (.fC _) (.fj (.fC _) (.fj (.fC _) (.fj (.kd _ _ _) .kv))));refine fS func282 ?_
 conv=>whnf
 rw [e];exact jf
theorem MB (i:Bool) (l:List eF) (o:e7) (F:∀ n∈l,jv n.eM) (K:l.length<=1000000) (E:qf o):
  er prog 248 [.a8 i 8 (ib l) .dm,rc o] (.dn [.a8 false 8 (ib (iF l o)) .dm,WX (pw l o)]):=by
 have D:=BS l;have A:=EI i l F om;have H:=EH o E;have I:=W0 i l om;refine fS func248 ?_;have d:lH l o=(gU l && (g4 o && !(decide (o.iT=1) && GK l o))):=rfl;unfold iF pw;generalize lH l o=m at*;refine cx ?_;cases g:gU l with
 |false=>
  rw [g] at d;subst d;exact fu
 |true=>
 have j:=λJ=>W1 i l J om g
 have e:=λz=>MF i l z om g
 rw [g,bo] at d;cases q:g4 o with
 |false=>
  rw [q] at d;subst d;refine cx ?_;rw [q];exact fu
 |true=>
 rw [q,bo] at d;refine cx ?_;rw [q];refine cx ?_;have x:=Jp l l.length o.iW;have B:=GY (decide (iZ l l.length o.iW=[])) (iZ l l.length o.iW) o.eO om;refine ⟨λh=>?_,λh=>?_⟩
 .have k:o.iT=1:=by simpa using h
  rw [aO k,bo] at d;unfold GK at d
  conv=>whnf
  refine fz func284 ?_
  conv=>whnf
  refine ⟨λh=>?_,λh=>?_⟩
  .have r:o.iW=o.eO:=by simpa using h
   rw [aO r] at d;have d:m=false:=d;subst d;exact fu
  .have r:o.iW≠o.eO:=by simpa using h
   rw [aJ r,Bool.false_or] at d
   conv=>whnf
   refine ⟨_,rfl,j o.iW,?_⟩;refine cx ?_;generalize (iZ l l.length o.iW).contains o.eO=y at*;refine cx ?_;refine ⟨λh=>?_,λh=>?_⟩
   .have h:y=true:=h;rw [h] at d;have d:m=false:=d;subst d;exact fu
   .have h:y=false:=h;rw [h] at d;have d:m=true:=d;subst d;rw [ak rfl,ak rfl]
    conv=>whnf
    refine fF.kc (e o.eO) rfl ?_;have p:=Jr l o.eO;cases f:jN l o.eO with
    |none=>
     have b:o8 l o.eO=false:=by rw [CY,f];rfl
     have u:lB l o.eO=il l o.eO:=by grind [lB]
     have a:=EG i false l [mj (tj o.eO) o] (il l o.eO) (il l o.eO) (aq _) p om (aq _);rw [b,u];unfold mj at a ⊢;rw [ak k] at a ⊢;refine cx ?_;refine ⟨λ_=>?_,λh=>absurd h (by rw [k];decide)⟩;exact fu
    |some nd=>
     obtain ⟨_,t,v,c⟩:=tg f;have s:=BR v;rw [c] at s;have b:o8 l o.eO=true:=by rw [CY,f];rfl
     have u:lB l o.eO=il l o.eO+1:=by grind [lB]
     have w:IntKind.i64.wrap ((il l o.eO:Int)+1)=((il l o.eO+1:Nat):Int):=by grind [fq]
     have a:=EG i false l [mj nd o] (il l o.eO) (il l o.eO+1) (aZ _) om om (aq _);rw [b,u];unfold mj at a ⊢;rw [ak k] at a ⊢;refine cx ?_;rw [w];refine ⟨λ_=>?_,λh=>absurd h (by rw [k];decide)⟩;exact fu
 .have k:o.iT≠1:=by simpa using h
  rw [aJ k] at d;have d:m=true:=d;subst d;rw [ak rfl,ak rfl]
  conv=>whnf
  refine fF.kc (e o.eO) rfl ?_;have p:=Jr l o.eO;cases f:jN l o.eO with
  |none=>
   have b:o8 l o.eO=false:=by rw [CY,f];rfl
   have u:lB l o.eO=il l o.eO:=by grind [lB]
   have a:=EG i false l [mj (tj o.eO) o] (il l o.eO) (il l o.eO) (aq _) p om (aq _);rw [b,u];unfold mj at a ⊢;rw [ai k] at a ⊢;refine cx ?_;refine ⟨λh=>absurd h (by simpa using k),λ_=>?_⟩;exact fu
  |some nd=>
   obtain ⟨_,t,v,c⟩:=tg f;have s:=BR v;rw [c] at s;have b:o8 l o.eO=true:=by rw [CY,f];rfl
   have u:lB l o.eO=il l o.eO+1:=by grind [lB]
   have w:IntKind.i64.wrap ((il l o.eO:Int)+1)=((il l o.eO+1:Nat):Int):=by grind [fq]
   have a:=EG i false l [mj nd o] (il l o.eO) (il l o.eO+1) (aZ _) om om (aq _);rw [b,u];unfold mj at a ⊢;rw [ai k] at a ⊢;refine cx ?_;rw [w];refine ⟨λh=>absurd h (by simpa using k),λ_=>?_⟩;exact fu
open Go.RowKit Go.Am
noncomputable def ahd (c:Code):List (Code×Code):=
 Code.rec (motive:=λ_=>List (Code×Code)) [] (λ_ _ _=>[]) (λ_ _ x y=>x++y) (λ_ _ _ x y=>x++y) (λ_ _ x=>x) (λ_ x=>x) (λ_ _ x y _ _=>[(x,y)]) (λ_=>[]) (λ_ x=>x) (λ_=>[]) (λ_=>[]) [] (λ_=>[]) c
noncomputable def G2 (fn:Func) (i:Nat):Code×Code:=match fn.body with
 |some c=>match p9 (ahd c) i with|some x=>x|none=>(.skip, .skip)
 |none=>(.skip, .skip)
def qg (l:List (List UInt8)):List (List b9):=l.map λt=>[.cp t]
theorem JF (l:List (List UInt8)):(qg l).length=l.length:=by simp [qg]
theorem W3 {l:List (List UInt8)} {k:Nat} (h:k<l.length):(qg l)[k]? =some [.cp l[k]]:=by grind [qg]
def nO (m:lY):rD:=m.map λe=>(e.1, .cp e.2.1, .eN (mD e.2.2))
theorem MH (k:List UInt8):∀ m:lY,uZ (.cp k) (nO m)=(jJ k m).map λn=> .eN (mD n)
 |[]=>rfl
 |e::m=>by
  show (match qC (.cp e.2.1) (.cp k) with|true=>some _|false=>uZ (.cp k) (nO m))=_;rw [jJ,MH k m];grind [qC]
theorem Qy (k:List UInt8) (n:eF):∀ m:lY,ug (.cp k) (.eN (mD n)) (nO m)=(x4 k n m).map nO
 |[]=>rfl
 |e::m=>by
  show (match qC (.cp e.2.1) (.cp k) with|true=>some _|false=>match ug (.cp k) (.eN (mD n)) (nO m) with|some l=>some _|none=>none)=_;rw [x4,Qy k n m];simp only [qC]
  by_cases h:e.2.1=k
  .rw [aO h,ak h];rfl
  .rw [aJ h,ai h];cases x4 k n m<;>rfl
theorem W2 (k:List UInt8):∀ m:lY,Bz (.cp k) (nO m)=nO (EA k m)
 |[]=>rfl
 |e::m=>by
  show (match qC (.cp e.2.1) (.cp k) with|true=>nO m|false=>_::Bz (.cp k) (nO m))=_;rw [EA,W2 k m];simp only [qC]
  by_cases h:e.2.1=k
  .simp_all
  .rw [aJ h,ai h];rfl
theorem G1 (m:lY):∀ e∈nO m,sw .string e.2.1:=λe h=>by
 obtain ⟨x,_,rfl⟩:=aE.1 h;rfl
theorem W5 (x:Nat×lY) (n:eF):Eo x.1 (nO x.2) (.cp n.iU) (.eN (mD n)) ((x4 n.iU n x.2).map nO)= .jq (Ao x n).1 (nO (Ao x n).2):=by
 unfold Ao;cases x4 n.iU n x.2 with
 |some m=>rfl
 |none=>
  show Lb.jq (x.1+1) (nO x.2++[_])=Lb.jq (x.1+1) (nO (x.2++[_]));grind [nO]
def W4 (r:Option eF):Int:=(r.map (·.eM)).getD 0
theorem Qz (i:Bool) (l:List eF) (dir:Int) (r:l.length<=1048576):
  fF prog 47 [.a8 i 8 (ib l) .dm, .ax .i64 dir] (eJ []) 0
   (gP 0 λx es=>x= .wR (nb l dir).1 (nO (nb l dir).2)/\es=[]):=by
 have e:=BS l;refine fz func47 ?_
 conv=>whnf
 refine qu.Ja rfl ?_
 conv=>whnf
 refine fz func96 ?_
 conv=>whnf
 refine iE.Jb [(5, .c8 2 0)] ⟨rfl,rfl,trivial⟩ rfl rfl ?_;refine fz func164 ?_
 conv=>whnf
 refine iE.gY (λk:Nat=>[(.ct 0, .bg (.gG 11)),(.ct 1, .bg (.c8 6 0)),(.ct 2, .bg (.c8 7 0)),(.ct 6, .bg (.a8 i 8 (ib l) .dm)),(.ct 7, .bg (.ax .i64 l.length)),(.ct 8, .bg (.ax .i64 k)),
  (.ay 1, .iD (.jq (nb (l.take k) dir).1 (nO (nb (l.take k) dir).2))),(.ay 2, .dc 143 [.gi 1]),(.ay 6, .dc 25 [.a8 i 8 (ib l) .dm]),(.ay 7, .dc 3 [.ax .i64 dir]),
  (.ay 11, .kn .ready none 36 [(5, .c8 2 0)] [13] (G2 f47 0).1 (G2 f47 0).2)]) 12
  (λk=>k<=l.length) (λk=>l.length - k) dd 0 (ar _) ⟨rfl,rfl,rfl,rfl,rfl,rfl,rfl,rfl,?_,af⟩ ?_
 .show gC.bg (b9.ax .i64 (ib l).length)=_;rw [e]
 rintro k q;refine gk ?_;refine ab (λh=>?_) λh=>?_
 .have t:k<l.length:=om;have p:=BR t;have s:nb (l.take (k+1)) dir=Al dir (nb (l.take k) dir) l[k]:=by grind [nb,List.take_succ_eq_append_getElem]
  have w:IntKind.i64.wrap ((k:Int)+1)=((k+1:Nat):Int):=by grind [fq]
  unfold Al na at s;generalize o:nb (l.take k) dir=S at*;generalize b:nb (l.take (k+1)) dir=j at*;refine cx ?_;generalize l[k]=a at*;have f:=G0 a.lA
  conv=>whnf
  refine ⟨λh=>?_,λh=>?_⟩
  .have h:a.jj=dir:=by simpa using h
   rw [aO h,bo] at s;refine cx ?_;refine ⟨λh=>?_,λh=>?_⟩
   .have h:m9 a.lA=true:=h;rw [h,ak rfl] at s
    conv=>whnf
    refine F9.Jd jy m8 rfl rfl rfl (λu=>?_)
    conv=>whnf
    refine qu.Bw jy (kt:=9) (et:=64) (d:= .string) eI eI rfl rfl eI rfl rfl (.inl rfl) rfl (G1 _) ((jJ a.iU S.2).map λn=> .eN (mD n)) (MH a.iU S.2) ?_;cases m:jJ a.iU S.2 with
    |none=>
     have c:GO a S.2=true:=by grind [GO]
     rw [c,ak rfl] at s;rw [bV]
     conv=>whnf
     refine qu.pu (kt:=9) (et:=64) (d:= .string) eI eI (.inl rfl) rfl rfl rfl rfl (G1 _) ((x4 a.iU a S.2).map nO) (Qy a.iU a S.2) ?_
     conv=>whnf
     refine ⟨k+1,om,by grind,rfl,rfl,rfl,rfl,rfl,rfl,rfl,rfl,rfl,rfl,?_,rfl,?_,af⟩
     .exact ix
     .rw [b,s];exact congrArg gC.iD (W5 S a)
    |some old=>
     have c:GO a S.2=!ke a.lA old.lA:=by grind [GO]
     have g:=Qx a.lA old.lA;rw [bz];refine cx ?_;refine ⟨λh=>?_,λh=>?_⟩
     .have h:(!ke a.lA old.lA)=true:=h;rw [c,h,ak rfl] at s
      conv=>whnf
      refine qu.pu (kt:=9) (et:=64) (d:= .string) eI eI (.inl rfl) rfl rfl rfl rfl (G1 _) ((x4 a.iU a S.2).map nO) (Qy a.iU a S.2) ?_
      conv=>whnf
      refine ⟨k+1,om,by grind,rfl,rfl,rfl,rfl,rfl,rfl,rfl,rfl,rfl,rfl,?_,rfl,?_,af⟩
      .exact ix
      .rw [b,s];exact congrArg gC.iD (W5 S a)
     .have h:(!ke a.lA old.lA)=false:=h;rw [c,h,ai dd] at s;subst s
      conv=>whnf
      refine ⟨k+1,om,by grind,rfl,rfl,rfl,rfl,rfl,rfl,rfl,rfl,rfl,rfl,?_,rfl,?_,af⟩
      .exact ix
      .rw [b];rfl
   .have h:m9 a.lA=false:=h;rw [h,ai dd] at s;subst s
    conv=>whnf
    refine ⟨k+1,om,by grind,rfl,rfl,rfl,rfl,rfl,rfl,rfl,rfl,rfl,rfl,?_,rfl,?_,af⟩
    .exact ix
    .rw [b];rfl
  .have h:a.jj≠dir:=by simpa using h
   rw [aJ h,cC,ai dd] at s;subst s
   conv=>whnf
   refine ⟨k+1,om,by grind,rfl,rfl,rfl,rfl,rfl,rfl,rfl,rfl,rfl,rfl,?_,rfl,?_,af⟩
   .exact ix
   .rw [b];rfl
 .obtain rfl:k=l.length:=om;rw [aN]
  conv=>whnf
  exact ⟨_,_,⟨rfl,rfl⟩,rfl,⟨1,ar _,rfl,rfl⟩,ae⟩
theorem MG (i:Bool) (l:List eF) (dir:Int) (s:List UInt8) (b:∀ n∈l,jv n.eM) (a:l.length<=1048576):
  er prog 133 [.a8 i 8 (ib l) .dm, .ax .i64 dir, .cp s] (.dn [.ax .i64 (W4 (iB l dir s)), .eD (iB l dir s).isSome]):=by
 have c:=EI i l b a;have h:=Qz i l dir a;unfold iB;refine fS func133 ?_;refine cx ?_;cases gU l with
 |false=>
  exact fu
 |true=>
  rw [ak rfl];refine cx ?_;refine fF.I9 (es:=[]) trivial rfl (ar _) rfl h ?_;rintro x es ⟨rfl,rfl⟩;generalize nb l dir=S
  conv=>whnf
  refine qu.Bw jy (kt:=9) (et:=64) (d:= .string) eI eI rfl rfl eI rfl rfl (.inl rfl) rfl (G1 _) ((jJ s S.2).map λn=> .eN (mD n)) (MH s S.2) ?_;cases f:jJ s S.2 with
  |none=>
   rw [bV];exact fu
  |some nd=>
   rw [bz];exact fu
theorem JG (nil g:Bool) (l:List eF) (names:List (List UInt8)) (i:∀ n∈l,jv n.eM) (p:l.length<=1048576) (s:names.length<=1048576):
  er prog 208 [.a8 nil 8 (ib l) .dm, .a8 g 1 (qg names) .dm] (.dn [.ax .i64 (jR l names).1, .ax .i64 (jR l names).2]):=by
 have e:=JF names;refine fS func208 ?_
 conv=>whnf
 refine iE.gY (X:=Nat×Int) (λx=>[(.ct 0, .bg (.a8 nil 8 (ib l) .dm)),(.ct 11, .bg (.a8 g 1 (qg names) .dm)),(.ct 12, .bg (.ax .i64 names.length)),(.ct 13, .bg (.ax .i64 x.1)),(.ct 6, .bg (.ax .i64 x.2))]) 0
  (λx=>x.1<=names.length/\jv x.2/\jR l names=jz l x.2 (names.drop x.1)) (λx=>names.length - x.1) dd (0,0) ⟨ar _,by unfold jv;decide,rfl⟩ ⟨rfl,rfl,rfl,rfl,?_,af⟩ ?_
 .show gC.bg (b9.ax .i64 (qg names).length)=_;rw [e]
 rintro ⟨k,t⟩ ⟨j,d,a⟩;simp only at j d a;dsimp only;have r:=w7 t d;refine gk ?_;refine ab (λh=>?_) λh=>?_
 .have b:k<names.length:=om;have q:=W3 b;have o:=MG nil l t names[k] i p;rw [aY b,jz] at a;refine cx ?_;cases f:iy t with
  |false=>
   rw [f,ai dd] at a;rw [a];exact jf
  |true=>
   rw [f,ak rfl] at a;refine cx ?_;cases c:iB l t names[k] with
   |none=>
    rw [c] at a;simp only at a;rw [a];exact jf
   |some nd=>
    have m:=i nd (wX c).1;rw [c] at a;simp only at a;rw [show (some nd).isSome=true from rfl,show W4 (some nd)=nd.eM from rfl];refine kw ?_;refine ⟨(k+1,nd.eM),⟨b,m,a⟩,by grind,rfl,rfl,rfl,rfl,rfl,rfl,?_,af⟩;exact ix
 .rw [bM om,jz] at a;rw [a]
  conv=>whnf
open Go.Shelf Go.Proofs
def W7:Go.Shelf.Ren:=⟨fun|6=>166|15=>219|14=>218|28=>257|29=>258|20=>249|21=>250|22=>251|23=>252|24=>253|25=>254|26=>255|27=>256|46=>285|47=>286|48=>287|49=>288|50=>289|57=>307|n=>n,fun|22=>45|24=>9|25=>204|3=>3|39=>228|0=>0|53=>318|55=>407|4=>4|46=>400|45=>399|50=>105|5=>5|9=>9|66=>431|70=>308|76=>443|77=>444|n=>n,fun|n=>n⟩
theorem W6:Go.Proofs.SlLaysF.n6 prog W7:={
 mixed:=by kernel_rfl
 f6:=⟨f166.name,dd,func166.trans (congrArg some (by kernel_rfl))⟩
 f14:=⟨f218.name,dd,func218.trans (congrArg some (by kernel_rfl))⟩
 f15:=func219.trans (congrArg some (by kernel_rfl))
 f20:=⟨f249.name,dd,func249.trans (congrArg some (by kernel_rfl))⟩
 f21:=⟨f250.name,dd,func250.trans (congrArg some (by kernel_rfl))⟩
 f22:=⟨f251.name,dd,func251.trans (congrArg some (by kernel_rfl))⟩
 f23:=⟨f252.name,dd,func252.trans (congrArg some (by kernel_rfl))⟩
 f24:=⟨f253.name,dd,func253.trans (congrArg some (by kernel_rfl))⟩
 f25:=⟨f254.name,dd,func254.trans (congrArg some (by kernel_rfl))⟩
 f26:=⟨f255.name,dd,func255.trans (congrArg some (by kernel_rfl))⟩
 f27:=⟨f256.name,dd,func256.trans (congrArg some (by kernel_rfl))⟩
 f28:=func257.trans (congrArg some (by kernel_rfl))
 f29:=func258.trans (congrArg some (by kernel_rfl))
 f46:=⟨f285.name,dd,func285.trans (congrArg some (by kernel_rfl))⟩
 f47:=func286.trans (congrArg some (by kernel_rfl))
 f48:=func287.trans (congrArg some (by kernel_rfl))
 f49:=⟨f288.name,dd,func288.trans (congrArg some (by kernel_rfl))⟩
 f50:=⟨f289.name,dd,func289.trans (congrArg some (by kernel_rfl))⟩
 f57:=⟨f307.name,dd,func307.trans (congrArg some (by kernel_rfl))⟩
 t0:=underlying0
 a0:=isAgg0
 z0:=sizeOf0
 v0:=zeroValue0
 t3:=underlying3
 a3:=isAgg3
 z3:=sizeOf3
 v3:=zeroValue3
 t4:=underlying4
 a4:=isAgg4
 z4:=sizeOf4
 v4:=zeroValue4
 t5:=underlying5
 a5:=isAgg5
 z5:=sizeOf5
 v5:=zeroValue5
 t9:=underlying9
 a9:=isAgg9
 z9:=sizeOf9
 v9:=zeroValue9
 t22:=underlying45
 a22:=isAgg45
 z22:=sizeOf45
 v22:=zeroValue45
 a24:=isAgg9
 z24:=sizeOf9
 t25:=underlying204
 a25:=isAgg204
 z25:=sizeOf204
 v25:=zeroValue204
 t39:=underlying228
 a39:=isAgg228
 z39:=sizeOf228
 v39:=zeroValue228
 t45:=underlying399
 a45:=isAgg399
 z45:=sizeOf399
 v45:=zeroValue399
 t46:=underlying400
 a46:=isAgg400
 z46:=sizeOf400
 v46:=zeroValue400
 t50:=underlying105
 a50:=isAgg105
 z50:=sizeOf105
 v50:=zeroValue105
 t53:=underlying318
 a53:=isAgg318
 z53:=sizeOf318
 v53:=zeroValue318
 t55:=underlying407
 a55:=isAgg407
 z55:=sizeOf407
 v55:=zeroValue407
 t66:=underlying431
 a66:=isAgg431
 z66:=sizeOf431
 v66:=zeroValue431
 t70:=underlying308
 a70:=isAgg308
 z70:=sizeOf308
 v70:=zeroValue308
 t76:=underlying443
 a76:=isAgg443
 z76:=sizeOf443
 v76:=zeroValue443
 t77:=underlying444
 a77:=isAgg444
 z77:=sizeOf444
 v77:=zeroValue444}
open Go.Shelf Go.RowKit Go.Lib Go.Sort Go.Am
def JH (a b:List UInt8):Int:=if pQ a b=true then -1 else if pQ b a=true then 1 else 0
theorem ahf (a b:List UInt8):decide (JH a b<0)=pQ a b:=by
 grind [JH]
theorem ahg (a b:List UInt8) (h:a.length<=1048576) (c:b.length<=1048576):er prog 100 [.cp a, .cp b] (.ax .i64 (JH a b)):=by
 have d:=WS a b h c;have e:=WS b a c h;refine fS func100 ?_;unfold JH;refine cx ?_;cases pQ a b with
 |true=>
  exact fu
 |false=>
  refine cx ?_;cases pQ b a with
  |true=>
   exact fu
  |false=>
   exact fu
abbrev C8:={s:List UInt8 // s.length<=1048576}
instance:Inhabited C8:=⟨⟨[],ar _⟩⟩
def rN (s:C8):Value:= .string ⟨s.1.toArray⟩
def G3 (a b:C8):Int:=JH a.1 b.1
theorem MI (a b:C8):ltOf G3 a b=pQ a.1 b.1:=ahf a.1 b.1
theorem ahm:SWO (ltOf G3) where
 irrefl x:=by rw [MI];exact Wb _
 trans x y z h1 h2:=by grind [MI,Ml]
 ntrans x y z h1 h2:=by
  grind [MI,Ml,P8]
theorem ahn {w w':World} (h:w'.heap=w.heap) (a:w'.tape=w.tape) (b:w'.drawn=w.drawn) (c:w'.os=w.os) (d:w'.output=w.output):w'=w:=by
 cases w;cases w';simp_all
theorem ahe {w w':World} (h:Go.RowKit.Below w.heap.size w w') (d:w.drawn<=w'.drawn):∃ q o,w'=grow (w.drewN q) o:=by
 refine ⟨w'.drawn - w.drawn,w'.heap.extract w.heap.size w'.heap.size,ahn ?_ h.tape ?_ h.os h.output⟩
 .show w'.heap=w.heap++w'.heap.extract w.heap.size w'.heap.size;apply Array.ext_getElem?;intro k;rw [Array.getElem?_append];split
  .rename_i a;exact h.block k a
  grind
 .show w'.drawn=w.drawn+(w'.drawn - w.drawn);omega
theorem ahk {ex:Nat->Prop} {B c:Nat} {w:World} {arr:List Value} {T:TypeId} {z:Nat×Nat} (hB:B<=c\/ex c) (hs:B<=w.heap.size) (a1:w.heap[c]? =some (.cells arr.toArray T z)) (m:Nat) (os:Array Obj) (dk:Array C8):
  Am.sV ex B w (sortWorld rN w c 0 m dk os):=by
 have hget:∀ k,k<B->(sortWorld rN w c 0 m dk os).heap[k]? =(putRow rN (Sort.ahead w m) c 0 dk).heap[k]?:=λk hk=>by
  show ((putRow rN (Sort.ahead w m) c 0 dk).heap++os)[k]? =_;have:k<(putRow rN (Sort.ahead w m) c 0 dk).heap.size:=by
   show k<(w.heap.modify c _).size;grind
  grind
 refine ⟨rfl,rfl,rfl,?_,λk hk hn=>?_,λk hk=>?_⟩
 .show w.heap.size<=((w.heap.modify c _)++os).size;simp_all
 .rw [hget k hk];show (w.heap.modify c _)[k]? =_;grind
 .unfold World.shape?;rw [hget k hk];show (match (w.heap.modify c _)[k]? with|some (.cells cs e _)=>some (e,cs.size)|_=>none)=_;grind [putCells,onCells]
theorem ahh (blk off size:Nat) (w:World) (hG:∀ m os dk,sX prog (sortWorld rN w blk off m dk os)):CmpLays1 prog 100 #[] rN G3 blk off size w:=by
 intro m os dk _ x y;have h:=ahg x.1 y.1 x.2 y.2;refine (h.LI _ (λ_ _=>False) [rN x,rN y] (hG _ _ _) (λ_ _ h=>h.elim) rfl (λi z v hz hv=>?_)).mono ?_
 .match i,hz,hv with
  |0,hz,hv=>cases hz;cases hv;exact .lW rfl
  |1,hz,hv=>cases hz;cases hv;exact .lW rfl
  |i+2,hz,_=>cases hz
 .rintro e w' ⟨v,F',rfl,⟨h1,h2⟩,_,_,h5⟩;refine ⟨?_,ahe h1 h2⟩;cases h5;rfl
def vM (l:List (List UInt8)):List b9:=l.map λt=> .cp t
theorem W8 (l:List (List UInt8)):(qg l).flatten=vM l:=by
 induction l with
 |nil=>rfl
 |cons a l i=>show [b9.cp a]++(qg l).flatten=_;rw [i];rfl
theorem W9:∀ l:List (List UInt8),kT (vM l)=true
 |[]=>rfl
 |_::l=>W9 l
def QA (l:List (List UInt8)) (h:∀ t∈l,t.length<=1048576):List C8:=l.attach.map λt=>⟨t.1,h t.1 t.2⟩
theorem ahi (l:List (List UInt8)) (h:∀ t∈l,t.length<=1048576):(QA l h).map (·.1)=l:=by
 unfold QA;simp_all
theorem ahl {d d':Array C8} (hp:PermIn 0 d.size d d') (hs:SortedIn (ltOf G3) 0 d.size d'):d'.toList.map (·.1)=oZ (d.toList.map (·.1)):=by
 obtain ⟨h1,_,h3⟩:=hp;have e1:d.extract 0 d.size=d:=Array.extract_size;have e2:d'.extract 0 d.size=d':=by simp_all
 rw [e1,e2] at h3;refine Wc (h3.map _) ?_;rw [dO,dU];intro i j hi hj hij;have hi':i<d'.size:=by simpa using hi
 have hj':j<d'.size:=by simpa using hj
 have:=hs i j (ar _) hij om;rw [MI,getElem!_pos d' j hj',getElem!_pos d' i hi'] at this;exact this
theorem ahj {σ:eK} {n:Nat} {K:b9->eK->Nat->Prop} (i len:Nat) (l:List (List UInt8)) (T:TypeId) (hl:∀ t∈l,t.length<=1048576) (hlen:len=l.length) (h2:l.length<=1048576) (hs:σ (.ay i)= .eY T (vM l))
  (hK:K (.dn []) (fc σ (.ay i) (.eY T (vM (oZ l)))) n):fF prog 166 [.eP i 0 1 len true, .eW 100 [] []] σ n K:=by
 refine ⟨Am.pL (fn:=f166) eI rfl eI,λb g w vals h hvl hv=>?_⟩
 match vals,hvl with
 |[v1,v2],_=>
 obtain ⟨c,cap,ad,hc,rfl,_,_,hle,hf⟩:=(hv 0 _ v1 rfl rfl).qS;obtain ⟨_,rfl,T',hsh⟩:=hf rfl;obtain ⟨vs,us,rfl,l1,l2,_⟩:=(hv 1 _ v2 rfl rfl).CD;obtain rfl:vs=[]:=aR l1;obtain rfl:us=[]:=aR l2;obtain ⟨arr,z,a1,a2,a3,a4⟩:=h.sY i T (vM l) c hs hc;have hcl:c<w.heap.size:=h.ko i c hc;have hfl:(vM l).length=l.length:=ap _
 let d:Array C8:=(QA l hl).toArray
 have hdv:d.toList.map (·.1)=l:=ahi l hl;have hds:d.size=l.length:=by
  grind
 have hH:Holds rN w c 0 d:=λj hj=>by
  have hj':j<l.length:=om;have hja:j<arr.length:=om;have hx:(vM l)[j]? =some (.cp l[j]):=by grind [vM]
  have hr:=a4 j _ arr[j] hx (aj hja);have he:arr[j]=rN d[j]!:=by
   have e1:d[j]!.1=l[j]:=by
    grind
   unfold rN;rw [e1];generalize arr[j]=u at hr;cases hr with
   |lW hb=>rename_i ba;rw [<-hb]
  grind [World.cell?,World.frozen?]
 have eg:∀ args w,(callFunc 100 args).run prog w= .ok (.enter 100 args) w:=Am.pL (fn:=f100) eI rfl eI;have hcon:=Any.slices_SortFunc W6 rN (λ_=>rfl) G3 ahm 100 #[] c 0 cap d w eg (ahh c 0 d.size w λm os dk=>b.K3 _ (h.jF.Cy (ahk (h.iR i (by rw [hs];rfl)|>.elim λc' hc'=>by obtain ⟨q1,q2,_⟩:=hc';rw [hc] at q1;cases q1;exact q2) h.jF.pZ a1 m os dk))) hH hcl om;rw [hds] at hcon;subst hlen;refine hcon.mono ?_;rintro e w' ⟨rfl,d',q,os,hp,hso,rfl⟩;have hp':PermIn 0 d.size d d':=by rw [hds];exact hp
 have hso':SortedIn (ltOf G3) 0 d.size d':=by rw [hds];exact hso
 have hsv:=ahl hp' hso';rw [hdv] at hsv;have hds':d'.size=l.length:=by rw [hp'.1,hds]
 obtain ⟨g1,E1⟩:=h.ub (w':=Sort.ahead w q) ⟨rfl,rfl,rfl,aq _,λ_ _=>rfl⟩ (by simp_all);have hput:(putRow rN (Sort.ahead w q) c 0 d').heap[c]? =some (.cells (putCells rN 0 d' arr.toArray) T z):=by
  show (w.heap.modify c _)[c]? =_;rw [Array.getElem?_modify,ak rfl,a1];rfl
 have hw:oH c (Sort.ahead w q) (putRow rN (Sort.ahead w q) c 0 d'):=by
  refine ⟨rfl,rfl,rfl,?_,λk hk=>?_,?_,λds hd=>?_,rfl⟩
  .simp_all
  .show (w.heap.modify c _)[k]? =_;rw [Array.getElem?_modify,ai (Ne.symm hk)];rfl
  .unfold World.shape?;rw [hput];show _=(match w.heap[c]? with|some (.cells cs e _)=>some (e,cs.size)|_=>none);grind [putCells]
  simp_all
 obtain ⟨g2,E2⟩:=g1.ot (X:= .eY T (vM (oZ l))) (by rw [hs];rfl) hc hw (λ_=>by
  refine ⟨(putCells rN 0 d' arr.toArray).toList,z,by rw [hput],?_,?_,?_⟩
  .grind [vM,putCells]
  .grind [putCells]
  .intro j x v hx hvv;have hjs:j<(oZ l).length:=by
    grind [vM]
   have hjl:j<l.length:=by grind
   have hja:j<arr.length:=om;have ex:x= .cp (oZ l)[j]:=by
    grind [vM]
   have ev:v=rN d'[j]!:=by
    grind [putCells]
   have e1:d'[j]!.1=(oZ l)[j]:=by
    grind
   rw [ex,ev,<-e1];exact .lW rfl)
 obtain ⟨g3,E3⟩:=g2.ub (w':=grow (putRow rN (Sort.ahead w q) c 0 d') os) ⟨rfl,rfl,rfl,by simp_all,λk hk=>heap_grow_old _ _ hk⟩ (aq _);exact ⟨_,_,_,n,_,rfl,hK,aq _, .nR (vs:=[]) rfl (by simp),g3,(E1.lF E2).lF E3⟩
open Go.Shelf Go.RowKit Go.Lib Go.Am
theorem ahv (q:Bool):er prog 166 [.a8 q 1 [] .dm, .eW 100 [] []] (.dn []):=by
 refine ⟨Am.pL (fn:=f166) eI rfl eI,λw F vals _ _ hvl hv=>?_⟩
 match vals,hvl with
 |[v1,v2],_=>
 obtain ⟨ad,c,rfl,_,_⟩:=(eH.fJ (g:=⟨F,λ_=>none,λ_=>none⟩) (hv 0 _ v1 rfl rfl)).nq;have hL:SlLaysF0.n6 prog W7:={W6 with};have hcon:=AnyF.slices_SortFunc_none hL ad c v2 w;change Calls prog 166 #[.slice ad 0 c,v2] w _ at hcon;refine hcon.mono ?_;rintro e w' ⟨rfl,rfl⟩;exact ⟨_,F,rfl,⟨Below.refl _ _,aq _⟩,λ_ _ h=>h,λ_ _ h=> .inl h, .wC (vs:=[]) rfl (λi x v h=>by simp at h)⟩
theorem Xg (x:Nat×lY) (j:BH x) (P:x.2.length<=1048576) (Q:∀ e∈x.2,e.2.1.length<=1048576):
  Md prog 48 x.1 (nO x.2) [.gi 0] (.a8 (decide (x.2=[])) 1 (qg (oZ (x.2.map (·.2.1)))) .dm):=by
 refine Md.afM jy m8 (fn:=f48) eI rfl eI rfl rfl ?_
 conv=>whnf
 refine fz func99 ?_
 conv=>whnf
 refine fF.Bm jy (fn:=f98) eI rfl eI rfl rfl ?_;refine j6 ?_;refine j6 ?_;refine fz func165 ?_
 conv=>whnf
 refine fz func217 ?_
 conv=>whnf
 refine iE.Jc 11 9 1 rfl ?_;refine iE.Jb [(2, .c8 11 0)] ⟨rfl,rfl,trivial⟩ rfl rfl ?_;refine fz func167 ?_
 conv=>whnf
 refine qu.Vw (kt:=9) (et:=64) eI rfl rfl (.inr rfl) ?_
 conv=>whnf
 refine iE.gY (λv:lY=>[(.ct 0, .bg (.gG 15)),(.ct 5, .bg (.gH 17)),(.ay 0, .kh (.jq x.1 (nO x.2))),(.ay 17, .iD (.sZ 0 x.1 (v.map (·.1)) x.1)),
  (.ay 11, .dc 45 [.a8 (decide (v=[])) 1 (qg (v.map (·.2.1))) (.hJ 14)]),(.eT 14, .eU 9 1 v.length),
  (.ay 15, .kn .ready none 13 [(2, .c8 11 0)] [7] (G2 f217 0).1 (G2 f217 0).2)]) 18
  (λv=>(v.map (·.1)).Nodup/\∀ e∈v,e∈x.2) (λv=>x.2.length - v.length) dd [] ⟨List.nodup_nil,λe h=>by cases h⟩ ⟨rfl,rfl,rfl,rfl,rfl,rfl,rfl,rfl,rfl,rfl,rfl,rfl,rfl,rfl,trivial⟩ ?_
 rintro v ⟨A,B⟩;refine gk ?_;have N:v.length<=x.2.length:=xX (Er _ A) B;have b:=JF (v.map (·.2.1));rw [ap] at b;refine qu.Vv rfl rfl rfl (.inr rfl) (λe i=>?_) (aq _) (λe i d=>?_) (λc=>?_)
 .obtain ⟨y,g,rfl⟩:=aE.1 i;exact j.GM y g
 .obtain ⟨y,g,rfl⟩:=aE.1 i;have d:y.1∉v.map (·.1):=d;have J:v.length<x.2.length:=by
   have:=xX (l:=v++[y]) (m:=x.2) (Er (·.1) (by
    grind)) (λa k=>by
    grind)
   grind
  have q:((nO x.2).map (·.1)).Nodup:=by
   grind [nO,j.Ak]
  refine cx ?_;refine qu.Vu rfl rfl rfl (.inr rfl) rfl q (.cp y.2.1, .eN (mD y.2.2)) i ?_
  conv=>whnf
  refine F9.Jd jy m8 rfl rfl rfl (λR=>?_)
  conv=>whnf
  refine ⟨⟨b.symm,ji (by grind) dd⟩,?_⟩
  conv=>whnf
  refine ⟨v++[y],⟨?_,λa k=>?_⟩,by grind,rfl,rfl,rfl,rfl,rfl,rfl,?_,rfl,?_,rfl,?_,af⟩
  .grind
  .grind
  .rw [aU];rfl
  .show gC.dc _ [b9.a8 (decide (v=[]) && false) 1 (qg (v.map (·.2.1))++[[b9.cp y.2.1]]) _]=gC.dc _ [b9.a8 (decide (v++[y]=[])) 1 (qg ((v++[y]).map (·.2.1))) _];rw [cf,aJ (by simp),aU];grind [qg]
  .show gC.eU _ 1 ((qg (v.map (·.2.1))).length+1)=gC.eU _ 1 (v++[y]).length;simp_all
 .have p:(v.map (·.2.1)).Perm (x.2.map (·.2.1)):=(P1 (Er _ A) (Er _ j.Ak) λa=>⟨B a,λk=>by
   have I:a.1∈v.map (·.1):=c (a.1, .cp a.2.1, .eN (mD a.2.2)) (aE.2 ⟨a,k,rfl⟩);grind [Jl,j.Ak]⟩).map _
  have w:decide (v=[])=decide (x.2=[]):=by
   grind [p.length_eq]
  have o:(v.map (·.2.1)).length=v.length:=ap _;rw [w];generalize O:v.map (·.2.1)=L at*;have t:∀ s∈L,s.length<=1048576:=λs K=>by
   grind
  have u:oZ L=oZ (x.2.map (·.2.1)):=Wc ((ui L).trans p) (P9 L);rw [<-u];refine cx ?_
  by_cases D:L=[]
  .subst D;refine gk ?_;refine fF.kc (ahv _) rfl ?_
   conv=>whnf
   exact mR.qy rfl
  .have E:(qg L).length=L.length:=JF L;have r:qg L≠[]:=λe=>D (by grind)
   refine iE.PH (m:=15) (es:=[(.ct 1, .bg (.eW 100 [] []))]) 5 14 ⟨rfl,rfl,trivial⟩ dd rfl dd rfl (by rw [E,o];rfl) dd r (λF b y g=>by
    obtain ⟨s,_,rfl⟩:=aE.1 b;rw [aw] at g;subst g;rfl) ?_
   rw [W8,E];refine gk ?_;refine ahj 15 _ L _ t rfl om rfl ?_;have z:decide (x.2=[])=false:=by
    grind
   have n:(qg (oZ L)).length=L.length:=by rw [JF,(ui L).length_eq]
   have H:=W8 (oZ L);have f:(vM (oZ L)).length=L.length:=by rw [vM,ap,(ui L).length_eq]
   rw [z]
   conv=>whnf
   refine .CJ rfl n (λF b=>by
    obtain ⟨s,_,rfl⟩:=aE.1 b;rfl) (by rw [f];omega) ?_ ?_
   .grind
   grind [W9]
theorem ahu (x:Nat×lY) (a:BH x) (h:x.2.length<=1048576) (s:∀ e∈x.2,e.2.1.length<=1048576):
  ∃ q,Md prog 48 x.1 (nO x.2) [.gi 0] (.a8 q 1 (qg (oZ (x.2.map (·.2.1)))) .dm):=⟨_,Xg x a h s⟩
def JI (t:jG):List b9:=[.cp t.fM, .ax .i64 t.iM, .cp t.wW]
def mv (l:List jG):List (List b9):=l.map JI
theorem EJ (l:List jG):(mv l).length=l.length:=by simp [mv]
theorem BV {l:List jG} {k:Nat} (h:k<l.length):(mv l)[k]? =some (JI l[k]):=by grind [mv]
abbrev uz:=List (Nat×Int)
def vO (m:uz):rD:=m.map λe=>(e.1, .ax .i64 e.2, .eD true)
def lj (m:uz):List Int:=m.map (·.2)
theorem Xe (z:Int):∀ m:uz,uZ (.ax .i64 z) (vO m)=if (lj m).contains z=true then some (.eD true) else none
 |[]=>rfl
 |e::m=>by
  show (match qC (.ax .i64 e.2) (.ax .i64 z) with|true=>some (b9.eD true)|false=>uZ (.ax .i64 z) (vO m))=_;rw [Xe z m];grind [qC,lj]
theorem Xd (m:uz):∀ e∈vO m,sw (.int .i64) e.2.1:=λe h=>by
 obtain ⟨x,_,rfl⟩:=aE.1 h;rfl
abbrev G4 (n:Bool) (l:List eF) (c:Nat) (m:uz) (a:List jG):List (Am.fQ×gC):=
 [(.ay 0, .dc 25 [.a8 n 8 (ib l) .dm]),(.ay 4, .iD (.jq c (vO m))),(.ay 8, .dc 141 [.gi 4]),
  (.ay 15, .dc 55 [.a8 (decide (a=[])) 3 (mv a) (.hJ 17)]),(.eT 17, .eU 60 3 a.length),
  (.ay 16, .dc 142 [.eW 46 [] [.c8 0 0, .c8 8 0, .c8 15 0, .c8 16 0]])]
def QB (n:Bool) (l:List eF) (c:Nat) (m:uz) (dir:Int) (path:List UInt8) (res:List jG):Prop:=∀ a:List jG,a.length+res.length<=1048576->
 fF prog 46 [.ax .i64 dir, .cp path, .c8 0 0, .c8 8 0, .c8 15 0, .c8 16 0] (eJ (G4 n l c m a)) 18
  (gP 18 λx e=>x= .gO (.dn [])/\e=G4 n l c m (a++res))
def tC (outs:List Int) (v:lY) (e:Nat×List UInt8×eF):Bool:=!(v.map (·.1)).contains e.1||!outs.contains e.2.2.eM
theorem ahq {x:Nat×lY} (h:BH x) {outs:List Int} {v:lY} {y:Nat×List UInt8×eF} (a:y∈x.2) (n:y.1∉v.map (·.1)):
  (if outs.contains y.2.2.eM=true then EA y.2.1 (x.2.filter (tC outs v)) else x.2.filter (tC outs v))=x.2.filter (tC outs (v++[y])):=by
 have c:(v.map (·.1)).contains y.1=false:=by simp_all
 have l:tC outs v y=true:=by grind [tC]
 have s:∀ e∈x.2,tC outs (v++[y]) e=(if e.1=y.1 then !outs.contains y.2.2.eM else tC outs v e):=λe b=>by
  grind [tC,Jl,h.Ak]
 split
 .rename_i o;rw [agv h.u5 a _ l];grind [List.filter_congr,Jl,h.Ak,h.u5]
 grind [List.filter_congr,Jl,h.Ak]
theorem ahp {x:Nat×lY} {outs:List Int} {v:lY} (h:∀ e∈x.2.filter (tC outs v),e.1∈v.map (·.1)):x.2.filter (tC outs v)=x.2.filter λe=>!outs.contains e.2.2.eM:=by
 apply List.filter_congr;intro e a;grind [tC]
theorem Xc (T:TypeId) (r:Nat) (A:List jG) (t:jG):gC.dc T [b9.a8 (decide (A=[]) && false) 3 (mv A++[JI t]) (.hJ r)]=gC.dc T [b9.a8 (decide (A++[t]=[])) 3 (mv (A++[t])) (.hJ r)]:=by
 rw [cf,aJ (by simp)];grind [mv]
theorem Xh (T:TypeId) (A:List jG) (t:jG):gC.eU T 3 ((mv A).length+1)=gC.eU T 3 (A++[t]).length:=by
 grind [EJ]
theorem Xb (o:Bool) (l:List eF) (c:Nat) (m:uz) (dir:Int) (path:List UInt8) (u:Int->List UInt8->List jG) (hl:l.length<=1000) (hi:∀ n∈l,jv n.eM) (hs:∀ n∈l,n.iU.length<=1000) (hp:path.length<=2000000)
  (Y:∀ s n,jJ s (lJ l (lj m) dir)=some n->iy n.eM=true->QB o l c m n.eM (rG path s) (u n.eM (rG path s))):
  QB o l c m dir path (BI u (lJ l (lj m) dir) path):=by
 intro j Q;have hsn:=Qz o l dir om;obtain ⟨K,hmem⟩:=An l dir;refine fz func46 ?_
 conv=>whnf
 refine fF.I9 (es:=[]) trivial rfl (ar _) rfl hsn ?_;rintro x es ⟨rfl,rfl⟩;have E:lJ l (lj m) dir=(nb l dir).2.filter λe=>!(lj m).contains e.2.2.eM:=rfl
 have p:=Mt l (lj m) dir;have H:∀ s n,jJ s (lJ l (lj m) dir)=some n->n∈l/\s.length<=1000:=λs n Z=>by
  obtain ⟨q1,_,q3,_⟩:=x3 Z;grind
 have i:∀ s∈(lJ l (lj m) dir).map (·.2.1),∃ n,jJ s (lJ l (lj m) dir)=some n:=λs z=>by
  obtain ⟨e,D,rfl⟩:=aE.1 z;exact ⟨e.2.2,Ju p.u5 D⟩
 have J:(lJ l (lj m) dir).length<=1000:=by
  have:=xX (l:=(lJ l (lj m) dir).map (·.2.1)) (m:=l.map (·.iU)) p.u5 λs z=>by
   obtain ⟨n,Z⟩:=i s z;obtain ⟨q1,_,q3,_⟩:=x3 Z;grind
  grind
 generalize nb l dir=S at*
 conv=>whnf
 refine qu.Vw (kt:=9) (et:=64) eI rfl rfl (.inl rfl) ?_
 conv=>whnf
 refine iE.gY (λv:lY=>(.ct 0, .bg (.ax .i64 dir))::(.ct 1, .bg (.cp path))::(.ct 2, .bg (.c8 0 0))::(.ct 3, .bg (.c8 8 0))::(.ct 4, .bg (.c8 15 0))::(.ct 5, .bg (.c8 16 0))::(.ct 8, .bg (.gi 20))::(.ct 19, .bg (.gH 23))::
  (.ay 20, .iD (.jq S.1 (nO (S.2.filter (tC (lj m) v)))))::(.ay 23, .iD (.sZ 20 S.1 (v.map (·.1)) S.1))::G4 o l c m j) 24
  (λv=>(v.map (·.1)).Nodup/\∀ e∈v,e∈S.2) (λv=>S.2.length - v.length) dd [] ⟨cW,λe h=>by cases h⟩ ⟨rfl,rfl,rfl,rfl,rfl,rfl,rfl,rfl,rfl,rfl,rfl,rfl,rfl,rfl,rfl,rfl,?_,af⟩ ?_
 .have e:S.2.filter (tC (lj m) [])=S.2:=dW.2 λ_ _=>rfl
  rw [e];rfl
 rintro v ⟨h1,h2⟩;refine gk ?_;have hvl:v.length<=S.2.length:=xX (Er _ h1) h2;have B:(S.2.filter (tC (lj m) v)).Sublist S.2:=dV;refine qu.Vv rfl rfl rfl (.inl rfl) (λe D=>?_) (aq _) (λe D w=>?_) (λR=>?_)
 .obtain ⟨y,hy,rfl⟩:=aE.1 D;exact K.GM y (B.mem hy)
 .obtain ⟨y,hy,rfl⟩:=aE.1 D;have hyS:y∈S.2:=B.mem hy;have w:y.1∉v.map (·.1):=w;have r:((v++[y]).map (·.1)).Nodup:=by
   grind
  have O:∀ a∈v++[y],a∈S.2:=λa ha=>by
   grind
  have t:v.length<S.2.length:=by
   have:=xX (Er _ r) O;grind
  have hnd:((nO (S.2.filter (tC (lj m) v))).map (·.1)).Nodup:=by
   grind [nO,K.Ak]
  have g:=ahq K (outs:=lj m) hyS w;refine cx ?_;refine qu.Vu rfl rfl rfl (.inl rfl) rfl hnd (.cp y.2.1, .eN (mD y.2.2)) D ?_
  conv=>whnf
  refine qu.Bw jy (kt:=3) (et:=4) (d:= .int .i64) eI eI rfl rfl eI rfl rfl (.inl rfl) rfl (Xd m) (if (lj m).contains y.2.2.eM=true then some (.eD true) else none) (Xe y.2.2.eM m) ?_
  by_cases ho:(lj m).contains y.2.2.eM=true
  .rw [ak ho] at g ⊢;refine cx ?_;refine qu.afH (kt:=9) (et:=64) (d:= .string) eI eI rfl rfl rfl rfl rfl rfl rfl (G1 _) (nO (EA y.2.1 (S.2.filter (tC (lj m) v)))) (W2 _ _) ?_;rw [g]
   conv=>whnf
   refine ⟨v++[y],⟨r,O⟩,by grind,rfl,rfl,rfl,rfl,rfl,rfl,rfl,rfl,rfl,rfl,rfl,rfl,rfl,rfl,rfl,rfl,rfl,rfl,?_,af⟩;rw [aU];rfl
  .rw [ai ho] at g ⊢
   conv=>whnf
   refine ⟨v++[y],⟨r,O⟩,by grind,rfl,rfl,rfl,rfl,rfl,rfl,rfl,rfl,rfl,rfl,rfl,rfl,rfl,rfl,rfl,rfl,?_,rfl,?_,af⟩
   .rw [<-g];rfl
   .rw [aU];rfl
 .have hin:S.2.filter (tC (lj m) v)=lJ l (lj m) dir:=by
   rw [E];exact ahp λe D=>R (e.1, .cp e.2.1, .eN (mD e.2.2)) (aE.2 ⟨e,D,rfl⟩)
  rw [hin];obtain ⟨qn,X⟩:=ahu (S.1,lJ l (lj m) dir) p (by grind) (λe D=>by
   obtain ⟨n,Z⟩:=i e.2.1 (aE.2 ⟨e,D,rfl⟩);grind)
  unfold BI at Q ⊢;have w:∀ s∈oZ ((lJ l (lj m) dir).map (·.2.1)),∃ n,jJ s (lJ l (lj m) dir)=some n:=λs z=>i s ((ui _).mem_iff.1 z)
  have hnl:(oZ ((lJ l (lj m) dir).map (·.2.1))).length<=1000:=by rw [(ui _).length_eq,ap];exact J
  simp only at X;generalize oZ ((lJ l (lj m) dir).map (·.2.1))=N at*;generalize hI:lJ l (lj m) dir=I at*;have hNl:=JF N;refine cx ?_;refine fF.Vs X rfl ?_
  conv=>whnf
  refine iE.gY (λk:Nat=>(.ct 1, .bg (.cp path))::(.ct 4, .bg (.c8 15 0))::(.ct 5, .bg (.c8 16 0))::(.ct 8, .bg (.gi 20))::(.ct 32, .bg (.a8 qn 1 (qg N) .dm))::(.ct 33, .bg (.ax .i64 N.length))::(.ct 34, .bg (.ax .i64 k))::
   (.ay 20, .iD (.jq S.1 (nO I)))::G4 o l c m (j++(N.take k).flatMap (tl u I path))) 24
   (λk=>k<=N.length) (λk=>N.length - k) dd 0 (ar _) ⟨rfl,rfl,rfl,rfl,rfl,rfl,rfl,rfl,rfl,rfl,?_,rfl,rfl,rfl,rfl,rfl,rfl,rfl,rfl,rfl,rfl,rfl,?_,rfl,?_,af⟩ ?_
  .show gC.bg (b9.ax .i64 (qg N).length)=_;rw [hNl]
  .rw [List.take_zero,dH,aH];rfl
  .rw [List.take_zero,dH,aH];rfl
  rintro k hk;refine gk ?_;refine ab (λh=>?_) λh=>?_
  .have t:k<N.length:=om;have hg:=W3 t;obtain ⟨b,F⟩:=w N[k] (aI t);obtain ⟨T,hsl⟩:=H _ _ F;have htk:(N.take (k+1)).flatMap (tl u I path)=(N.take k).flatMap (tl u I path)++C2 u path N[k] b:=by
    grind [List.take_succ_eq_append_getElem,tl]
   have hdr:=w7 b.eM (hi b T);have L:=Y N[k] b F;have q:j.length+((N.take (k+1)).flatMap (tl u I path)).length<=1048576:=by
    grind [List.take_append_drop]
   rw [htk] at q;generalize hA:j++(N.take k).flatMap (tl u I path)=A at*;have hAl:A.length=j.length+((N.take k).flatMap (tl u I path)).length:=by grind
   rw [au] at q;have f:j++(N.take (k+1)).flatMap (tl u I path)=A++C2 u path N[k] b:=by grind
   generalize N[k]=s at*;have hAe:=EJ A;have w1:IntKind.i64.wrap ((k:Int)+1)=((k+1:Nat):Int):=by grind [fq]
   refine cx ?_;refine qu.Bw jy (kt:=9) (et:=64) (d:= .string) eI eI rfl rfl eI rfl rfl (.inl rfl) rfl (G1 _) ((jJ s I).map λn=> .eN (mD n)) (MH s I) ?_;rw [F,bz];have U:path++(ByteArray.mk #[47]).data.toList++s=rG path s:=rfl;have hpl:(path++(ByteArray.mk #[47]).data.toList).length=path.length+1:=au
   conv=>whnf
   refine ⟨by grind,?_⟩
   conv=>whnf
   refine ⟨by rw [hpl];omega,?_⟩
   conv=>whnf
   rw [U];generalize hP:rG path s=P at*;refine ⟨⟨hAe.symm,ji (by grind) dd⟩,?_⟩;refine cx ?_;unfold C2 at f q;rw [hP] at f q;cases hd:iy b.eM with
   |false=>
    rw [hd,ai dd] at f;refine kw ?_;refine ⟨k+1,t,by grind,rfl,rfl,rfl,rfl,rfl,rfl,rfl,rfl,rfl,rfl,rfl,rfl,?_,rfl,rfl,rfl,rfl,rfl,rfl,rfl,rfl,rfl,?_,rfl,?_,af⟩
    .exact ix
    .rw [f];exact Xc _ _ A ⟨P,b.eM,b.qZ⟩
    .rw [f];exact Xh _ A ⟨P,b.eM,b.qZ⟩
   |true=>
    rw [hd,ak rfl] at f q;refine cx ?_;have W:=L hd (A++[jG.mk P b.eM b.qZ]) (by
     grind)
    refine fF.I9 (es:=G4 o l c m (A++[jG.mk P b.eM b.qZ])) (m:=18) ⟨rfl,rfl,rfl,rfl,rfl,rfl,?_,rfl,?_,af⟩ rfl dd rfl W ?_
    .exact Xc _ _ A ⟨P,b.eM,b.qZ⟩
    .exact Xh _ A ⟨P,b.eM,b.qZ⟩
    rintro x es ⟨rfl,rfl⟩;rw [show A++jG.mk P b.eM b.qZ::u b.eM P=A++[⟨P,b.eM,b.qZ⟩]++u b.eM P by simp] at f
    conv=>whnf
    refine ⟨k+1,t,by grind,rfl,rfl,rfl,rfl,rfl,rfl,rfl,rfl,rfl,rfl,rfl,rfl,?_,rfl,rfl,rfl,rfl,rfl,rfl,rfl,rfl,rfl,?_,rfl,?_,af⟩
    .exact ix
    .rw [f];rfl
    .rw [f];rfl
  .obtain rfl:k=N.length:=om;rw [aN]
   conv=>whnf
   exact ⟨_,_,⟨rfl,rfl⟩,rfl,⟨rfl,rfl⟩,af⟩
theorem Xa (i:Bool) {l:List eF} (a:gU l=true) (c:Nat) (m:uz) (q:l.length<=1000) (o:∀ n∈l,jv n.eM) (r:∀ n∈l,n.iU.length<=1000) {top:Int} (t:top∈lj m):
  ∀ (f:Nat) {ids:List Int} {dir:Int} {path:List UInt8},ow l (lj m) top ids dir->l.length<=ids.length+f->path.length<=1001*ids.length->QB i l c m dir path (mL l (lj m) f dir path)
 |0,ids,dir,path,w,d,hp=>by
  have p:=w.GN a t;have b:lJ l (lj m) dir=[]:=cw.2 λe b=>by
   obtain ⟨_,g,v,_,j⟩:=Ww b;have h:e.2.2.jj=dir:=by
    grind [na]
   have:=(ow.q9 w g h j).GN a t;grind
  have u:=Xb i l c m dir path (λ_ _=>[]) q o r om (λs n d=>by rw [b] at d;cases d);rw [b] at u;exact u
 |f+1,ids,dir,path,w,d,hp=>by
  have p:=w.GN a t;refine Xb i l c m dir path (mL l (lj m) f) q o r om λs n k _=>?_
  obtain ⟨g,v,y,j⟩:=x3 k;have h:n.jj=dir:=by
   grind [na]
  have x:s.length<=1000:=by grind
  refine Xa i a c m q o r t f (.q9 w g h j) (by grind) ?_;grind [rG]
def C9 (x:Nat×uz) (z:Int):Nat×uz:=if (lj x.2).contains z=true then x else (x.1+1,x.2++[(x.1,z)])
def JJ (z:Int):uz->Option rD:=λm=>if (lj m).contains z=true then some (vO m) else none
theorem Xf (z:Int):∀ m:uz,ug (.ax .i64 z) (.eD true) (vO m)=JJ z m
 |[]=>rfl
 |e::m=>by
  show (match qC (.ax .i64 e.2) (.ax .i64 z) with|true=>some _|false=>match ug (.ax .i64 z) (.eD true) (vO m) with|some l=>some _|none=>none)=_;rw [Xf z m];grind [JJ,qC,lj,vO]
theorem ahs (x:Nat×uz) (z:Int):Eo x.1 (vO x.2) (.ax .i64 z) (.eD true) (JJ z x.2)= .jq (C9 x z).1 (vO (C9 x z).2):=by
 unfold C9 JJ;split
 .rfl
 .show Lb.jq (x.1+1) (vO x.2++[_])=Lb.jq (x.1+1) (vO (x.2++[_]));grind [vO]
theorem aht (x:Nat×uz) (z y:Int):(lj (C9 x z).2).contains y=((lj x.2).contains y||y==z):=by
 grind [C9,lj]
def y6 (z:List Int):Nat×uz:=z.foldl C9 (0,[])
theorem ahr (s:List Int) (y:Int):(lj (y6 s).2).contains y=s.contains y:=by
 have k:∀ (s:List Int) (x:Nat×uz),(lj (s.foldl C9 x).2).contains y=((lj x.2).contains y||s.contains y):=by
  intro s
  induction s with
  |nil=>intro x;simp
  |cons z s i=>
   grind [aht]
 exact k s (0,[])
theorem aho {l:List eF} {o a:List Int} (h:∀ y,o.contains y=a.contains y) (f:Nat):mL l o f=mL l a f:=by
 have i:∀ d,lJ l o d=lJ l a d:=λd=>by
  grind [lJ]
 induction f with
 |zero=>rfl
 |succ f b=>
  grind [mL]
theorem MK (i:Bool) (l:List eF) (dir:Int) (f:∀ n∈l,jv n.eM) (v:l.length<=1000) (y:∀ n∈l,n.iU.length<=1000):
  er prog 23 [.a8 i 8 (ib l) .dm, .ax .i64 dir] (.a8 (decide (jo l dir=[])) 3 (mv (jo l dir)) .dm):=by
 have u:=EI i l f om;have q:=JE i l dir f om;unfold jo;refine er.Mz (VB.MA jy (fn:=f23) eI rfl eI rfl rfl ?_);refine j6 ?_;refine j6 ?_;refine cx ?_;cases g:gU l with
 |false=>
  refine cx ?_;exact ⟨_,mR.kd _ _ _,mR.fC _⟩
 |true=>
 rw [ak rfl];refine cx ?_;refine j6 ?_;refine qu.Ja rfl ?_
 conv=>whnf
 refine qu.pu (kt:=3) (et:=4) (d:= .int .i64) eI eI (.inr rfl) rfl rfl rfl rfl (λe h=>by cases h) none rfl ?_
 conv=>whnf
 refine j6 ?_;refine cx ?_;have w:(mT l dir).length<=l.length:=by grind [mT,Jp]
 have z:=MD (mT l dir);generalize p:mT l dir=Z at*
 conv=>whnf
 refine iE.gY (λk:Nat=>[(.ct 1, .bg (.ax .i64 dir)),(.ct 2, .bg (.c8 0 0)),(.ct 5, .bg (.c8 8 0)),(.ct 18, .bg (.a8 (decide (Z=[])) 1 (mr Z) .dm)),(.ct 19, .bg (.ax .i64 Z.length)),(.ct 20, .bg (.ax .i64 k)),
  (.ay 0, .dc 25 [.a8 i 8 (ib l) .dm]),(.ay 4, .iD (.jq (y6 (dir::Z.take k)).1 (vO (y6 (dir::Z.take k)).2))),(.ay 8, .dc 141 [.gi 4])]) 14
  (λk=>k<=Z.length) (λk=>Z.length - k) dd 0 (ar _) ⟨rfl,rfl,rfl,rfl,rfl,rfl,rfl,rfl,?_,rfl,rfl,rfl,rfl,rfl,?_,af⟩ ?_
 .show gC.bg (b9.ax .i64 (mr Z).length)=_;rw [z]
 .trivial
 rintro k B;refine gk ?_;refine ab (λh=>?_) λh=>?_
 .have t:k<Z.length:=om;have A:=JD t;have s:y6 (dir::Z.take (k+1))=C9 (y6 (dir::Z.take k)) Z[k]:=by
   grind [y6,List.take_succ_eq_append_getElem]
  generalize y6 (dir::Z.take k)=S at*;refine cx ?_;refine qu.pu (kt:=3) (et:=4) (d:= .int .i64) eI eI (.inl rfl) rfl rfl rfl rfl (Xd _) (JJ Z[k] S.2) (Xf _ _) ?_
  conv=>whnf
  refine ⟨k+1,t,by grind,rfl,rfl,rfl,rfl,rfl,rfl,rfl,rfl,rfl,rfl,?_,rfl,rfl,rfl,?_,af⟩
  .exact ix
  .rw [s];exact congrArg gC.iD (ahs S Z[k])
 .obtain rfl:k=Z.length:=om;rw [aN];have a:=ahr (dir::Z);have j:dir∈lj (y6 (dir::Z)).2:=by
   have:=a dir;grind
  have r:=Xa i g (y6 (dir::Z)).1 (y6 (dir::Z)).2 v f y j l.length (.rF) om (path:=[]) (ar _);have c:=Wu g j l.length (.rF) (path:=[]);rw [aho a] at r c;have o:C3 l dir=dir::Z:=by grind [C3]
  rw [o];generalize mL l (dir::Z) l.length dir []=R at*;generalize y6 (dir::Z)=S at*
  conv=>whnf
  refine j6 ?_;refine j6 ?_;refine iE.Jc 15 60 3 rfl ?_;refine gk ?_;have b:=r [] (by grind);rw [bE] at b
  conv=>whnf
  refine fF.I9 (es:=G4 i l S.1 S.2 []) (m:=18) ⟨rfl,rfl,rfl,rfl,rfl,rfl,rfl,rfl,rfl,rfl,rfl,rfl,trivial⟩ rfl dd rfl b ?_;rintro x es ⟨rfl,rfl⟩
  conv=>whnf
  exact ⟨_,mR.fC _,mR.fC _⟩
theorem MJ (l:List eF) (dir:Int):(jo l dir).length<=l.length:=by
 unfold jo;split
 .rename_i h;exact Wu h (by grind [C3]) _ .rF
 simp_all
theorem ahw (i:Bool) (l:List eF) (dir:Int) (j:∀ n∈l,jv n.eM) (f:l.length<=1048576) (o:∀ n∈l,n.iU.length<=1048576):
  er prog 140 [.a8 i 8 (ib l) .dm, .ax .i64 dir] (.a8 (decide (um l dir=[])) 1 (qg (um l dir)) .dm):=by
 have k:=EI i l j f;have d:=Qz i l dir f;obtain ⟨h,a⟩:=An l dir;have g:(nb l dir).2.length<=l.length:=by
  have:=xX (l:=(nb l dir).2.map (·.2.1)) (m:=l.map (·.iU)) h.u5 λs c=>by
   obtain ⟨e,b,rfl⟩:=aE.1 c;exact aE.2 ⟨e.2.2,(a e b).1,h.C1 e b⟩
  simp_all
 have r:=Xg (nb l dir) h om (λe b=>by rw [<-h.C1 e b];grind);have q:decide ((nb l dir).2=[])=decide (oZ ((nb l dir).2.map (·.2.1))=[]):=by
  have p:=(ui ((nb l dir).2.map (·.2.1))).length_eq;grind
 rw [q] at r;unfold um;refine ic func140 ?_;refine cx ?_;cases gU l with
 |false=>
  refine cx ?_;exact mR.kd _ _ _
 |true=>
  rw [ak rfl];refine cx ?_;refine fF.I9 (es:=[]) trivial rfl (ar _) rfl d ?_;rintro x es ⟨rfl,rfl⟩
  conv=>whnf
  refine fF.Vs r rfl ?_;exact fu
end Go.Proofs.YtffboamedcmpaaaGreatDoor
