import Derived.Shelf.SlSortCmp.Whole1
import Derived.Shelf.SlSortCmp.NoneTotal
import Derived.Test.YtffboamedcmpaaaGreatDoorBj
set_option linter.all false
set_option maxHeartbeats 4000000
set_option maxRecDepth 100000
namespace Go.Proofs.YtffboamedcmpaaaGreatDoor
open Gw
open Go.Am
def iZ (l:List aH):List UInt8:=l.flatMap dM
theorem adQ {l:List aH} {k:Nat} (hk:k<l.length):iZ (l.take (k+1))=iZ (l.take k)++dM l[k]:=by
 grind [iZ,List.take_succ_eq_append_getElem]
theorem adP (nil:Bool) (l:List aH) (hf:∀ o∈l,lZ o) (hl:l.length<=1048576) (hb:∀ k,k<=l.length->(l.take k).all cJ=true->(iZ (l.take k)).length<=1000000000000):
  aC Tryz.prog 21 [.ag nil 7 (iw l) .av] (.aw [.ai (if l.all cJ=true then iZ l else []), .aa .i64 (if l.all cJ=true then 0 else 50)]):=by
 have hal:=Jh l;refine bK Tryz.func21 ?_
 conv=>whnf
 refine db.Rg 2 5 rfl ?_;refine db.cK (λk:Nat=>[(.aj 4, .ah (.ar 2 0)),(.aj 9, .ah (.ag nil 7 (iw l) .av)),(.aj 10, .ah (.aa .i64 l.length)),(.aj 11, .ah (.aa .i64 k)),(.af 2, .au 128 [if k=0 then .bU else .ar 2 0, .ag (decide (iZ (l.take k)=[])) 1 (eu (iZ (l.take k))) (.cO 6)]),(.aJ 6, .aN 5 1 (iZ (l.take k)).length)])
  7 (λk=>k<=l.length/\(l.take k).all cJ=true) (λk=>l.length - k) dd 0 ⟨Nat.zero_le _,rfl⟩ ⟨rfl,rfl,rfl,rfl,?_,rfl,rfl,rfl,rfl,rfl,rfl,rfl,trivial⟩ ?_
 ·show bs.ah (ae.aa .i64 (iw l).length)=_;rw [hal]
 rintro k ⟨hk,hall⟩;have hbk:=hb k hk hall;refine cn ?_;refine ⟨λh=>?_,λh=>?_⟩
 ·have h:=of_decide_eq_true h;have hlt:k<l.length:=om;have hel:=acG hlt;have hfo:=hf l[k] (List.getElem_mem hlt);have hput:=Ub [] l[k] hfo dd;have hno:cJ l[k]=false->¬(l.all cJ=true):=λh2 h3=>by
   simp_all
  have hsu:=adQ hlt;have htk:l.take (k+1)=l.take k++[l[k]]:=List.take_succ_eq_append_getElem hlt;have hbs:=hb (k+1) om;unfold cI at hel;unfold mV at hput
  conv=>whnf
  refine ⟨_,⟨om,hel⟩,?_⟩
  conv=>whnf
  cases hck:cJ l[k] with
  |false=>
   have e1:zx [] l[k]=[]:=by grind [zx]
   have e2:zy l[k]=50:=by grind [zy]
   rw [e1,e2] at hput;refine ak ?_;grind
  |true=>
   have e1:zx [] l[k]=dM l[k]:=by grind [zx]
   have e2:zy l[k]=0:=by grind [zy]
   rw [e1,e2] at hput;refine ak ?_;refine bn Tryz.func44 ?_
   conv=>whnf
   refine bz.Rb (lC (fn:=Tryz.f95) aG rfl aG) rfl (by grind) Tv ?_
   conv=>whnf
   have hbl:=hbs (by grind);rw [hsu,List.length_append] at hbl;refine ⟨⟨(jY _).symm,⟨by grind [jY],by grind [jY]⟩⟩,?_⟩
   conv=>whnf
   refine ⟨k+1,⟨om,by grind⟩,by grind,rfl,rfl,rfl,rfl,rfl,rfl,?_,rfl,?_,rfl,?_,rfl,trivial⟩
   ·exact dh
   ·show bs.au _ [ae.ar 2 0,ae.ag (decide (iZ (l.take k)=[]) && ((dM l[k]).map λc=>[ae.aa .u8 c.toNat]).isEmpty) 1 (eu (iZ (l.take k))++(dM l[k]).map λc=>[ae.aa .u8 c.toNat]) (.cO 6)]=bs.au _ [if k+1=0 then ae.bU else ae.ar 2 0,ae.ag (decide (iZ (l.take (k+1))=[])) 1 (eu (iZ (l.take (k+1)))) (.cO 6)];rw [hsu,if_neg (Nat.succ_ne_zero k),eu,eu,List.map_append];have e3:decide (iZ (l.take k)++dM l[k]=[])=(decide (iZ (l.take k)=[]) && ((dM l[k]).map λc=>[ae.aa .u8 c.toNat]).isEmpty):=by
     rw [Bool.eq_iff_iff];simp
    rw [e3]
   ·show bs.aN _ 1 ((eu (iZ (l.take k))).length+((dM l[k]).map λc=>[ae.aa .u8 c.toNat]).length)=bs.aN _ 1 (iZ (l.take (k+1))).length;grind [jY]
 ·have h:=of_decide_eq_false h;obtain rfl:k=l.length:=om;rw [List.take_length] at hall hbk;rw [List.take_length,if_pos hall,if_pos hall]
  conv=>whnf
  refine bz.Z6 (e:=5) (lC (fn:=Tryz.f45) aG rfl aG) (s:=iZ l) rfl rfl (λe=>decide_eq_true e) (λ_=>MO) (λh0=>MP (iZ l) h0 hbk) ?_
  conv=>whnf
open Go.Shelf Go.Proofs
def Ug:Go.Shelf.Ren:=⟨fun|6=>166|15=>219|14=>218|28=>257|29=>258|20=>249|21=>250|22=>251|23=>252|24=>253|25=>254|26=>255|27=>256|46=>285|47=>286|48=>287|49=>288|50=>289|57=>307|n=>n,fun|22=>45|24=>9|25=>204|3=>3|39=>228|0=>0|53=>318|55=>407|4=>4|46=>400|45=>399|50=>105|5=>5|9=>9|66=>431|70=>308|76=>443|77=>444|n=>n,fun|n=>n⟩
theorem Uf:Go.Proofs.SlLaysF.n6 Tryz.prog Ug:={
 mixed:=by kernel_rfl
 f6:=⟨Tryz.f166.name,dd,Tryz.func166.trans (congrArg some (by kernel_rfl))⟩
 f14:=⟨Tryz.f218.name,dd,Tryz.func218.trans (congrArg some (by kernel_rfl))⟩
 f15:=Tryz.func219.trans (congrArg some (by kernel_rfl))
 f20:=⟨Tryz.f249.name,dd,Tryz.func249.trans (congrArg some (by kernel_rfl))⟩
 f21:=⟨Tryz.f250.name,dd,Tryz.func250.trans (congrArg some (by kernel_rfl))⟩
 f22:=⟨Tryz.f251.name,dd,Tryz.func251.trans (congrArg some (by kernel_rfl))⟩
 f23:=⟨Tryz.f252.name,dd,Tryz.func252.trans (congrArg some (by kernel_rfl))⟩
 f24:=⟨Tryz.f253.name,dd,Tryz.func253.trans (congrArg some (by kernel_rfl))⟩
 f25:=⟨Tryz.f254.name,dd,Tryz.func254.trans (congrArg some (by kernel_rfl))⟩
 f26:=⟨Tryz.f255.name,dd,Tryz.func255.trans (congrArg some (by kernel_rfl))⟩
 f27:=⟨Tryz.f256.name,dd,Tryz.func256.trans (congrArg some (by kernel_rfl))⟩
 f28:=Tryz.func257.trans (congrArg some (by kernel_rfl))
 f29:=Tryz.func258.trans (congrArg some (by kernel_rfl))
 f46:=⟨Tryz.f285.name,dd,Tryz.func285.trans (congrArg some (by kernel_rfl))⟩
 f47:=Tryz.func286.trans (congrArg some (by kernel_rfl))
 f48:=Tryz.func287.trans (congrArg some (by kernel_rfl))
 f49:=⟨Tryz.f288.name,dd,Tryz.func288.trans (congrArg some (by kernel_rfl))⟩
 f50:=⟨Tryz.f289.name,dd,Tryz.func289.trans (congrArg some (by kernel_rfl))⟩
 f57:=⟨Tryz.f307.name,dd,Tryz.func307.trans (congrArg some (by kernel_rfl))⟩
 t0:=Tryz.underlying0
 a0:=Tryz.isAgg0
 z0:=Tryz.sizeOf0
 v0:=Tryz.zeroValue0
 t3:=Tryz.underlying3
 a3:=Tryz.isAgg3
 z3:=Tryz.sizeOf3
 v3:=Tryz.zeroValue3
 t4:=Tryz.underlying4
 a4:=Tryz.isAgg4
 z4:=Tryz.sizeOf4
 v4:=Tryz.zeroValue4
 t5:=Tryz.underlying5
 a5:=Tryz.isAgg5
 z5:=Tryz.sizeOf5
 v5:=Tryz.zeroValue5
 t9:=Tryz.underlying9
 a9:=Tryz.isAgg9
 z9:=Tryz.sizeOf9
 v9:=Tryz.zeroValue9
 t22:=Tryz.underlying45
 a22:=Tryz.isAgg45
 z22:=Tryz.sizeOf45
 v22:=Tryz.zeroValue45
 a24:=Tryz.isAgg9
 z24:=Tryz.sizeOf9
 t25:=Tryz.underlying204
 a25:=Tryz.isAgg204
 z25:=Tryz.sizeOf204
 v25:=Tryz.zeroValue204
 t39:=Tryz.underlying228
 a39:=Tryz.isAgg228
 z39:=Tryz.sizeOf228
 v39:=Tryz.zeroValue228
 t45:=Tryz.underlying399
 a45:=Tryz.isAgg399
 z45:=Tryz.sizeOf399
 v45:=Tryz.zeroValue399
 t46:=Tryz.underlying400
 a46:=Tryz.isAgg400
 z46:=Tryz.sizeOf400
 v46:=Tryz.zeroValue400
 t50:=Tryz.underlying105
 a50:=Tryz.isAgg105
 z50:=Tryz.sizeOf105
 v50:=Tryz.zeroValue105
 t53:=Tryz.underlying318
 a53:=Tryz.isAgg318
 z53:=Tryz.sizeOf318
 v53:=Tryz.zeroValue318
 t55:=Tryz.underlying407
 a55:=Tryz.isAgg407
 z55:=Tryz.sizeOf407
 v55:=Tryz.zeroValue407
 t66:=Tryz.underlying431
 a66:=Tryz.isAgg431
 z66:=Tryz.sizeOf431
 v66:=Tryz.zeroValue431
 t70:=Tryz.underlying308
 a70:=Tryz.isAgg308
 z70:=Tryz.sizeOf308
 v70:=Tryz.zeroValue308
 t76:=Tryz.underlying443
 a76:=Tryz.isAgg443
 z76:=Tryz.sizeOf443
 v76:=Tryz.zeroValue443
 t77:=Tryz.underlying444
 a77:=Tryz.isAgg444
 z77:=Tryz.sizeOf444
 v77:=Tryz.zeroValue444}
open Go.Shelf Go.RowKit Go.Lib Go.Sort Go.Am
def Gi (a b:List UInt8):Int:=if lI a b=true then -1 else if lI b a=true then 1 else 0
theorem adS (a b:List UInt8):decide (Gi a b<0)=lI a b:=by
 grind [Gi]
theorem adT (a b:List UInt8) (ha:a.length<=1048576) (hb:b.length<=1048576):aC Tryz.prog 100 [.ai a, .ai b] (.aa .i64 (Gi a b)):=by
 have h1:=TA a b ha hb;have h2:=TA b a hb ha;refine bK Tryz.func100 ?_;unfold Gi;refine ak ?_;cases lI a b with
 |true=>
  exact bm
 |false=>
  refine ak ?_;cases lI b a with
  |true=>
   exact bm
  |false=>
   exact bm
abbrev zK:={s:List UInt8 // s.length<=1048576}
instance:Inhabited zK:=⟨⟨[],Nat.zero_le _⟩⟩
def nF (s:zK):Value:= .string ⟨s.1.toArray⟩
def DG (a b:zK):Int:=Gi a.1 b.1
theorem Jt (a b:zK):ltOf DG a b=lI a.1 b.1:=adS a.1 b.1
theorem adZ:SWO (ltOf DG) where
 irrefl x:=by rw [Jt];exact SI _
 trans x y z h1 h2:=by grind [Jt,I2]
 ntrans x y z h1 h2:=by
  grind [Jt,I2,Mo]
theorem ad1 {w w':World} (h1:w'.heap=w.heap) (h2:w'.tape=w.tape) (h3:w'.drawn=w.drawn) (h4:w'.os=w.os) (h5:w'.output=w.output):w'=w:=by
 cases w;cases w';simp_all
theorem adR {w w':World} (h:Go.RowKit.Below w.heap.size w w') (hd:w.drawn<=w'.drawn):∃ q os,w'=grow (w.drewN q) os:=by
 refine ⟨w'.drawn - w.drawn,w'.heap.extract w.heap.size w'.heap.size,ad1 ?_ h.tape ?_ h.os h.output⟩
 ·show w'.heap=w.heap++w'.heap.extract w.heap.size w'.heap.size;apply Array.ext_getElem?;intro k;rw [Array.getElem?_append];split
  ·rename_i hk;exact h.block k hk
  grind
 ·show w'.drawn=w.drawn+(w'.drawn - w.drawn);omega
theorem adX {ex:Nat->Prop} {B c:Nat} {w:World} {arr:List Value} {T:TypeId} {z:Nat×Nat} (hB:B<=c\/ex c) (hs:B<=w.heap.size) (a1:w.heap[c]? =some (.cells arr.toArray T z)) (m:Nat) (os:Array Obj) (dk:Array zK):
  Am.oL ex B w (sortWorld nF w c 0 m dk os):=by
 have hget:∀ k,k<B->(sortWorld nF w c 0 m dk os).heap[k]? =(putRow nF (Sort.ahead w m) c 0 dk).heap[k]?:=λk hk=>by
  show ((putRow nF (Sort.ahead w m) c 0 dk).heap++os)[k]? =_;have:k<(putRow nF (Sort.ahead w m) c 0 dk).heap.size:=by
   show k<(w.heap.modify c _).size;grind
  grind
 refine ⟨rfl,rfl,rfl,?_,λk hk hn=>?_,λk hk=>?_⟩
 ·show w.heap.size<=((w.heap.modify c _)++os).size;simp_all
 ·rw [hget k hk];show (w.heap.modify c _)[k]? =_;grind
 ·unfold World.shape?;rw [hget k hk];show (match (w.heap.modify c _)[k]? with|some (.cells cs e _)=>some (e,cs.size)|_=>none)=_;grind [putCells,onCells]
theorem adU (blk off size:Nat) (w:World) (hG:∀ m os dk,mb Tryz.prog (sortWorld nF w blk off m dk os)):CmpLays1 Tryz.prog 100 #[] nF DG blk off size w:=by
 intro m os dk _ x y;have h:=adT x.1 y.1 x.2 y.2;refine (h.H7 _ (λ_ _=>False) [nF x,nF y] (hG _ _ _) (λ_ _ h=>h.elim) rfl (λi z v hz hv=>?_)).mono ?_
 ·match i,hz,hv with
  |0,hz,hv=>cases hz;cases hv;exact .gX rfl
  |1,hz,hv=>cases hz;cases hv;exact .gX rfl
  |i+2,hz,_=>cases hz
 ·rintro e w' ⟨v,F',rfl,⟨h1,h2⟩,_,_,h5⟩;refine ⟨?_,adR h1 h2⟩;cases h5;rfl
def rq (l:List (List UInt8)):List ae:=l.map λt=> .ai t
theorem Uh (l:List (List UInt8)):(l5 l).flatten=rq l:=by
 induction l with
 |nil=>rfl
 |cons a l ih=>show [ae.ai a]++(l5 l).flatten=_;rw [ih];rfl
theorem Ui:∀ l:List (List UInt8),fL (rq l)=true
 |[]=>rfl
 |_::l=>Ui l
def Ni (l:List (List UInt8)) (hl:∀ t∈l,t.length<=1048576):List zK:=l.attach.map λt=>⟨t.1,hl t.1 t.2⟩
theorem adV (l:List (List UInt8)) (hl:∀ t∈l,t.length<=1048576):(Ni l hl).map (·.1)=l:=by
 unfold Ni;simp_all
theorem adY {d d':Array zK} (hp:PermIn 0 d.size d d') (hs:SortedIn (ltOf DG) 0 d.size d'):d'.toList.map (·.1)=kN (d.toList.map (·.1)):=by
 obtain ⟨h1,_,h3⟩:=hp;have e1:d.extract 0 d.size=d:=Array.extract_size;have e2:d'.extract 0 d.size=d':=by simp_all
 rw [e1,e2] at h3;refine SJ (h3.map _) ?_;rw [List.pairwise_map,List.pairwise_iff_getElem];intro i j hi hj hij;have hi':i<d'.size:=by simpa using hi
 have hj':j<d'.size:=by simpa using hj
 have:=hs i j (Nat.zero_le _) hij om;rw [Jt,getElem!_pos d' j hj',getElem!_pos d' i hi'] at this;exact this
theorem adW {σ:az} {n:Nat} {K:ae->az->Nat->Prop} (i len:Nat) (l:List (List UInt8)) (T:TypeId) (hl:∀ t∈l,t.length<=1048576) (hlen:len=l.length) (h2:l.length<=1048576) (hs:σ (.af i)= .aR T (rq l))
  (hK:K (.aw []) (aU σ (.af i) (.aR T (rq (kN l)))) n):bz Tryz.prog 166 [.aL i 0 1 len true, .aP 100 [] []] σ n K:=by
 refine ⟨Am.lC (fn:=Tryz.f166) aG rfl aG,λb g w vals h hvl hv=>?_⟩
 match vals,hvl with
 |[v1,v2],_=>
 obtain ⟨c,cap,ad,hc,rfl,_,_,hle,hf⟩:=(hv 0 _ v1 rfl rfl).mK;obtain ⟨_,rfl,T',hsh⟩:=hf rfl;obtain ⟨vs,us,rfl,l1,l2,_⟩:=(hv 1 _ v2 rfl rfl).y7;obtain rfl:vs=[]:=List.eq_nil_of_length_eq_zero l1;obtain rfl:us=[]:=List.eq_nil_of_length_eq_zero l2;obtain ⟨arr,z,a1,a2,a3,a4⟩:=h.oN i T (rq l) c hs hc;have hcl:c<w.heap.size:=h.eU i c hc;have hfl:(rq l).length=l.length:=List.length_map _
 let d:Array zK:=(Ni l hl).toArray
 have hdv:d.toList.map (·.1)=l:=adV l hl;have hds:d.size=l.length:=by
  grind
 have hH:Holds nF w c 0 d:=λj hj=>by
  have hj':j<l.length:=om;have hja:j<arr.length:=om;have hx:(rq l)[j]? =some (.ai l[j]):=by grind [rq]
  have hr:=a4 j _ arr[j] hx (List.getElem?_eq_getElem hja);have he:arr[j]=nF d[j]!:=by
   have e1:d[j]!.1=l[j]:=by
    grind
   unfold nF;rw [e1];generalize arr[j]=u at hr;cases hr with
   |gX hb=>rename_i ba;rw [<-hb]
  grind [World.cell?,World.frozen?]
 have eg:∀ args w,(callFunc 100 args).run Tryz.prog w= .ok (.enter 100 args) w:=Am.lC (fn:=Tryz.f100) aG rfl aG;have hcon:=Any.slices_SortFunc Uf nF (λ_=>rfl) DG adZ 100 #[] c 0 cap d w eg (adU c 0 d.size w λm os dk=>b.EB _ (h.dU.xl (adX (h.dq i (by rw [hs];rfl)|>.elim λc' hc'=>by obtain ⟨q1,q2,_⟩:=hc';rw [hc] at q1;cases q1;exact q2) h.dU.kX a1 m os dk))) hH hcl om;rw [hds] at hcon;subst hlen;refine hcon.mono ?_;rintro e w' ⟨rfl,d',q,os,hp,hso,rfl⟩;have hp':PermIn 0 d.size d d':=by rw [hds];exact hp
 have hso':SortedIn (ltOf DG) 0 d.size d':=by rw [hds];exact hso
 have hsv:=adY hp' hso';rw [hdv] at hsv;have hds':d'.size=l.length:=by rw [hp'.1,hds]
 obtain ⟨g1,E1⟩:=h.pE (w':=Sort.ahead w q) ⟨rfl,rfl,rfl,Nat.le_refl _,λ_ _=>rfl⟩ (by simp_all);have hput:(putRow nF (Sort.ahead w q) c 0 d').heap[c]? =some (.cells (putCells nF 0 d' arr.toArray) T z):=by
  show (w.heap.modify c _)[c]? =_;rw [Array.getElem?_modify,if_pos rfl,a1];rfl
 have hw:kj c (Sort.ahead w q) (putRow nF (Sort.ahead w q) c 0 d'):=by
  refine ⟨rfl,rfl,rfl,?_,λk hk=>?_,?_,λds hd=>?_,rfl⟩
  ·simp_all
  ·show (w.heap.modify c _)[k]? =_;rw [Array.getElem?_modify,if_neg (Ne.symm hk)];rfl
  ·unfold World.shape?;rw [hput];show _=(match w.heap[c]? with|some (.cells cs e _)=>some (e,cs.size)|_=>none);grind [putCells]
  simp_all
 obtain ⟨g2,E2⟩:=g1.j8 (X:= .aR T (rq (kN l))) (by rw [hs];rfl) hc hw (λ_=>by
  refine ⟨(putCells nF 0 d' arr.toArray).toList,z,by rw [hput],?_,?_,?_⟩
  ·grind [rq,putCells]
  ·grind [putCells]
  ·intro j x v hx hvv;have hjs:j<(kN l).length:=by
    grind [rq]
   have hjl:j<l.length:=by grind
   have hja:j<arr.length:=om;have ex:x= .ai (kN l)[j]:=by
    grind [rq]
   have ev:v=nF d'[j]!:=by
    grind [putCells]
   have e1:d'[j]!.1=(kN l)[j]:=by
    grind
   rw [ex,ev,<-e1];exact .gX rfl)
 obtain ⟨g3,E3⟩:=g2.pE (w':=grow (putRow nF (Sort.ahead w q) c 0 d') os) ⟨rfl,rfl,rfl,by simp_all,λk hk=>heap_grow_old _ _ hk⟩ (Nat.le_refl _);exact ⟨_,_,_,n,_,rfl,hK,Nat.le_refl _, .jN (vs:=[]) rfl (by simp),g3,(E1.gD E2).gD E3⟩
open Go.Shelf Go.RowKit Go.Lib Go.Am
theorem ad9 (q:Bool):aC Tryz.prog 166 [.ag q 1 [] .av, .aP 100 [] []] (.aw []):=by
 refine ⟨Am.lC (fn:=Tryz.f166) aG rfl aG,λw F vals _ _ hvl hv=>?_⟩
 match vals,hvl with
 |[v1,v2],_=>
 obtain ⟨ad,c,rfl,_,_⟩:=(aF.bC (g:=⟨F,λ_=>none,λ_=>none⟩) (hv 0 _ v1 rfl rfl)).jj;have hL:SlLaysF0.n6 Tryz.prog Ug:={Uf with};have hcon:=AnyF.slices_SortFunc_none hL ad c v2 w;change Calls Tryz.prog 166 #[.slice ad 0 c,v2] w _ at hcon;refine hcon.mono ?_;rintro e w' ⟨rfl,rfl⟩;exact ⟨_,F,rfl,⟨Below.refl _ _,Nat.le_refl _⟩,λ_ _ h=>h,λ_ _ h=> .inl h, .rT (vs:=[]) rfl (λi x v h=>by simp at h)⟩
theorem Uq (x:Nat×gS) (hx:yi x) (hl:x.2.length<=1048576) (hs:∀ e∈x.2,e.2.1.length<=1048576):
  IC Tryz.prog 48 x.1 (jI x.2) [.cg 0] (.ag (decide (x.2=[])) 1 (l5 (kN (x.2.map (·.2.1)))) .av):=by
 refine IC.aac dW jd (fn:=Tryz.f48) aG rfl aG rfl rfl ?_
 conv=>whnf
 refine bn Tryz.func99 ?_
 conv=>whnf
 refine bz.xG dW (fn:=Tryz.f98) aG rfl aG rfl rfl ?_;refine eK ?_;refine eK ?_;refine bn Tryz.func165 ?_
 conv=>whnf
 refine bn Tryz.func217 ?_
 conv=>whnf
 refine db.Ft 11 9 1 rfl ?_;refine db.Fs [(2, .ar 11 0)] ⟨rfl,rfl,trivial⟩ rfl rfl ?_;refine bn Tryz.func167 ?_
 conv=>whnf
 refine mf.Rf (kt:=9) (et:=64) aG rfl rfl (.inr rfl) ?_
 conv=>whnf
 refine db.cK (λv:gS=>[(.aj 0, .ah (.cw 15)),(.aj 5, .ah (.cz 17)),(.af 0, .eT (.dP x.1 (jI x.2))),(.af 17, .c9 (.oO 0 x.1 (v.map (·.1)) x.1)),
  (.af 11, .au 45 [.ag (decide (v=[])) 1 (l5 (v.map (·.2.1))) (.cO 14)]),(.aJ 14, .aN 9 1 v.length),
  (.af 15, .eZ .ready none 13 [(2, .ar 11 0)] [7] (DB Tryz.f217 0).1 (DB Tryz.f217 0).2)]) 18
  (λv=>(v.map (·.1)).Nodup/\∀ e∈v,e∈x.2) (λv=>x.2.length - v.length) dd [] ⟨List.nodup_nil,λe h=>by cases h⟩ ⟨rfl,rfl,rfl,rfl,rfl,rfl,rfl,rfl,rfl,rfl,rfl,rfl,rfl,rfl,trivial⟩ ?_
 rintro v ⟨h1,h2⟩;refine cn ?_;have hvl:v.length<=x.2.length:=uW (Bf _ h1) h2;have hel:=Gd (v.map (·.2.1));rw [List.length_map] at hel;refine mf.Re rfl rfl rfl (.inr rfl) (λe he=>?_) (Nat.le_refl _) (λe he hns=>?_) (λhall=>?_)
 ·obtain ⟨y,hy,rfl⟩:=List.mem_map.1 he;exact hx.Dn y hy
 ·obtain ⟨y,hy,rfl⟩:=List.mem_map.1 he;have hns:y.1∉v.map (·.1):=hns;have hlt:v.length<x.2.length:=by
   have:=uW (l:=v++[y]) (m:=x.2) (Bf (·.1) (by
    grind)) (λa ha=>by
    grind)
   grind
  have hnd:((jI x.2).map (·.1)).Nodup:=by
   grind [jI,hx.wK]
  refine ak ?_;refine mf.Rc rfl rfl rfl (.inr rfl) rfl hnd (.ai y.2.1, .aK (iF y.2.2)) he ?_
  conv=>whnf
  refine CH.Fu dW jd rfl rfl rfl (λlp=>?_)
  conv=>whnf
  refine ⟨⟨hel.symm,dG (by grind) dd⟩,?_⟩
  conv=>whnf
  refine ⟨v++[y],⟨?_,λa ha=>?_⟩,by grind,rfl,rfl,rfl,rfl,rfl,rfl,?_,rfl,?_,rfl,?_,rfl,rfl,rfl,trivial⟩
  ·grind
  ·grind
  ·rw [List.map_append];rfl
  ·show bs.au _ [ae.ag (decide (v=[]) && false) 1 (l5 (v.map (·.2.1))++[[ae.ai y.2.1]]) _]=bs.au _ [ae.ag (decide (v++[y]=[])) 1 (l5 ((v++[y]).map (·.2.1))) _];rw [Bool.and_false,decide_eq_false (by simp),List.map_append];grind [l5]
  ·show bs.aN _ 1 ((l5 (v.map (·.2.1))).length+1)=bs.aN _ 1 (v++[y]).length;simp_all
 ·have hper:(v.map (·.2.1)).Perm (x.2.map (·.2.1)):=(Sq (Bf _ h1) (Bf _ hx.wK) λa=>⟨h2 a,λha=>by
   have hin:a.1∈v.map (·.1):=hall (a.1, .ai a.2.1, .aK (iF a.2.2)) (List.mem_map.2 ⟨a,ha,rfl⟩);grind [FT,hx.wK]⟩).map _
  have hvx:decide (v=[])=decide (x.2=[]):=by
   grind [hper.length_eq]
  have hlv:(v.map (·.2.1)).length=v.length:=List.length_map _;rw [hvx];generalize hV:v.map (·.2.1)=L at*;have hsl:∀ s∈L,s.length<=1048576:=λs hsL=>by
   grind
  have hso:kN L=kN (x.2.map (·.2.1)):=SJ ((tM L).trans hper) (Mq L);rw [<-hso];refine ak ?_
  by_cases hL:L=[]
  ·subst hL;refine cn ?_;refine bz.eV (ad9 _) rfl ?_
   conv=>whnf
   exact iL.mj rfl
  ·have hn:(l5 L).length=L.length:=Gd L;have hne:l5 L≠[]:=λe=>hL (by grind)
   refine db.LD (m:=15) (es:=[(.aj 1, .ah (.aP 100 [] []))]) 5 14 ⟨rfl,rfl,trivial⟩ dd rfl dd rfl (by rw [hn,hlv];rfl) dd hne (λel hel y hy=>by
    obtain ⟨s,_,rfl⟩:=List.mem_map.1 hel;rw [List.mem_singleton] at hy;subst hy;rfl) ?_
   rw [Uh,hn];refine cn ?_;refine adW 15 _ L _ hsl rfl om rfl ?_;have hx0:decide (x.2=[])=false:=by
    grind
   have hlen:(l5 (kN L)).length=L.length:=by rw [Gd,(tM L).length_eq]
   have hfl:=Uh (kN L);have hfll:(rq (kN L)).length=L.length:=by rw [rq,List.length_map,(tM L).length_eq]
   rw [hx0]
   conv=>whnf
   refine .zf rfl hlen (λel hel=>by
    obtain ⟨s,_,rfl⟩:=List.mem_map.1 hel;rfl) (by rw [hfll];omega) ?_ ?_
   ·grind
   grind [Ui]
theorem ad8 (x:Nat×gS) (hx:yi x) (hl:x.2.length<=1048576) (hs:∀ e∈x.2,e.2.1.length<=1048576):
  ∃ q,IC Tryz.prog 48 x.1 (jI x.2) [.cg 0] (.ag q 1 (l5 (kN (x.2.map (·.2.1)))) .av):=⟨_,Uq x hx hl hs⟩
def Gj (t:dH):List ae:=[.ai t.dx, .aa .i64 t.eM, .ai t.wJ]
def iN (l:List dH):List (List ae):=l.map Gj
theorem DH (l:List dH):(iN l).length=l.length:=by simp [iN]
theorem zL {l:List dH} {k:Nat} (h:k<l.length):(iN l)[k]? =some (Gj l[k]):=by grind [iN]
abbrev pU:=List (Nat×Int)
def ru (m:pU):iC:=m.map λe=>(e.1, .aa .i64 e.2, .aE true)
def fY (m:pU):List Int:=m.map (·.2)
theorem Un (z:Int):∀ m:pU,qv (.aa .i64 z) (ru m)=if (fY m).contains z=true then some (.aE true) else none
 |[]=>rfl
 |e::m=>by
  show (match mo (.aa .i64 e.2) (.aa .i64 z) with|true=>some (ae.aE true)|false=>qv (.aa .i64 z) (ru m))=_;rw [Un z m];grind [mo,fY]
theorem Um (m:pU):∀ e∈ru m,oh (.int .i64) e.2.1:=λe h=>by
 obtain ⟨x,_,rfl⟩:=List.mem_map.1 h;rfl
abbrev DI (nil:Bool) (l:List aI) (c:Nat) (m:pU) (acc:List dH):List (Am.aS×bs):=
 [(.af 0, .au 25 [.ag nil 8 (cT l) .av]),(.af 4, .c9 (.dP c (ru m))),(.af 8, .au 141 [.cg 4]),
  (.af 15, .au 55 [.ag (decide (acc=[])) 3 (iN acc) (.cO 17)]),(.aJ 17, .aN 60 3 acc.length),
  (.af 16, .au 142 [.aP 46 [] [.ar 0 0, .ar 8 0, .ar 15 0, .ar 16 0]])]
def Nj (nil:Bool) (l:List aI) (c:Nat) (m:pU) (dir:Int) (path:List UInt8) (res:List dH):Prop:=∀ acc:List dH,acc.length+res.length<=1048576->
 bz Tryz.prog 46 [.aa .i64 dir, .ai path, .ar 0 0, .ar 8 0, .ar 15 0, .ar 16 0] (aD (DI nil l c m acc)) 18
  (cG 18 λx es=>x= .cE (.aw [])/\es=DI nil l c m (acc++res))
def ph (outs:List Int) (v:gS) (e:Nat×List UInt8×aI):Bool:=!(v.map (·.1)).contains e.1||!outs.contains e.2.2.bc
theorem ad4 {x:Nat×gS} (hx:yi x) {outs:List Int} {v:gS} {y:Nat×List UInt8×aI} (hy:y∈x.2) (hns:y.1∉v.map (·.1)):
  (if outs.contains y.2.2.bc=true then Bo y.2.1 (x.2.filter (ph outs v)) else x.2.filter (ph outs v))=x.2.filter (ph outs (v++[y])):=by
 have hc:(v.map (·.1)).contains y.1=false:=by simp_all
 have hl:ph outs v y=true:=by grind [ph]
 have hstep:∀ e∈x.2,ph outs (v++[y]) e=(if e.1=y.1 then !outs.contains y.2.2.bc else ph outs v e):=λe he=>by
  grind [ph,FT,hx.wK]
 split
 ·rename_i ho;rw [abC hx.uZ hy _ hl];grind [List.filter_congr,FT,hx.wK,hx.uZ]
 grind [List.filter_congr,FT,hx.wK]
theorem ad3 {x:Nat×gS} {outs:List Int} {v:gS} (h:∀ e∈x.2.filter (ph outs v),e.1∈v.map (·.1)):x.2.filter (ph outs v)=x.2.filter λe=>!outs.contains e.2.2.bc:=by
 apply List.filter_congr;intro e he;grind [ph]
theorem Ul (T:TypeId) (r:Nat) (A:List dH) (t:dH):bs.au T [ae.ag (decide (A=[]) && false) 3 (iN A++[Gj t]) (.cO r)]=bs.au T [ae.ag (decide (A++[t]=[])) 3 (iN (A++[t])) (.cO r)]:=by
 rw [Bool.and_false,decide_eq_false (by simp)];grind [iN]
theorem Ur (T:TypeId) (A:List dH) (t:dH):bs.aN T 3 ((iN A).length+1)=bs.aN T 3 (A++[t]).length:=by
 grind [DH]
theorem Uk (nil:Bool) (l:List aI) (c:Nat) (m:pU) (dir:Int) (path:List UInt8) (sub:Int->List UInt8->List dH) (hl:l.length<=1000) (hi:∀ n∈l,dX n.bc) (hs:∀ n∈l,n.fm.length<=1000) (hp:path.length<=2000000)
  (hsub:∀ s n,gT s (iE l (fY m) dir)=some n->fk n.bc=true->Nj nil l c m n.bc (rl path s) (sub n.bc (rl path s))):
  Nj nil l c m dir path (zF sub (iE l (fY m) dir) path):=by
 intro acc hacc;have hsn:=MW nil l dir om;obtain ⟨hok,hmem⟩:=Dp l dir;refine bn Tryz.func46 ?_
 conv=>whnf
 refine bz.Fp (es:=[]) trivial rfl (Nat.zero_le _) rfl hsn ?_;rintro x es ⟨rfl,rfl⟩;have hinner:iE l (fY m) dir=(ke l dir).2.filter λe=>!(fY m).contains e.2.2.bc:=rfl
 have hiok:=MC l (fY m) dir;have hidir:∀ s n,gT s (iE l (fY m) dir)=some n->n∈l/\s.length<=1000:=λs n hf=>by
  obtain ⟨q1,_,q3,_⟩:=zE hf;grind
 have hifind:∀ s∈(iE l (fY m) dir).map (·.2.1),∃ n,gT s (iE l (fY m) dir)=some n:=λs hsm=>by
  obtain ⟨e,he,rfl⟩:=List.mem_map.1 hsm;exact ⟨e.2.2,SV hiok.uZ he⟩
 have hilen:(iE l (fY m) dir).length<=1000:=by
  have:=uW (l:=(iE l (fY m) dir).map (·.2.1)) (m:=l.map (·.fm)) hiok.uZ λs hsm=>by
   obtain ⟨n,hf⟩:=hifind s hsm;obtain ⟨q1,_,q3,_⟩:=zE hf;grind
  grind
 generalize ke l dir=S at*
 conv=>whnf
 refine mf.Rf (kt:=9) (et:=64) aG rfl rfl (.inl rfl) ?_
 conv=>whnf
 refine db.cK (λv:gS=>(.aj 0, .ah (.aa .i64 dir))::(.aj 1, .ah (.ai path))::(.aj 2, .ah (.ar 0 0))::(.aj 3, .ah (.ar 8 0))::(.aj 4, .ah (.ar 15 0))::(.aj 5, .ah (.ar 16 0))::(.aj 8, .ah (.cg 20))::(.aj 19, .ah (.cz 23))::
  (.af 20, .c9 (.dP S.1 (jI (S.2.filter (ph (fY m) v)))))::(.af 23, .c9 (.oO 20 S.1 (v.map (·.1)) S.1))::DI nil l c m acc) 24
  (λv=>(v.map (·.1)).Nodup/\∀ e∈v,e∈S.2) (λv=>S.2.length - v.length) dd [] ⟨List.nodup_nil,λe h=>by cases h⟩ ⟨rfl,rfl,rfl,rfl,rfl,rfl,rfl,rfl,rfl,rfl,rfl,rfl,rfl,rfl,rfl,rfl,?_,rfl,rfl,rfl,rfl,rfl,rfl,rfl,rfl,rfl,rfl,rfl,rfl,rfl,rfl,rfl,trivial⟩ ?_
 ·have e:S.2.filter (ph (fY m) [])=S.2:=List.filter_eq_self.2 λ_ _=>rfl
  rw [e];rfl
 rintro v ⟨h1,h2⟩;refine cn ?_;have hvl:v.length<=S.2.length:=uW (Bf _ h1) h2;have hsub':(S.2.filter (ph (fY m) v)).Sublist S.2:=List.filter_sublist;refine mf.Re rfl rfl rfl (.inl rfl) (λe he=>?_) (Nat.le_refl _) (λe he hns=>?_) (λhall=>?_)
 ·obtain ⟨y,hy,rfl⟩:=List.mem_map.1 he;exact hok.Dn y (hsub'.mem hy)
 ·obtain ⟨y,hy,rfl⟩:=List.mem_map.1 he;have hyS:y∈S.2:=hsub'.mem hy;have hns:y.1∉v.map (·.1):=hns;have hnd1:((v++[y]).map (·.1)).Nodup:=by
   grind
  have hv2:∀ a∈v++[y],a∈S.2:=λa ha=>by
   grind
  have hlt:v.length<S.2.length:=by
   have:=uW (Bf _ hnd1) hv2;grind
  have hnd:((jI (S.2.filter (ph (fY m) v))).map (·.1)).Nodup:=by
   grind [jI,hok.wK]
  have hdel:=ad4 hok (outs:=fY m) hyS hns;refine ak ?_;refine mf.Rc rfl rfl rfl (.inl rfl) rfl hnd (.ai y.2.1, .aK (iF y.2.2)) he ?_
  conv=>whnf
  refine mf.xQ dW (kt:=3) (et:=4) (d:= .int .i64) aG aG rfl rfl aG rfl rfl (.inl rfl) rfl (Um m) (if (fY m).contains y.2.2.bc=true then some (.aE true) else none) (Un y.2.2.bc m) ?_
  by_cases ho:(fY m).contains y.2.2.bc=true
  ·rw [if_pos ho] at hdel ⊢;refine ak ?_;refine mf.Z7 (kt:=9) (et:=64) (d:= .string) aG aG rfl rfl rfl rfl rfl rfl rfl (DA _) (jI (Bo y.2.1 (S.2.filter (ph (fY m) v)))) (TL _ _) ?_;rw [hdel]
   conv=>whnf
   refine ⟨v++[y],⟨hnd1,hv2⟩,by grind,rfl,rfl,rfl,rfl,rfl,rfl,rfl,rfl,rfl,rfl,rfl,rfl,rfl,rfl,rfl,rfl,rfl,rfl,?_,rfl,rfl,rfl,rfl,rfl,rfl,rfl,rfl,rfl,rfl,rfl,rfl,rfl,trivial⟩;rw [List.map_append];rfl
  ·rw [if_neg ho] at hdel ⊢
   conv=>whnf
   refine ⟨v++[y],⟨hnd1,hv2⟩,by grind,rfl,rfl,rfl,rfl,rfl,rfl,rfl,rfl,rfl,rfl,rfl,rfl,rfl,rfl,rfl,rfl,?_,rfl,?_,rfl,rfl,rfl,rfl,rfl,rfl,rfl,rfl,rfl,rfl,rfl,rfl,rfl,trivial⟩
   ·rw [<-hdel];rfl
   ·rw [List.map_append];rfl
 ·have hin:S.2.filter (ph (fY m) v)=iE l (fY m) dir:=by
   rw [hinner];exact ad3 λe he=>hall (e.1, .ai e.2.1, .aK (iF e.2.2)) (List.mem_map.2 ⟨e,he,rfl⟩)
  rw [hin];obtain ⟨qn,hrp⟩:=ad8 (S.1,iE l (fY m) dir) hiok (by grind) (λe he=>by
   obtain ⟨n,hf⟩:=hifind e.2.1 (List.mem_map.2 ⟨e,he,rfl⟩);grind)
  unfold zF at hacc ⊢;have hns:∀ s∈kN ((iE l (fY m) dir).map (·.2.1)),∃ n,gT s (iE l (fY m) dir)=some n:=λs hsm=>hifind s ((tM _).mem_iff.1 hsm)
  have hnl:(kN ((iE l (fY m) dir).map (·.2.1))).length<=1000:=by rw [(tM _).length_eq,List.length_map];exact hilen
  simp only at hrp;generalize kN ((iE l (fY m) dir).map (·.2.1))=N at*;generalize hI:iE l (fY m) dir=I at*;have hNl:=Gd N;refine ak ?_;refine bz.Ra hrp rfl ?_
  conv=>whnf
  refine db.cK (λk:Nat=>(.aj 1, .ah (.ai path))::(.aj 4, .ah (.ar 15 0))::(.aj 5, .ah (.ar 16 0))::(.aj 8, .ah (.cg 20))::(.aj 32, .ah (.ag qn 1 (l5 N) .av))::(.aj 33, .ah (.aa .i64 N.length))::(.aj 34, .ah (.aa .i64 k))::
   (.af 20, .c9 (.dP S.1 (jI I)))::DI nil l c m (acc++(N.take k).flatMap (qB sub I path))) 24
   (λk=>k<=N.length) (λk=>N.length - k) dd 0 (Nat.zero_le _) ⟨rfl,rfl,rfl,rfl,rfl,rfl,rfl,rfl,rfl,rfl,?_,rfl,rfl,rfl,rfl,rfl,rfl,rfl,rfl,rfl,rfl,rfl,?_,rfl,?_,rfl,rfl,rfl,trivial⟩ ?_
  ·show bs.ah (ae.aa .i64 (l5 N).length)=_;rw [hNl]
  ·rw [List.take_zero,List.flatMap_nil,List.append_nil];rfl
  ·rw [List.take_zero,List.flatMap_nil,List.append_nil];rfl
  rintro k hk;refine cn ?_;refine ⟨λh=>?_,λh=>?_⟩
  ·have h:=of_decide_eq_true h;have hlt:k<N.length:=om;have hg:=TM hlt;obtain ⟨nd,hfd⟩:=hns N[k] (List.getElem_mem hlt);obtain ⟨hndl,hsl⟩:=hidir _ _ hfd;have htk:(N.take (k+1)).flatMap (qB sub I path)=(N.take k).flatMap (qB sub I path)++Bq sub path N[k] nd:=by
    grind [List.take_succ_eq_append_getElem,qB]
   have hdr:=tS nd.bc (hi nd hndl);have hsubk:=hsub N[k] nd hfd;have hle:acc.length+((N.take (k+1)).flatMap (qB sub I path)).length<=1048576:=by
    grind [List.take_append_drop]
   rw [htk] at hle;generalize hA:acc++(N.take k).flatMap (qB sub I path)=A at*;have hAl:A.length=acc.length+((N.take k).flatMap (qB sub I path)).length:=by grind
   rw [List.length_append] at hle;have hA2:acc++(N.take (k+1)).flatMap (qB sub I path)=A++Bq sub path N[k] nd:=by grind
   generalize N[k]=s at*;have hAe:=DH A;have w1:IntKind.i64.wrap ((k:Int)+1)=((k+1:Nat):Int):=by grind [bj]
   refine ak ?_;refine mf.xQ dW (kt:=9) (et:=64) (d:= .string) aG aG rfl rfl aG rfl rfl (.inl rfl) rfl (DA _) ((gT s I).map λn=> .aK (iF n)) (Jm s I) ?_;rw [hfd,Option.map_some];have hpth:path++(ByteArray.mk #[47]).data.toList++s=rl path s:=rfl;have hpl:(path++(ByteArray.mk #[47]).data.toList).length=path.length+1:=List.length_append
   conv=>whnf
   refine ⟨by grind,?_⟩
   conv=>whnf
   refine ⟨by rw [hpl];omega,?_⟩
   conv=>whnf
   rw [hpth];generalize hP:rl path s=P at*;refine ⟨⟨hAe.symm,dG (by grind) dd⟩,?_⟩;refine ak ?_;unfold Bq at hA2 hle;rw [hP] at hA2 hle;cases hd:fk nd.bc with
   |false=>
    rw [hd,if_neg dd] at hA2;refine iV ?_;refine ⟨k+1,hlt,by grind,rfl,rfl,rfl,rfl,rfl,rfl,rfl,rfl,rfl,rfl,rfl,rfl,?_,rfl,rfl,rfl,rfl,rfl,rfl,rfl,rfl,rfl,?_,rfl,?_,rfl,rfl,rfl,trivial⟩
    ·exact dh
    ·rw [hA2];exact Ul _ _ A ⟨P,nd.bc,nd.ov⟩
    ·rw [hA2];exact Ur _ A ⟨P,nd.bc,nd.ov⟩
   |true=>
    rw [hd,if_pos rfl] at hA2 hle;refine ak ?_;have hrec:=hsubk hd (A++[dH.mk P nd.bc nd.ov]) (by
     grind)
    refine bz.Fp (es:=DI nil l c m (A++[dH.mk P nd.bc nd.ov])) (m:=18) ⟨rfl,rfl,rfl,rfl,rfl,rfl,?_,rfl,?_,rfl,rfl,rfl,trivial⟩ rfl dd rfl hrec ?_
    ·exact Ul _ _ A ⟨P,nd.bc,nd.ov⟩
    ·exact Ur _ A ⟨P,nd.bc,nd.ov⟩
    rintro x es ⟨rfl,rfl⟩;rw [show A++dH.mk P nd.bc nd.ov::sub nd.bc P=A++[⟨P,nd.bc,nd.ov⟩]++sub nd.bc P by simp] at hA2
    conv=>whnf
    refine ⟨k+1,hlt,by grind,rfl,rfl,rfl,rfl,rfl,rfl,rfl,rfl,rfl,rfl,rfl,rfl,?_,rfl,rfl,rfl,rfl,rfl,rfl,rfl,rfl,rfl,?_,rfl,?_,rfl,rfl,rfl,trivial⟩
    ·exact dh
    ·rw [hA2];rfl
    ·rw [hA2];rfl
  ·have h:=of_decide_eq_false h;obtain rfl:k=N.length:=om;rw [List.take_length]
   conv=>whnf
   exact ⟨_,_,⟨rfl,rfl⟩,rfl,⟨rfl,rfl⟩,rfl,rfl,rfl,rfl,rfl,rfl,rfl,rfl,rfl,rfl,rfl,rfl,trivial⟩
theorem Uj (nil:Bool) {l:List aI} (hc:fH l=true) (c:Nat) (m:pU) (hl:l.length<=1000) (hi:∀ n∈l,dX n.bc) (hs:∀ n∈l,n.fm.length<=1000) {top:Int} (ht:top∈fY m):
  ∀ (f:Nat) {ids:List Int} {dir:Int} {path:List UInt8},nE l (fY m) top ids dir->l.length<=ids.length+f->path.length<=1001*ids.length->Nj nil l c m dir path (ku l (fY m) f dir path)
 |0,ids,dir,path,hw,hf,hp=>by
  have hil:=hw.Ja hc ht;have he:iE l (fY m) dir=[]:=List.eq_nil_iff_forall_not_mem.2 λe he=>by
   obtain ⟨_,h1,h2,_,h4⟩:=SX he;have hpd:e.2.2.gh=dir:=by
    grind [ow]
   have:=(nE.qA hw h1 hpd h4).Ja hc ht;grind
  have hb:=Uk nil l c m dir path (λ_ _=>[]) hl hi hs om (λs n hf=>by rw [he] at hf;cases hf);rw [he] at hb;exact hb
 |f+1,ids,dir,path,hw,hf,hp=>by
  have hil:=hw.Ja hc ht;refine Uk nil l c m dir path (ku l (fY m) f) hl hi hs om λs n hfd _=>?_
  obtain ⟨h1,h2,h3,h4⟩:=zE hfd;have hpd:n.gh=dir:=by
   grind [ow]
  have hsl:s.length<=1000:=by grind
  refine Uj nil hc c m hl hi hs ht f (.qA hw h1 hpd h4) (by grind) ?_;grind [rl]
def zM (x:Nat×pU) (z:Int):Nat×pU:=if (fY x.2).contains z=true then x else (x.1+1,x.2++[(x.1,z)])
def Gk (z:Int):pU->Option iC:=λm=>if (fY m).contains z=true then some (ru m) else none
theorem Uo (z:Int):∀ m:pU,pJ (.aa .i64 z) (.aE true) (ru m)=Gk z m
 |[]=>rfl
 |e::m=>by
  show (match mo (.aa .i64 e.2) (.aa .i64 z) with|true=>some _|false=>match pJ (.aa .i64 z) (.aE true) (ru m) with|some l=>some _|none=>none)=_;rw [Uo z m];grind [Gk,mo,fY,ru]
theorem ad6 (x:Nat×pU) (z:Int):A5 x.1 (ru x.2) (.aa .i64 z) (.aE true) (Gk z x.2)= .dP (zM x z).1 (ru (zM x z).2):=by
 unfold zM Gk;split
 ·rfl
 ·show EM.dP (x.1+1) (ru x.2++[_])=EM.dP (x.1+1) (ru (x.2++[_]));grind [ru]
theorem ad7 (x:Nat×pU) (z y:Int):(fY (zM x z).2).contains y=((fY x.2).contains y||y==z):=by
 grind [zM,fY]
def vf (zs:List Int):Nat×pU:=zs.foldl zM (0,[])
theorem ad5 (zs:List Int) (y:Int):(fY (vf zs).2).contains y=zs.contains y:=by
 have key:∀ (zs:List Int) (x:Nat×pU),(fY (zs.foldl zM x).2).contains y=((fY x.2).contains y||zs.contains y):=by
  intro zs
  induction zs with
  |nil=>intro x;simp
  |cons z zs ih=>
   grind [ad7]
 exact key zs (0,[])
theorem ad2 {l:List aI} {o o':List Int} (h:∀ y,o.contains y=o'.contains y) (f:Nat):ku l o f=ku l o' f:=by
 have hin:∀ dir,iE l o dir=iE l o' dir:=λdir=>by
  grind [iE]
 induction f with
 |zero=>rfl
 |succ f ih=>
  grind [ku]
theorem DJ (nil:Bool) (l:List aI) (dir:Int) (hi:∀ n∈l,dX n.bc) (hl:l.length<=1000) (hs:∀ n∈l,n.fm.length<=1000):
  aC Tryz.prog 23 [.ag nil 8 (cT l) .av, .aa .i64 dir] (.ag (decide (eL l dir=[])) 3 (iN (eL l dir)) .av):=by
 have hck:=Bw nil l hi om;have hab:=Gc nil l dir hi om;unfold eL;refine aC.IH (Rj.II dW (fn:=Tryz.f23) aG rfl aG rfl rfl ?_);refine eK ?_;refine eK ?_;refine ak ?_;cases hc:fH l with
 |false=>
  refine ak ?_;exact ⟨_,iL.eR _ _ _,iL.bw _⟩
 |true=>
 rw [if_pos rfl];refine ak ?_;refine eK ?_;refine mf.Fq rfl ?_
 conv=>whnf
 refine mf.k8 (kt:=3) (et:=4) (d:= .int .i64) aG aG (.inr rfl) rfl rfl rfl rfl (λe h=>by cases h) none rfl ?_
 conv=>whnf
 refine eK ?_;refine ak ?_;have hlo:(jS l dir).length<=l.length:=by grind [jS,FX]
 have hlz:=Ji (jS l dir);generalize hZs:jS l dir=Zs at*
 conv=>whnf
 refine db.cK (λk:Nat=>[(.aj 1, .ah (.aa .i64 dir)),(.aj 2, .ah (.ar 0 0)),(.aj 5, .ah (.ar 8 0)),(.aj 18, .ah (.ag (decide (Zs=[])) 1 (ix Zs) .av)),(.aj 19, .ah (.aa .i64 Zs.length)),(.aj 20, .ah (.aa .i64 k)),
  (.af 0, .au 25 [.ag nil 8 (cT l) .av]),(.af 4, .c9 (.dP (vf (dir::Zs.take k)).1 (ru (vf (dir::Zs.take k)).2))),(.af 8, .au 141 [.cg 4])]) 14
  (λk=>k<=Zs.length) (λk=>Zs.length - k) dd 0 (Nat.zero_le _) ⟨rfl,rfl,rfl,rfl,rfl,rfl,rfl,rfl,?_,rfl,rfl,rfl,rfl,rfl,?_,rfl,rfl,rfl,trivial⟩ ?_
 ·show bs.ah (ae.aa .i64 (ix Zs).length)=_;rw [hlz]
 ·trivial
 rintro k hk;refine cn ?_;refine ⟨λh=>?_,λh=>?_⟩
 ·have h:=of_decide_eq_true h;have hlt:k<Zs.length:=om;have hg:=Gb hlt;have hstep:vf (dir::Zs.take (k+1))=zM (vf (dir::Zs.take k)) Zs[k]:=by
   grind [vf,List.take_succ_eq_append_getElem]
  generalize vf (dir::Zs.take k)=S at*;refine ak ?_;refine mf.k8 (kt:=3) (et:=4) (d:= .int .i64) aG aG (.inl rfl) rfl rfl rfl rfl (Um _) (Gk Zs[k] S.2) (Uo _ _) ?_
  conv=>whnf
  refine ⟨k+1,hlt,by grind,rfl,rfl,rfl,rfl,rfl,rfl,rfl,rfl,rfl,rfl,?_,rfl,rfl,rfl,?_,rfl,rfl,rfl,trivial⟩
  ·exact dh
  ·rw [hstep];exact congrArg bs.c9 (ad6 S Zs[k])
 ·have h:=of_decide_eq_false h;obtain rfl:k=Zs.length:=om;rw [List.take_length];have hmem:=ad5 (dir::Zs);have ht:dir∈fY (vf (dir::Zs)).2:=by
   have:=hmem dir;grind
  have hbr:=Uj nil hc (vf (dir::Zs)).1 (vf (dir::Zs)).2 hl hi hs ht l.length (.rk) om (path:=[]) (Nat.zero_le _);have hlen:=SS hc ht l.length (.rk) (path:=[]);rw [ad2 hmem] at hbr hlen;have hou:Br l dir=dir::Zs:=by grind [Br]
  rw [hou];generalize ku l (dir::Zs) l.length dir []=R at*;generalize vf (dir::Zs)=S at*
  conv=>whnf
  refine eK ?_;refine eK ?_;refine db.Ft 15 60 3 rfl ?_;refine cn ?_;have hb0:=hbr [] (by grind);rw [List.nil_append] at hb0
  conv=>whnf
  refine bz.Fp (es:=DI nil l S.1 S.2 []) (m:=18) ⟨rfl,rfl,rfl,rfl,rfl,rfl,rfl,rfl,rfl,rfl,rfl,rfl,trivial⟩ rfl dd rfl hb0 ?_;rintro x es ⟨rfl,rfl⟩
  conv=>whnf
  exact ⟨_,iL.bw _,iL.bw _⟩
theorem Ju (l:List aI) (dir:Int):(eL l dir).length<=l.length:=by
 unfold eL;split
 ·rename_i hc;exact SS hc (by grind [Br]) _ .rk
 simp_all
theorem aea (nil:Bool) (l:List aI) (dir:Int) (hi:∀ n∈l,dX n.bc) (hl:l.length<=1048576) (hs:∀ n∈l,n.fm.length<=1048576):
  aC Tryz.prog 140 [.ag nil 8 (cT l) .av, .aa .i64 dir] (.ag (decide (yj l dir=[])) 1 (l5 (yj l dir)) .av):=by
 have hck:=Bw nil l hi hl;have hsn:=MW nil l dir hl;obtain ⟨hok,hmem⟩:=Dp l dir;have hlen:(ke l dir).2.length<=l.length:=by
  have:=uW (l:=(ke l dir).2.map (·.2.1)) (m:=l.map (·.fm)) hok.uZ λs hs'=>by
   obtain ⟨e,he,rfl⟩:=List.mem_map.1 hs';exact List.mem_map.2 ⟨e.2.2,(hmem e he).1,hok.zD e he⟩
  simp_all
 have hrp:=Uq (ke l dir) hok om (λe he=>by rw [<-hok.zD e he];grind);have hq:decide ((ke l dir).2=[])=decide (kN ((ke l dir).2.map (·.2.1))=[]):=by
  have hp:=(tM ((ke l dir).2.map (·.2.1))).length_eq;grind
 rw [hq] at hrp;unfold yj;refine cU Tryz.func140 ?_;refine ak ?_;cases fH l with
 |false=>
  refine ak ?_;exact iL.eR _ _ _
 |true=>
  rw [if_pos rfl];refine ak ?_;refine bz.Fp (es:=[]) trivial rfl (Nat.zero_le _) rfl hsn ?_;rintro x es ⟨rfl,rfl⟩
  conv=>whnf
  refine bz.Ra hrp rfl ?_;exact bm
end Go.Proofs.YtffboamedcmpaaaGreatDoor
namespace Gw
theorem aec {r:Nat} (h:kM r):(47:UInt8)∈sx r↔r=47:=by
 unfold kM at h;have hne:∀ n:Nat,n<256->n≠47->UInt8.ofNat n≠47:=λn h1 h2 e=>h2 (by have:=congrArg UInt8.toNat e;grind [uX])
 constructor
 ·grind [sx,ye]
 ·rintro rfl;decide
theorem aed {m:List Nat} (h:∀ r∈m,kM r):(47:UInt8)∈wG m↔47∈m:=by
 grind [wG,aec]
theorem aeb {s:List UInt8} (h:o8 s=true):(47:UInt8)∉s/\s≠[]:=by
 unfold o8 at h;cases hs:mw s with
 |none=>simp_all
 |some l=>
  rw [hs] at h;obtain ⟨m,rfl,hm,rfl⟩:=I3.1 hs;simp only [Df,Bool.and_eq_true,Bool.not_eq_true',Bool.or_eq_false_iff,decide_eq_false_iff_not] at h;obtain ⟨⟨h1,_⟩,h2⟩:=h;refine ⟨λh3=>?_,λh3=>?_⟩
  ·have h4:=(aed hm).1 h3;have h5:(47:Int)∈pe m:=List.mem_map.2 ⟨47,h4,rfl⟩;grind [Bg]
  ·rw [h3] at hs;have e:pe m=[]:=by
    have:mw []=some []:=rfl;simp_all
   simp_all
theorem Ut:∀ (s:List UInt8),∀ t∈jP s,t.length<=s.length
 |[]=>by simp [jP]
 |b::l=>by
  have ih:=Ut l;grind [jP]
theorem Us {p:List UInt8} {y:List (List UInt8)} (h:ir p=some y):∀ t∈y,t.length<=p.length:=by
 unfold ir at h
 by_cases h0:p=[47]
 ·simp_all
 rw [if_neg h0] at h;cases p with
 |nil=>cases h
 |cons b r=>
  have h:(if b=47 then (if Bh (jP r)=true then some (jP r) else none) else none)=some y:=h;split at h
  ·split at h
   ·cases h;intro t ht;have:=Ut r t ht;simp;omega
   ·cases h
  ·cases h
structure bu where
 dD:Int
 bY:List UInt8
 fO:List UInt8
 ia:List UInt8
 cR:Int
structure BA where
 Nn:Bool
 No:Bool
 Nk:Bool
 Nl:Bool
def vg (k:Int):Option BA:=
 if k=1\/k=2\/k=6\/k=10 then some ⟨true,false,false,false⟩
 else if k=3 then some ⟨true,false,true,false⟩
 else if k=4\/k=7 then some ⟨true,false,false,true⟩
 else if k=5 then some ⟨true,true,false,false⟩
 else if k=9\/k=11 then some ⟨false,false,false,true⟩
 else if k=13 then some ⟨false,false,true,false⟩
 else if k=8\/k=12 then some ⟨false,false,false,false⟩
 else none
theorem aee {k:Int} {p:BA} (h:vg k=some p):1<=k/\k<=13:=by
 unfold vg at h
 repeat' split at h
 all_goals first|omega|cases h
def zN (s:List UInt8):Bool:=(ir s).isSome
def BB (k:Int):Nat:=if k=13 then 4000 else 64
def Gl (p:BA) (c:bu):Bool:=
 (if p.Nn=true then zN c.bY else decide (c.bY=[])) && ((if p.No=true then zN c.fO else decide (c.fO=[])) &&
 ((if p.Nk=true then decide (c.ia.length<=BB c.dD) else decide (c.ia=[])) && (if p.Nl=true then decide (0<=c.cR) else decide (c.cR=0))))
def yt (c:bu):Bool:=match vg c.dD with|none=>false|some p=>Gl p c
theorem Uu (s:List UInt8):∀ (f p:Nat) (acc l:List Int),s.length<p+f->pc s f p acc=some l->s.length+4*acc.length<=4*l.length+p
 |0,p,acc,l,hf,h=>by simp only [pc,Option.some.injEq] at h;subst h;omega
 |f+1,p,acc,l,hf,h=>by
  rw [pc] at h;have hd:=IZ s p;have hd4:=Mi s p;split at h
  ·split at h
   ·have:=Uu s f _ _ _ om h;rw [List.length_append,List.length_singleton] at this;omega
   ·cases h
  ·simp only [Option.some.injEq] at h;subst h;omega
theorem aef {s:List UInt8} (h:o8 s=true):s.length<=80:=by
 unfold o8 at h;cases hs:mw s with
 |none=>rw [hs] at h;cases h
 |some l=>
  rw [hs] at h;simp only at h;have h2:=Uu s _ _ _ _ om hs;unfold Df at h;simp only [Bool.and_eq_true,Bool.not_eq_true',Bool.or_eq_false_iff,decide_eq_false_iff_not] at h;simp at h2;omega
end Gw
namespace Go.Proofs.YtffboamedcmpaaaGreatDoor
open Gw
open Go.RowKit Go.Am
def BC (c:bu):List ae:=[.aa .i64 c.dD, .ai c.bY, .ai c.fO, .ai c.ia, .aa .i64 c.cR]
def tX (c:bu):ae:= .aK (BC c)
def ael (p:BA):Int:=(if p.Nn=true then 1 else 0)+(if p.No=true then 2 else 0)+(if p.Nk=true then 4 else 0)+(if p.Nl=true then 8 else 0)
def aen (o:Option BA):ae:=match o with|none=> .aw [.aa .i64 0, .aE false]|some p=> .aw [.aa .i64 (ael p), .aE true]
theorem aeo (k:Int):aC Tryz.prog 37 [.aa .i64 k] (aen (vg k)):=by
 by_cases h:1<=k/\k<=13
 ·obtain ⟨h1,h2⟩:=h;obtain rfl|rfl|rfl|rfl|rfl|rfl|rfl|rfl|rfl|rfl|rfl|rfl|rfl:k=1\/k=2\/k=3\/k=4\/k=5\/k=6\/k=7\/k=8\/k=9\/k=10\/k=11\/k=12\/k=13:=om
  all_goals
   refine bK Tryz.func37 ?_;exact bm
 ·have e:vg k=none:=by
   cases hh:vg k with
   |none=>rfl
   |some p=>exact absurd (aee hh) h
  have ne:∀ m:Int,1<=m->m<=13->¬(k==m)=true:=λm h1 h2 h3=>h (by simp at h3;omega)
  rw [e];refine bK Tryz.func37 ?_
  conv=>whnf
  repeat (
      refine ⟨λh=>absurd h (ne _ dd dd),λ_=>?_⟩
      (conv=>whnf))
  rfl
theorem Uy (s:List UInt8) (hs:s.length<=1048576):aC Tryz.prog 39 [.ai s] (.aE (zN s)):=by
 have h1:=DC s hs;rw [ac2] at h1;unfold zN;refine bK Tryz.func39 ?_;cases ho:(ir s).isSome with
 |true=>
  rw [ho,if_pos rfl] at h1;exact bm
 |false=>
  rw [ho,if_neg dd] at h1;exact bm
theorem aem (p part:Int) (q e:Bool) (hp:p=0\/p=1\/p=3\/p=4\/p=5\/p=8\/p=9) (hpart:part=1\/part=2\/part=4\/part=8) (w:World) (c:Nat) (hh:w.heap[c]? =some (.cells [.int .i64 p].toArray 3 (0,0))):
  Calls Tryz.prog 38 #[.int .i64 part, .bool q, .bool e, .pointer (some ⟨c,0,none⟩)] w λed w'=>ed= .returned (.bool (if p.toNat &&& part.toNat=0 then e else q))/\(Below w.heap.size w w'/\w.drawn<=w'.drawn):=by
 have h0:w.cell? ⟨c,0,none⟩=some (.int .i64 p):=by rw [nk hh];rfl
 clear hh;rcases hp with rfl|rfl|rfl|rfl|rfl|rfl|rfl<;>rcases hpart with rfl|rfl|rfl|rfl
 all_goals
  go_enter Tryz.func38,Tryz.ntmps38
  go_wp2
  go_ret
  exact ⟨rfl,Below.refl _ _,Nat.le_refl _⟩
theorem Ux {k:Int} {p:BA} (h:vg k=some p):((k=1\/k=2\/k=6\/k=10)/\p=⟨true,false,false,false⟩)\/(k=3/\p=⟨true,false,true,false⟩)\/((k=4\/k=7)/\p=⟨true,false,false,true⟩)\/(k=5/\p=⟨true,true,false,false⟩)\/
  ((k=9\/k=11)/\p=⟨false,false,false,true⟩)\/(k=13/\p=⟨false,false,true,false⟩)\/((k=8\/k=12)/\p=⟨false,false,false,false⟩):=by
 unfold vg at h
 repeat' split at h
 all_goals first|(cases h;done)|(simp only [Option.some.injEq] at h;simp_all)
theorem aep (p:BA) (c:bu):Gl p c=((bif p.Nn then zN c.bY else decide (c.bY=[])) && ((bif p.No then zN c.fO else decide (c.fO=[])) && ((bif p.Nk then decide ((c.ia.length:Int)<=(BB c.dD:Nat)) else decide (c.ia=[])) && (bif p.Nl then decide (0<=c.cR) else (c.cR==0))))):=by
 have e1:decide ((c.ia.length:Int)<=(BB c.dD:Nat))=decide (c.ia.length<=BB c.dD):=by rw [Bool.eq_iff_iff];simp
 have e2:(c.cR==0)=decide (c.cR=0):=by rw [Bool.eq_iff_iff];simp
 unfold Gl;rw [e1,e2];obtain ⟨a,b,d,n⟩:=p;cases a<;>cases b<;>cases d<;>cases n<;>rfl
theorem Jv {σ:az} {p part:Int} {q e b:Bool} (hs:σ (.af 7)= .au 3 [.aa .i64 p]) (hp:p=0\/p=1\/p=3\/p=4\/p=5\/p=8\/p=9) (hpart:part=1\/part=2\/part=4\/part=8) (hb:(if p.toNat &&& part.toNat=0 then e else q)=b):K0 Tryz.prog 38 [.aa .i64 part, .aE q, .aE e, .ar 7 0] σ (.aE b):=by
 subst hb;exact K0.aai (args0:=[.aa .i64 part, .aE q, .aE e]) (lC (fn:=Tryz.f38) (by kernel_rfl:Tryz.prog.funcs[38]? =_) rfl aG) hs rfl rfl (λw a hh=>aem p part _ _ hp hpart w a hh) (λ_ _=> .bC (.nh _))
theorem Uw (c:bu) (h1:c.bY.length<=1048576) (h2:c.fO.length<=1048576):aC Tryz.prog 17 [tX c] (.aE (yt c)):=by
 have ch:=aeo c.dD;have cp:=Uy c.bY h1;have ct:=Uy c.fO h2;unfold tX BC yt;cases hh:vg c.dD with
 |none=>
  rw [hh] at ch;exact bK Tryz.func17 dC
 |some p=>
  rw [hh] at ch;have hf:=Ux hh;clear hh;show aC _ _ _ (.aE (Gl p c));rw [aep];have hm:(if c.dD=13 then 4000 else 64)=BB c.dD:=rfl;generalize BB c.dD=N at*;rcases hf with ⟨hk,rfl⟩|⟨hk,rfl⟩|⟨hk,rfl⟩|⟨hk,rfl⟩|⟨hk,rfl⟩|⟨hk,rfl⟩|⟨hk,rfl⟩
  all_goals
   dsimp only
   first
    |(rw [if_neg om] at hm;have ht:(c.dD==13)=false:=beq_eq_false_iff_ne.2 om)
    |(rw [if_pos om] at hm;have ht:(c.dD==13)=true:=beq_iff_eq.2 om)
   subst hm;generalize e1:(bif _ then zN c.bY else _)=b1;generalize e2:(bif _ then zN c.fO else _)=b2;generalize e3:(bif _ then decide ((c.ia.length:Int)<=_) else _)=b3;generalize e4:(bif _ then decide (0<=c.cR) else _)=b4;refine bK Tryz.func17 ?_;refine cC ?_
   first|refine LR ht ?_|refine RE ht ?_
   refine cC ?_;refine .inl ⟨_,_,_,(Jv rfl dd dd (by exact e1)).Ia,rfl,?_⟩;cases b1
   ·exact dC
   refine cC ?_;refine .inl ⟨_,_,_,(Jv rfl dd dd (by exact e2)).Ia,rfl,?_⟩;cases b2
   ·exact dC
   refine cC ?_;refine .inl ⟨_,_,_,(Jv rfl dd dd (by exact e3)).Ia,rfl,?_⟩;cases b3
   ·exact dC
   refine cC ?_;refine .inl ⟨_,_,_,(Jv rfl dd dd (by exact e4)).Ia,rfl,?_⟩;exact dC
end Go.Proofs.YtffboamedcmpaaaGreatDoor
namespace Gw
theorem Jw (l:List aI):fH l=true↔(∀ n∈l,jR n.bc=true)/\l.Pairwise λa b=>a.bc<b.bc:=by
 constructor
 ·grind [List.pairwise_iff_getElem,zA,List.getElem_of_mem,abz]
 ·rintro ⟨h1,h2⟩;refine List.all_eq_true.2 λk hk=>?_
  have hk:=List.mem_range.1 hk;unfold tO;rw [List.getElem?_eq_getElem hk];show (jR l[k].bc && I5 l l[k].bc k)=true;rw [h1 _ (List.getElem_mem hk),Bool.true_and];cases k with
  |zero=>rfl
  |succ j=>
   show (match l[j]? with|none=>false|some p=>decide (p.bc<l[j+1].bc))=true;rw [List.getElem?_eq_getElem (show j<l.length by omega)];grind [List.pairwise_iff_getElem]
theorem Nq {l:List aI} {o:aH} (h:yh l o=true):fH l=true/\cJ o=true/\jR o.aY=true:=by
 grind [yh,cJ,uY,wH]
theorem UC {l:List aI} {id:Int}:∀ a∈l.take (cZ l id),a.bc<id:=λa ha=>by
 obtain ⟨k,hk,rfl⟩:=List.getElem_of_mem ha;rw [List.length_take] at hk;obtain ⟨_,h⟩:=SN (l:=l) (id:=id) (k:=k) om;simp_all
theorem UB {l:List aI} (hc:fH l=true) {id:Int}:∀ b∈l.drop (gG l id),id<b.bc:=λb hb=>by
 obtain ⟨k,hk,rfl⟩:=List.getElem_of_mem hb;rw [List.length_drop] at hk;rw [List.getElem_drop];have hp:cZ l id<l.length:=by grind [gG]
 have h1:=SM hp;have hh:lb l id=decide (l[cZ l id].bc=id):=by grind [lb]
 by_cases hd:lb l id=true
 ·have e:l[cZ l id].bc=id:=by simp_all
  have e2:gG l id=cZ l id+1:=by grind [gG]
  have:=zA hc (show cZ l id<gG l id+k by omega) om;omega
 ·have e:l[cZ l id].bc≠id:=λe=>hd (by simp_all)
  have e2:gG l id=cZ l id:=by grind [gG]
  by_cases hk0:k=0
  ·grind
  ·have:=zA hc (show cZ l id<gG l id+k by omega) om;omega
theorem UA (l:List aI) (o:aH):(pf ((iD l o.aY).getD (yg o.aY)) o).bc=o.aY:=by
 rw [SO];cases hf:iD l o.aY with
 |none=>rfl
 |some m=>exact (yf hf).2.1
theorem Uz {l:List aI} (hc:fH l=true) (o:aH):fH (jm l o)=true:=by
 by_cases hm:yh l o=true
 ·obtain ⟨_,_,hok⟩:=Nq hm;obtain ⟨h1,h2⟩:=(Jw l).1 hc;unfold jm;rw [if_pos hm];have hid:=UA l o;refine (Jw _).2 ⟨λn hn=>?_,?_⟩
  ·grind
  ·rw [List.append_assoc];refine List.pairwise_append.2 ⟨h2.sublist (List.take_sublist _ _),List.pairwise_cons.2 ⟨λb hb=>?_,h2.sublist (List.drop_sublist _ _)⟩,λa ha b hb=>?_⟩
   ·rw [hid];exact UB hc b hb
   ·have hal:=UC a ha;rcases List.mem_cons.1 hb with rfl|hb
    ·rw [hid];exact hal
    ·have:=UB hc b hb;omega
 grind [jm]
def qE (n:aI):Prop:=(j5 n.mA=true->fk n.gh=true/\o8 n.fm=true)/\n.fm.length<=1000
theorem aeq {l:List aI} (h:∀ n∈l,qE n) (o:aH) (ho:o.j4.length<=1000):∀ n∈jm l o,qE n:=λn hn=>by
 rcases I4 hn with hn|⟨hm,hn,_⟩
 ·exact h n hn
 ·have hold:qE ((iD l o.aY).getD (yg o.aY)):=by
   cases hf:iD l o.aY with
   |none=>exact ⟨λq=>absurd q (by trivial),Nat.zero_le _⟩
   |some m=>exact h m (yf hf).1
  subst hn;unfold pf;split
  ·rename_i hk;refine ⟨λ_=>?_,ho⟩;have h2:=(Nq hm).2.1;grind [cJ,uY]
  ·exact hold
def vi (l:List aI) (dir:Int) (path:List UInt8):List dH->List dH->Prop
 |_,[]=>True
 |pre,it::r=>(∃ n∈l,n.bc=it.eM/\ow n n.gh=true/\n.ov=it.wJ/\((n.gh=dir/\it.dx=rl path n.fm)\/∃ j∈pre,j.eM=n.gh/\it.dx=rl j.dx n.fm))/\vi l dir path (pre++[it]) r
theorem vi.UE {l:List aI} {dir:Int} {path:List UInt8}:∀ (a b pre:List dH),vi l dir path pre a->vi l dir path (pre++a) b->vi l dir path pre (a++b)
 |[],b,pre,_,h=>by simp_all
 |it::a,b,pre,h,h'=>⟨h.1,vi.UE a b (pre++[it]) h.2 (by simp_all)⟩
theorem vi.UF {l:List aI} {dir dir':Int} {path path':List UInt8}:∀ (a pre:List dH),vi l dir' path' pre a->(∃ j∈pre,j.eM=dir'/\j.dx=path')->vi l dir path pre a
 |[],_,_,_=>trivial
 |it::a,pre,h,hj=>by
  obtain ⟨⟨n,h1,h2,h3,h3',h4⟩,h5⟩:=h;refine ⟨⟨n,h1,h2,h3,h3', .inr ?_⟩,vi.UF a (pre++[it]) h5 (by simp_all)⟩;grind
theorem UJ {l:List aI} {dir:Int} {path:List UInt8} {g:List UInt8->List dH}:∀ (N:List (List UInt8)),(∀ s∈N,∀ pre,vi l dir path pre (g s))->∀ pre,vi l dir path pre (N.flatMap g)
 |[],_,_=>trivial
 |s::N,h,pre=>by
  rw [List.flatMap_cons];exact vi.UE _ _ _ (h s List.mem_cons_self pre) (UJ N (λt ht=>h t (List.mem_cons_of_mem _ ht)) _)
theorem Ns {n:aI} {dir:Int} (h:ow n dir=true):n.gh=dir/\j5 n.mA=true/\ow n n.gh=true:=by
 grind [ow]
theorem UH (l:List aI) (outs:List Int):∀ (f:Nat) (dir:Int) (path:List UInt8) (pre:List dH),vi l dir path pre (ku l outs f dir path)
 |0,_,_,_=>trivial
 |f+1,dir,path,pre=>by
  rw [ku];unfold zF;refine UJ _ (λs _ pre=>?_) pre;unfold qB;cases hf:gT s (iE l outs dir) with
  |none=>trivial
  |some n=>
   obtain ⟨h1,h2,h3,h4⟩:=zE hf;obtain ⟨q1,_,q2⟩:=Ns h2;show vi l dir path pre (⟨rl path s,n.bc,n.ov⟩::(if fk n.bc=true then ku l outs f n.bc (rl path s) else []));refine ⟨⟨n,h1,rfl,q2,rfl, .inl ⟨q1,by rw [h3]⟩⟩,?_⟩;split
   ·exact vi.UF _ _ (UH l outs f n.bc (rl path s) _) ⟨_,List.mem_append.2 (.inr List.mem_cons_self),rfl,rfl⟩
   ·trivial
theorem UI {l:List aI} {dir:Int} {path:List UInt8}:∀ (I pre:List dH),vi l dir path pre I->∀ i (h:i<I.length),∃ n∈l,n.bc=I[i].eM/\ow n n.gh=true/\n.ov=I[i].wJ/\((n.gh=dir/\I[i].dx=rl path n.fm)\/∃ j∈pre++I.take i,j.eM=n.gh/\I[i].dx=rl j.dx n.fm)
 |[],_,_,i,h=>by simp at h
 |it::I,pre,hs,0,_=>by
  obtain ⟨n,h1⟩:=hs.1;grind
 |it::I,pre,hs,i+1,h=>by
  obtain ⟨n,h1,h2,h3,h3',h4⟩:=UI I (pre++[it]) hs.2 i (by simpa using h);grind
theorem aer {s s' r r':List UInt8} (h:(47:UInt8)∉s) (h':(47:UInt8)∉s') (hr:r=[]\/∃ q,r=47::q) (hr':r'=[]\/∃ q,r'=47::q) (e:s++r=s'++r'):s=s':=by
 induction s generalizing s' with
 |nil=>
  cases s' with
  |nil=>rfl
  |cons b s'=>
   simp_all
 |cons a s ih=>
  cases s' with
  |nil=>
   grind
  |cons b s'=>
   grind
def UD (path s p:List UInt8):Prop:=∃ r,p=path++(47::(s++r))/\(r=[]\/∃ q,r=47::q)
theorem Nr {l:List aI} {outs:List Int}:∀ (f:Nat) {dir:Int} {path:List UInt8},∀ it∈ku l outs f dir path,∃ n∈l,ow n dir=true/\UD path n.fm it.dx
 |0,_,_,it,h=>by cases h
 |f+1,dir,path,it,h=>by
  rw [ku] at h;obtain ⟨s,n,_,hf,hi⟩:=SY h;obtain ⟨h1,h2,h3,h4⟩:=zE hf;refine ⟨n,h1,h2,?_⟩;rcases List.mem_cons.1 hi with rfl|hi
  ·exact ⟨[],by rw [h3,List.append_nil];show path++[47]++s=_;simp_all, .inl rfl⟩
  ·split at hi
   ·obtain ⟨m,_,_,r,e,_⟩:=Nr f it hi;exact ⟨47::(m.fm++r),by rw [e,h3];show path++[47]++s++_=_;simp, .inr ⟨_,rfl⟩⟩
   ·cases hi
theorem UG {l:List aI} (hg:∀ n∈l,qE n) {outs:List Int}:∀ (f:Nat) {dir:Int} {path:List UInt8},(ku l outs f dir path).Pairwise λa b=>a.dx≠b.dx
 |0,_,_=> .nil
 |f+1,dir,path=>by
  rw [ku];unfold zF;have hm:=MC l outs dir;have hstep:∀ s n,gT s (iE l outs dir)=some n->(47:UInt8)∉s/\∀ it∈Bq (ku l outs f) path s n,UD path s it.dx:=λs n hf=>by
   obtain ⟨h1,h2,h3,h4⟩:=zE hf;obtain ⟨_,q2,_⟩:=Ns h2;have h47:=(aeb ((hg n h1).1 q2).2).1;rw [h3] at h47;refine ⟨h47,λit hi=>?_⟩;rcases List.mem_cons.1 hi with rfl|hi
   ·exact ⟨[],by rw [List.append_nil];show path++[47]++s=_;simp_all, .inl rfl⟩
   ·split at hi
    ·obtain ⟨m,_,_,r,e,_⟩:=Nr f it hi;exact ⟨47::(m.fm++r),by rw [e];show path++[47]++s++_=_;simp, .inr ⟨_,rfl⟩⟩
    ·cases hi
  rw [List.pairwise_flatMap];refine ⟨λs _=>?_,?_⟩
  ·unfold qB;cases hf:gT s (iE l outs dir) with
   |none=>exact .nil
   |some n=>
    refine List.pairwise_cons.2 ⟨λit hi=>?_,?_⟩
    ·split at hi
     ·obtain ⟨m,_,_,r,e,_⟩:=Nr f it hi;simp_all
     ·cases hi
    ·split
     ·exact UG hg f
     ·exact .nil
  ·have hnd:(kN ((iE l outs dir).map (·.2.1))).Nodup:=(tM _).nodup_iff.2 hm.uZ;refine hnd.imp fun {a b} hab=>λx hx y hy e=>?_
   unfold qB at hx hy;cases ha:gT a (iE l outs dir) with
   |none=>simp_all
   |some n=>
    cases hb:gT b (iE l outs dir) with
    |none=>simp_all
    |some m=>
     rw [ha] at hx;rw [hb] at hy;obtain ⟨p1,p2⟩:=hstep a n ha;obtain ⟨q1,q2⟩:=hstep b m hb;obtain ⟨r,e1,hr⟩:=p2 x hx;obtain ⟨r',e1',hr'⟩:=q2 y hy;grind [List.append_cancel_left,aer]
end Gw
