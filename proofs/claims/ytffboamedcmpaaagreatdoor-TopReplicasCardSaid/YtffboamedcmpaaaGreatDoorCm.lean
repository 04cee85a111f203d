import Derived.Test.YtffboamedcmpaaaGreatDoorCl
set_option linter.all false
set_option maxHeartbeats 4000000
set_option maxRecDepth 100000
namespace Go.Proofs.YtffboamedcmpaaaGreatDoor
open Gw
theorem BM {α:Type} (p:α->Bool) (l:List α):(fR p l=-1/\∀ a∈l,p a=false)\/∃ i,∃ hi:i<l.length,fR p l=(i:Int)/\(∀ a∈l.take i,p a=false)/\p l[i]=true:=by
 grind [fR,List.findIdx?_eq_some_iff_getElem,List.mem_take_iff_getElem]
theorem aku {α:Type} {p:α->Bool} {l:List α} {i:Nat} (hi:i<l.length) (h:∀ a∈l.take i,p a=false) (hp:p l[i]=true):(l.take (i+1)).filter (λa=>!p a)=l.take i:=by
 grind [List.take_succ_eq_append_getElem,List.filter_eq_self]
theorem GF {α:Type} {p:α->Bool} {l:List α} (h:∀ a∈l,p a=false):l.find? p=none:=List.find?_eq_none.2 λa ha=>by rw [h a ha];decide
theorem GD {α:Type} {p:α->Bool} {l:List α} {i:Nat} (hi:i<l.length) (h:∀ a∈l.take i,p a=false) (hp:p l[i]=true):l.find? p=some l[i]:=by
 grind [List.take_append_drop,List.drop_eq_getElem_cons]
theorem akv {a:bX} {t th:Int} (h:(a.eA==t && a.fZ==th)=true):decide (a=⟨t,th⟩)=true:=by
 have h2:a.eA=t/\a.fZ=th:=by simpa using h
 obtain ⟨x,y⟩:=a;simp_all
theorem akw {a:bX} {t th:Int} (h:(a.eA==t && a.fZ==th)=false):decide (a=⟨t,th⟩)=false:=by
 grind
theorem U2 (x y:Int):Go.Am.aU.match_1 (λ_=>Int) true (λ_=>max x y) (λ_=>min x y)=max x y:=rfl
theorem aeJ (x y:Int):Go.Am.aU.match_1 (λ_=>Int) false (λ_=>max x y) (λ_=>min x y)=min x y:=rfl
open Go.Am in
theorem sQ {α:Type} (sz:Nat) (enc:α->List ae) (q:Bool) (a:α) (l:List α):cv sz enc ⟨q,a::l⟩= .ag false sz ((a::l).map enc) .av:=by
 grind [cv,cj.bZ]
open Go.Am in
theorem D0 {α:Type} (sz:Nat) (enc:α->List ae) (q:Bool):cv sz enc ⟨q,[]⟩= .ag q sz [] .av:=by
 grind [cv,cj.bZ]
open Go.Am in
theorem akt {P:Go.Program} {f:Go.FuncId} {args:List ae} {sz sz':Nat} (h:uP P f args true sz []):uP P f args true sz' []:=
 ⟨h.LH,λw F vals h1 h2 h3 h4=>(h.LI w F vals h1 h2 h3 h4).mono λ_ _ ⟨ad,F',e1,e2,e3,e4,e5⟩=>⟨ad,F',e1,e2,e3,e4,(iL.eR true sz sz').pH _ _ _ e5⟩⟩
open Go.Am in
inductive yE (σ:az):List ae->List ae->Prop
 |mZ:yE σ [] []
 |gM {x y:ae} {l m:List ae} (h:Am.km σ x y) (t:yE σ l m):yE σ (x::l) (y::m)
section
open Go.Am
variable {σ:az}
theorem yE.NJ:∀ {l m:List ae},yE σ l m->l.length=m.length
 |_,_, .mZ=>rfl
 |_,_, .gM _ t=>by rw [List.length_cons,List.length_cons,t.NJ]
theorem yE.NI:∀ {l m:List ae},yE σ l m->∀ (i:Nat) (x y:ae),l[i]? =some x->m[i]? =some y->Am.km σ x y
 |_,_, .gM h _,0,x,y,hx,hy=>by simp_all
 |_,_, .gM _ t,i+1,x,y,hx,hy=>t.NI i x y (by simpa using hx) (by simpa using hy)
theorem yE.zV {l m:List ae} (h:yE σ l m):Am.km σ (.aK l) (.aK m):= .KY h.NJ h.NI
theorem yE.yF {l m:List ae} (h:yE σ l m):Am.km σ (.aw l) (.aw m):= .P6 h.NJ h.NI
end
open Go.Am in
theorem JE:∀ {a b:List ae},fL a=true->fL b=true->fL (a++b)=true
 |[],_,_,h=>h
 |x::l,b,h,h'=>by
  unfold fL at h ⊢;simp only [List.cons_append];cases hx:xB x with
  |true=>rw [hx] at h;exact JE h h'
  |false=>simp_all
open Go.Am in
theorem D3 {α:Type} {enc:α->List ae} {sz:Nat} (hs:∀ a,(enc a).length=sz) (hone:∀ a,fL (enc a)=true) {σ:az} {k:Nat} {full:Bool} {t:TypeId} {l:List α} (h:σ (.af k)= .aR t ((l.map enc).flatten)):Am.km σ (.aL k 0 sz l.length full) (.ag false sz (l.map enc) .av):=by
 refine .zf h (List.length_map _) ?_ ?_ ?_ ?_
 ·simp_all
 ·grind [pq]
 ·grind [pq]
 ·clear h
  induction l with
  |nil=>rfl
  |cons a l ih=>grind [JE]
open Go.Am in
theorem NK {α:Type} {enc:α->List ae} {sz:Nat} (hs:∀ a,(enc a).length=sz) (hone:∀ a,fL (enc a)=true) {σ:az} {k:Nat} {full:Bool} {t:TypeId} {l pad:List α} (h:σ (.af k)= .aR t (((l++pad).map enc).flatten)):Am.km σ (.aL k 0 sz l.length full) (.ag false sz (l.map enc) .av):=by
 have ht:=BL (enc:=enc) hs (l:=l++pad) (k:=l.length) (by simp_all);rw [List.take_left' rfl] at ht;refine .zf h (List.length_map _) ?_ ?_ (by trivial) ?_
 ·simp_all
 ·grind [pq]
 ·clear h ht
  induction l with
  |nil=>rfl
  |cons a l ih=>grind [JE]
open Go.Am
theorem yE.JF {σ:az} {x:ae} {l m:List ae} (h:xC x=true) (t:yE σ l m):yE σ (x::l) (xA x::m):= .gM (.mh h) t
theorem akx {α:Type} {enc:α->List ae} {sz n:Nat} {σ:az} {k:Nat} {full:Bool} {t:TypeId} {l:List α} (hn:n=l.length) (h:σ (.af k)= .aR t ((l.map enc).flatten)) (hs:∀ a,(enc a).length=sz) (hone:∀ a,fL (enc a)=true):Am.km σ (.aL k 0 sz n full) (.ag false sz (l.map enc) .av):=by
 subst hn;exact D3 hs hone h
theorem NL {p:Prop} (e:p:=by
 try refine yE.zV ?_
 repeat (first|exact yE.mZ|refine yE.JF rfl ?_|refine yE.gM (akx rfl rfl (λ_=>rfl) (λ_=>rfl)) ?_)):p:=e
theorem D6 {p:Prop} (e:p:=by
 repeat' (first|exact yE.mZ|refine yE.yF ?_|refine yE.zV ?_|refine yE.JF rfl ?_|refine yE.gM (akx rfl rfl (λ_=>rfl) (λ_=>rfl)) ?_|refine yE.gM ?_ ?_)):p:=e
theorem aky (k:Nat) (h:k<=1048576):IntKind.i64.wrap ((k:Int)+1)=((k+1:Nat):Int):=by rw [bj (by omega) (by omega)];rfl
theorem qK {p:Prop} {f g:FuncId} {fn gn:Func} (hf:Tryz.prog.funcs[f]? =some fn) (hg:Tryz.prog.funcs[g]? =some gn) {n:Nat} (hl:n<=1048576) (e:(Tryz.prog.funcs[f]? =some fn)->(Tryz.prog.funcs[g]? =some gn)->n<=1048576->p:=by
 intro hf hg hl;show bz _ _ [.ag ?qQ ?sz (List.map ?enc ?lL) ?tk,?fv] (aD ?es) ?mM (cG _ (λx es=>x= .cE (.aa .i64 (fR ?pP ?lL))/\es=_));refine bn hf ?_
 conv=>whnf
 refine db.cK (λk:Nat=>(.aj 0, .ah (.ag ?qQ ?sz (List.map ?enc ?lL) ?tk))::(.aj 1, .ah ?fv)::(.aj 7, .ah (.aa .i64 (?lL).length))::(.aj 8, .ah (.aa .i64 k))::?es) ?mM (λk=>k<=(?lL).length/\∀ a∈(?lL).take k,?pP a=false) (λk=>(?lL).length - k) (by decide) 0 ⟨Nat.zero_le _,λ_ h=>absurd h List.not_mem_nil⟩ ⟨rfl,rfl,rfl,rfl,congrArg (λn:Nat=>bs.ah (.aa .i64 n)) (List.length_map _),rfl,rfl,rfl,?_⟩ ?_
 ·repeat (first|exact trivial|refine ⟨rfl,rfl,?_⟩)
 rintro k ⟨hk,hno⟩;refine se dW jd _ _ _ _ ?_
 conv=>whnf
 refine akd (λh=>?_) λh=>?_
 ·have hlt:k<(?lL).length:=by omega
  have hp1:=UZ (p:=?pP) hlt hno;have hp2:=NF (p:=?pP) hlt hno;have w1:=aky k (by omega);have hg':=lN ?enc hlt;generalize (?lL)[k]=a at*;refine cC ?_;refine bn hg ?_;refine cC ?_;refine ⟨λh=>?_,λh=>?_⟩
  ·have h:?pP a=true:=by first|simpa using h|exact h|exact akv h|exact akw h
   conv=>whnf
   refine ⟨_,_,⟨rfl,rfl⟩,rfl,⟨congrArg (ae.aa .i64) (hp1 h).symm,rfl⟩,?_⟩
   repeat (first|exact trivial|refine ⟨rfl,rfl,?_⟩)
  ·have h:?pP a=false:=by first|simpa using h|exact h|exact akv h|exact akw h
   conv=>whnf
   refine ⟨k+1,⟨hlt,hp2 h⟩,by show _ - (k+1)<_ - k;omega,rfl,rfl,rfl,rfl,rfl,rfl,congrArg (λn=>bs.ah (.aa .i64 n)) w1,rfl,?_⟩
   repeat (first|exact trivial|refine ⟨rfl,rfl,?_⟩)
 ·obtain rfl:k=(?lL).length:=by omega
  rw [List.take_length] at hno
  conv=>whnf
  refine ⟨_,_,⟨rfl,rfl⟩,rfl,⟨congrArg (ae.aa .i64) (ND hno).symm,rfl⟩,?_⟩
  repeat (first|exact trivial|refine ⟨rfl,rfl,?_⟩)):p:=e hf hg hl
theorem zW {p:Prop} {f g:FuncId} {fn gn:Func} (hf:Tryz.prog.funcs[f]? =some fn) (hg:Tryz.prog.funcs[g]? =some gn) {n:Nat} (hl:n<=1048576) (e:(Tryz.prog.funcs[f]? =some fn)->(Tryz.prog.funcs[g]? =some gn)->n<=1048576->p:=by
 intro hf hg hl;show bz _ _ [.aL ?bB 0 ?sz (List.length ?lL) ?ff,?fv] (aD ((.af ?bB, .aR ?tT (List.flatten (List.map ?enc (?lL++?pad))))::?es)) ?mM (cG _ (λx es=>x= .cE (.aa .i64 (fR ?pP ?lL))/\es=_));refine bn hf ?_
 conv=>whnf
 refine db.cK (λk:Nat=>(.aj 0, .ah (.aL ?bB 0 ?sz (List.length ?lL) ?ff))::(.aj 1, .ah ?fv)::(.aj 7, .ah (.aa .i64 (?lL).length))::(.aj 8, .ah (.aa .i64 k))::(.af ?bB, .aR ?tT (List.flatten (List.map ?enc (?lL++?pad))))::?es) ?mM (λk=>k<=(?lL).length/\∀ a∈(?lL).take k,?pP a=false) (λk=>(?lL).length - k) (by decide) 0 ⟨Nat.zero_le _,λ_ h=>absurd h List.not_mem_nil⟩ ?_ ?_
 ·repeat (first|exact trivial|refine ⟨rfl,rfl,?_⟩)
 rintro k ⟨hk,hno⟩;refine se dW jd _ _ _ _ ?_
 conv=>whnf
 refine akd (λh=>?_) λh=>?_
 ·have hlt:k<(?lL).length:=by omega
  have hltp:k<(?lL++?pad).length:=by rw [List.length_append];omega
  have hgp:(?lL++?pad)[k]=(?lL)[k]:=List.getElem_append_left hlt;have hL:=vA (enc:=?enc) (sz:=?sz) (λ_=>rfl) hltp;have hR:=BK (enc:=?enc) (sz:=?sz) (λ_=>rfl) hltp;rw [hgp] at hL;have hp1:=UZ (p:=?pP) hlt hno;have hp2:=NF (p:=?pP) hlt hno;have w1:=aky k (by omega);have o1:0+(k:Int).toNat*?sz=k*?sz:=by rw [Int.toNat_natCast,Nat.zero_add]
  generalize (?lL)[k]=a at*;refine cC ?_;rw [o1]
  first|refine ⟨_,(hgp▸aeH (enc:=?enc) (f:=λz=>ae.aa .i64 z) (λ_=>rfl) hltp),?_⟩|skip
  refine cC ?_;refine bn hg ?_;refine cC ?_;refine ⟨λh=>?_,λh=>?_⟩
  ·have h:?pP a=true:=by first|simpa using h|exact h|exact akv h|exact akw h
   conv=>whnf
   refine ⟨_,_,⟨rfl,rfl⟩,rfl,⟨congrArg (ae.aa .i64) (hp1 h).symm,rfl⟩,?_⟩
   repeat (first|exact trivial|refine ⟨rfl,rfl,?_⟩)
  ·have h:?pP a=false:=by first|simpa using h|exact h|exact akv h|exact akw h
   conv=>whnf
   refine ⟨k+1,⟨hlt,hp2 h⟩,by show _ - (k+1)<_ - k;omega,rfl,rfl,rfl,rfl,rfl,rfl,congrArg (λn=>bs.ah (.aa .i64 n)) w1,rfl,?_⟩
   repeat (first|exact trivial|refine ⟨rfl,rfl,?_⟩)
 ·obtain rfl:k=(?lL).length:=by omega
  rw [List.take_length] at hno
  conv=>whnf
  refine ⟨_,_,⟨rfl,rfl⟩,rfl,⟨congrArg (ae.aa .i64) (ND hno).symm,rfl⟩,?_⟩
  repeat (first|exact trivial|refine ⟨rfl,rfl,?_⟩)):p:=e hf hg hl
theorem GH {p q:Prop} {f g:FuncId} {fn gn:Func} (hf:Tryz.prog.funcs[f]? =some fn) (hg:Tryz.prog.funcs[g]? =some gn) {n:Nat} (hl:n<=1048576) (hi:q) (e:(Tryz.prog.funcs[f]? =some fn)->(Tryz.prog.funcs[g]? =some gn)->n<=1048576->q->p:=by
 intro hf hg hl hi;show bz _ _ [.aL ?bB 0 ?sz (List.length l) ?ff,?fv] (aD ((.af ?bB, .aR ?tT (List.flatten (List.map ?enc l)))::?es)) ?mM (cG _ (λx es=>x= .cE (.aL _ 0 _ (List.length (List.filter (λa=>!(?pP:_->Bool) a) l)) _)/\es=_));have hfl:=pq (enc:=?enc) (sz:=?sz) (λ_=>rfl) l;refine bn hf ?_
 conv=>whnf
 refine akg hi ?_
 conv=>whnf
 rcases BM ?pP l with ⟨h1,hno⟩|⟨i,hi,h1,hno,hpi⟩
 ·rw [h1];refine cC ?_;have hf:(l.filter λa=>!?pP a)=l:=List.filter_eq_self.2 λa ha=>by have h:=hno a ha;(first|simpa using h|exact h)
  rw [hf];refine ⟨_,_,⟨rfl,rfl⟩,rfl,⟨rfl,rfl⟩,?_⟩
  repeat (first|exact trivial|refine ⟨rfl,rfl,?_⟩)
 rw [h1];refine ⟨λh=>absurd (show (i:Int)=-1 from eq_of_beq h) (by omega),λ_=>?_⟩;have hwi:=aky i (by omega);have hf0:=aku (p:=?pP) hi hno hpi
 conv=>whnf
 refine db.cK (X:=Nat×List _) (λx=>(.aj 0, .ah (.aL ?bB 0 ?sz l.length ?ff))::(.aj 1, .ah (?fv))::(.aj 5, .ah (.aa .i64 ((l.take x.1).filter λa=>!?pP a).length))::(.aj 6, .ah (.aa .i64 x.1))::(.af ?bB, .aR ?tT (((((l.take x.1).filter λa=>!?pP a)++(x.2++l.drop x.1)).map (?enc)).flatten))::?es) ?mM
  (λx=>x.1<=l.length/\0<x.2.length/\((l.take x.1).filter λa=>!?pP a).length+x.2.length=x.1) (λx=>l.length - x.1) (by decide) (i+1,[l[i]]) ⟨by show i+1<=_;omega,Nat.one_pos,by rw [hf0,List.length_take];show min i l.length+1=i+1;omega⟩ ⟨rfl,rfl,rfl,rfl,?_,rfl,?_,rfl,?_,rfl,by repeat (first|exact trivial|refine ⟨rfl,rfl,?_⟩)⟩ ?_
 ·show bs.ah (ae.aa .i64 i)=bs.ah (ae.aa .i64 _);rw [hf0,List.length_take,Nat.min_eq_left (Nat.le_of_lt hi)]
 ·show bs.ah (ae.aa .i64 (IntKind.i64.wrap ((i:Int)+1)))=_;rw [hwi]
 ·rw [hf0];show bs.aR _ ((l.map (?enc)).flatten)=bs.aR _ (((l.take i++([l[i]]++l.drop (i+1))).map (?enc)).flatten);rw [List.singleton_append,<-List.drop_eq_getElem_cons hi,List.take_append_drop]
 rintro ⟨j,mid⟩ ⟨hj,hm0,hlen⟩;simp only at hj hm0 hlen;dsimp only;refine se dW jd _ _ _ _ ?_
 conv=>whnf
 refine ⟨λh=>?_,λh=>?_⟩
 ·have h:=of_decide_eq_true h;have hlt:j<l.length:=by omega
  obtain ⟨a0,mid,rfl⟩:∃ a0 m1,mid=a0::m1:=by cases mid with|nil=>cases hm0|cons a m1=>exact ⟨a,m1,rfl⟩
  have hdj:=List.drop_eq_getElem_cons hlt;have htj:=List.take_succ_eq_append_getElem hlt;have w1:=aky j (by omega);generalize hb:l[j]=b at*;generalize hK:(l.take j).filter (λa=>!?pP a)=kp at*;rw [hdj];generalize hdd:l.drop (j+1)=dr at*;have hAj:j<(kp++(a0::mid++b::dr)).length:=by rw [List.length_append,List.length_append,List.length_cons];simp only [List.length_cons] at hlen ⊢;omega
  have hAg:(kp++(a0::mid++b::dr))[j]=b:=by
   rw [List.getElem_append_right (by omega),List.getElem_append_right (by simp only [List.length_cons] at hlen ⊢;omega)];simp only [show j - kp.length - (a0::mid).length=0 by omega];rfl
  have hL:=vA (enc:=?enc) (sz:=?sz) (λ_=>rfl) hAj;have hR:=BK (enc:=?enc) (sz:=?sz) (λ_=>rfl) hAj;rw [hAg] at hL;have hRk:=BK (enc:=?enc) (sz:=?sz) (λ_=>rfl) (l:=kp++(a0::mid++b::dr)) (k:=kp.length) (by simp only [List.length_cons] at hlen;omega);have hset:=DZ (enc:=?enc) (sz:=?sz) (λ_=>rfl) kp (mid++b::dr) a0 b;have o1:0+(j:Int).toNat*?sz=j*?sz:=by rw [Int.toNat_natCast,Nat.zero_add]
  have o2:0+(kp.length:Int).toNat*?sz=kp.length*?sz:=by rw [Int.toNat_natCast,Nat.zero_add]
  have wk:=aky kp.length (by omega);refine cC ?_;rw [o1]
  first|refine ⟨_,(hAg▸aeH (enc:=?enc) (f:=λz=>ae.aa .i64 z) (λ_=>rfl) hAj),?_⟩|skip
  refine cC ?_;refine bn hg ?_;refine cC ?_;refine ⟨λh=>?_,λh=>?_⟩
  ·have h:?pP b=false:=by (first|simpa using h|exact h)
   have hfn:(l.take (j+1)).filter (λa=>!?pP a)=kp++[b]:=by rw [htj,List.filter_append,hK,List.filter_cons_of_pos (by rw [h];rfl),List.filter_nil]
   conv=>whnf
   refine ⟨by omega,?_⟩
   conv=>whnf
   rw [o2];refine ⟨by omega,?_⟩
   conv=>whnf
   refine ⟨(j+1,mid++[b]),⟨by show j+1<=_;omega,by simp,?_⟩,by show l.length - (j+1)<l.length - j;omega,rfl,rfl,rfl,rfl,?_,rfl,?_,rfl,?_,rfl,by repeat (first|exact trivial|refine ⟨rfl,rfl,?_⟩)⟩
   ·show ((l.take (j+1)).filter (λa=>!?pP a)).length+(mid++[b]).length=j+1;rw [hfn,List.length_append,List.length_append];simp only [List.length_cons,List.length_nil] at hlen ⊢;omega
   ·show bs.ah (ae.aa .i64 (IntKind.i64.wrap ((kp.length:Int)+1)))=bs.ah (ae.aa .i64 ((l.take (j+1)).filter (λa=>!?pP a)).length);rw [hfn,wk,List.length_append];rfl
   ·show bs.ah (ae.aa .i64 (IntKind.i64.wrap ((j:Int)+1)))=_;rw [w1]
   ·show bs.aR _ (_++?enc b++_)=bs.aR _ (((((l.take (j+1)).filter (λa=>!?pP a))++(mid++[b]++l.drop (j+1))).map (?enc)).flatten);rw [hfn,hdd];refine congrArg _ (hset.trans ?_);rw [List.append_assoc kp [b],List.append_assoc mid [b] dr];rfl
  ·have h:?pP b=true:=by (first|simpa using h|exact h)
   have hfn:(l.take (j+1)).filter (λa=>!?pP a)=kp:=by rw [htj,List.filter_append,hK,List.filter_cons_of_neg (by rw [h];decide),List.filter_nil,List.append_nil]
   conv=>whnf
   refine ⟨(j+1,a0::mid++[b]),⟨by show j+1<=_;omega,by simp,?_⟩,by show l.length - (j+1)<l.length - j;omega,rfl,rfl,rfl,rfl,?_,rfl,?_,rfl,?_,rfl,by repeat (first|exact trivial|refine ⟨rfl,rfl,?_⟩)⟩
   ·show ((l.take (j+1)).filter (λa=>!?pP a)).length+(a0::mid++[b]).length=j+1;rw [hfn,List.length_append];simp only [List.length_cons,List.length_nil] at hlen ⊢;omega
   ·show bs.ah (ae.aa .i64 kp.length)=bs.ah (ae.aa .i64 ((l.take (j+1)).filter (λa=>!?pP a)).length);rw [hfn]
   ·show bs.ah (ae.aa .i64 (IntKind.i64.wrap ((j:Int)+1)))=_;rw [w1]
   ·show bs.aR _ (((kp++(a0::mid++b::dr)).map (?enc)).flatten)=bs.aR _ (((((l.take (j+1)).filter (λa=>!?pP a))++(a0::mid++[b]++l.drop (j+1))).map (?enc)).flatten);rw [hfn,hdd,List.append_assoc (a0::mid) [b] dr];rfl
 ·have h:=of_decide_eq_false h;obtain rfl:j=l.length:=by omega
  rw [List.take_length] at hlen ⊢;rw [List.drop_length,List.append_nil];generalize hK:(l.filter λa=>!?pP a)=kp at*;have hfa:=pq (enc:=?enc) (sz:=?sz) (λ_=>rfl) (kp++mid);have htk:=BL (enc:=?enc) (sz:=?sz) (λ_=>rfl) (l:=kp++mid) (k:=kp.length) (by rw [List.length_append];omega);rw [List.take_left' rfl] at htk;rw [List.length_append] at hfa;have o2:0+(kp.length:Int).toNat*?sz=kp.length*?sz:=by rw [Int.toNat_natCast,Nat.zero_add]
  refine cC ?_;rw [o2];refine mf.aks dW (e:=?tT) (by kernel_rfl) rfl rfl rfl rfl rfl rfl rfl rfl (by kernel_rfl) (by rw [hfa,Int.toNat_natCast,<-Nat.add_mul];exact Nat.mul_le_mul_right _ (by omega)) ?_;rw [htk];refine cC ?_;rw [Int.toNat_natCast];refine ⟨_,_,⟨rfl,rfl⟩,rfl,⟨rfl,rfl⟩,?_⟩
  repeat (first|exact trivial|refine ⟨rfl,rfl,?_⟩)):p:=e hf hg hl hi
theorem GG {p q:Prop} {f:FuncId} {fn:Func} (hf:Tryz.prog.funcs[f]? =some fn) (hi:q) (e:(Tryz.prog.funcs[f]? =some fn)->q->p:=by
 intro hf hi;refine bn hf ?_
 conv=>whnf
 refine akg hi ?_
 conv=>whnf
 refine ⟨_,_,⟨rfl,rfl⟩,rfl,⟨by rw [<-UY];rfl,rfl⟩,?_⟩
 repeat (first|exact trivial|refine ⟨rfl,rfl,?_⟩)):p:=e hf hi
theorem BN {p:Prop} {f:FuncId} {fn:Func} (hf:Tryz.prog.funcs[f]? =some fn) (e:(Tryz.prog.funcs[f]? =some fn)->p:=by
 intro hf;refine cU hf ?_
 conv=>whnf
 refine ⟨λh=>?_,λh=>?_⟩
 ·conv=>whnf
  rw [h,hn h];exact iL.eR _ _ _
 ·conv=>whnf
  refine ⟨dG (by simpa using Nat.le_trans hl (by decide)) (by decide),?_⟩
  conv=>whnf
  rw [h];exact iL.bw _):p:=e hf
theorem D4 {p:Prop} {f:FuncId} {fn:Func} (hf:Tryz.prog.funcs[f]? =some fn) (e:(Tryz.prog.funcs[f]? =some fn)->p:=by
 intro hf;cases q with
 |true=>
  refine akt (sz:=1) (uP.akb dW jd hf rfl (by kernel_rfl) rfl rfl ?_);exact dC
 |false=>
  refine uP.akb dW jd hf rfl (by kernel_rfl) rfl rfl ?_
  conv=>whnf
  refine LR (by decide) ?_
  conv=>whnf
  refine ⟨rfl,?_⟩;exact dC):p:=e hf
theorem D5 {p:Prop} {f:FuncId} {fn:Func} (hf:Tryz.prog.funcs[f]? =some fn) (e:(Tryz.prog.funcs[f]? =some fn)->p:=by
 intro hf;refine nz.aka dW jd hf rfl (by kernel_rfl) rfl rfl ?_;refine cC ?_;refine ⟨⟨rfl,h0,dG (Nat.le_trans hl (by decide)) (by decide)⟩,?_⟩
 conv=>whnf
 exact ⟨_,rfl,rfl⟩):p:=e hf
theorem JG (q:Bool):uP Tryz.prog 291 [.ag q 2 [] .av] q 2 []:=D4 Tryz.func291
theorem zX (els:List (List ae)) (h0:0<els.length) (hl:els.length<=1048576):nz Tryz.prog 291 [.ag false 2 els .av] 370 2 els.length els.flatten:=D5 Tryz.func291
theorem aeO (nil:Bool) (els:List (List ae)) (hn:nil=true->els=[]) (hl:els.length<=1048576):aC Tryz.prog 194 [.ag nil 2 els .av] (.ag nil 2 els .av):=BN Tryz.func194
theorem aeN (q:Bool):uP Tryz.prog 194 [.ag q 2 [] .av] q 2 []:=D4 Tryz.func194
theorem NO (els:List (List ae)) (h0:0<els.length) (hl:els.length<=1048576):nz Tryz.prog 194 [.ag false 2 els .av] 331 2 els.length els.flatten:=D5 Tryz.func194
theorem aeP (nil:Bool) (els:List (List ae)) (hn:nil=true->els=[]) (hl:els.length<=1048576):aC Tryz.prog 309 [.ag nil 1 els .av] (.ag nil 1 els .av):=BN Tryz.func309
theorem NP (q:Bool):uP Tryz.prog 309 [.ag q 1 [] .av] q 1 []:=D4 Tryz.func309
theorem aeQ (els:List (List ae)) (h0:0<els.length) (hl:els.length<=1048576):nz Tryz.prog 309 [.ag false 1 els .av] 3 1 els.length els.flatten:=D5 Tryz.func309
theorem aeL (q:Bool):uP Tryz.prog 74 [.ag q 18 [] .av] q 18 []:=D4 Tryz.func74
theorem NN (els:List (List ae)) (h0:0<els.length) (hl:els.length<=1048576):nz Tryz.prog 74 [.ag false 18 els .av] 78 18 els.length els.flatten:=D5 Tryz.func74
theorem aeM (nil:Bool) (els:List (List ae)) (hn:nil=true->els=[]) (hl:els.length<=1048576):aC Tryz.prog 89 [.ag nil 4 els .av] (.ag nil 4 els .av):=BN Tryz.func89
theorem U6 (q:Bool):uP Tryz.prog 89 [.ag q 4 [] .av] q 4 []:=D4 Tryz.func89
theorem JI (els:List (List ae)) (h0:0<els.length) (hl:els.length<=1048576):nz Tryz.prog 89 [.ag false 4 els .av] 184 4 els.length els.flatten:=D5 Tryz.func89
theorem U4 (q:Bool):uP Tryz.prog 142 [.ag q 2 [] .av] q 2 []:=D4 Tryz.func142
theorem U5 (els:List (List ae)) (h0:0<els.length) (hl:els.length<=1048576):nz Tryz.prog 142 [.ag false 2 els .av] 264 2 els.length els.flatten:=D5 Tryz.func142
theorem U3 (nil:Bool) (els:List (List ae)) (hn:nil=true->els=[]) (hl:els.length<=1048576):aC Tryz.prog 141 [.ag nil 8 els .av] (.ag nil 8 els .av):=BN Tryz.func141
theorem NM (nil:Bool) (els:List (List ae)) (hn:nil=true->els=[]) (hl:els.length<=1048576):aC Tryz.prog 108 [.ag nil 2 els .av] (.ag nil 2 els .av):=BN Tryz.func108
theorem aeK (nil:Bool) (els:List (List ae)) (hn:nil=true->els=[]) (hl:els.length<=1048576):aC Tryz.prog 263 [.ag nil 17 els .av] (.ag nil 17 els .av):=BN Tryz.func263
theorem JH (nil:Bool) (els:List (List ae)) (hn:nil=true->els=[]) (hl:els.length<=1048576):aC Tryz.prog 107 [.ag nil 1 els .av] (.ag nil 1 els .av):=BN Tryz.func107
theorem aeZ (t:Int) (nil:Bool) (l:List bX) (hl:l.length<=1048576):bz Tryz.prog 228 [.ag nil 2 (l.map bA) .av, .aP 229 [] [.ar 1 0]] (aD [(.af 1, .au 3 [.aa .i64 t])]) 2 (cG 2 (λx es=>x= .cE (.aa .i64 (fR (λh=>decide (h.fZ=t)) l))/\es=[(.af 1, .au 3 [.aa .i64 t])])):=qK Tryz.func228 Tryz.func229 hl
theorem aeY (t:Int) (nil:Bool) (l:List bX) (hl:l.length<=1048576):bz Tryz.prog 228 [.ag nil 2 (l.map bA) .av, .aP 292 [] [.ar 1 0]] (aD [(.af 1, .au 3 [.aa .i64 t])]) 2 (cG 2 (λx es=>x= .cE (.aa .i64 (fR (λh=>decide (h.eA=t)) l))/\es=[(.af 1, .au 3 [.aa .i64 t])])):=qK Tryz.func228 Tryz.func292 hl
theorem aeV (t:Int) (full:Bool) (l pad:List bX) (hl:l.length<=1048576):bz Tryz.prog 228 [.aL 12 0 2 l.length full, .aP 301 [] [.ar 1 0]] (aD [(.af 12, .aR 370 (((l++pad).map bA).flatten)),(.af 1, .au 3 [.aa .i64 t])]) 16 (cG 16 (λx es=>x= .cE (.aa .i64 (fR (λh=>decide (h.fZ=t)) l))/\es=[(.af 12, .aR 370 (((l++pad).map bA).flatten)),(.af 1, .au 3 [.aa .i64 t])])):=zW Tryz.func228 Tryz.func301 hl
theorem U8 (t:Int) (full:Bool) (l:List bX) (hl:l.length<=1048576):bz Tryz.prog 300 [.aL 12 0 2 l.length full, .aP 301 [] [.ar 1 0]] (aD [(.af 12, .aR 370 (((l).map bA).flatten)),(.af 1, .au 3 [.aa .i64 t])]) 16 (cG 16 (λx es=>x= .cE (.aL 12 0 2 (l.filter λa=>!(λh=>decide (h.fZ=t)) a).length full)/\es=[(.af 12, .aR 370 (((l.filter λa=>!(λh=>decide (h.fZ=t)) a).map bA).flatten)),(.af 1, .au 3 [.aa .i64 t])])):=by
 have hi:=aeV t full l [] hl;rw [List.append_nil] at hi;exact GH Tryz.func300 Tryz.func301 hl hi
theorem U7 (t:Int) (nil:Bool) (l:List bX) (hl:l.length<=1048576):bz Tryz.prog 228 [.ag nil 2 (l.map bA) .bR, .aP 301 [] [.ar 1 0]] (aD [(.af 1, .au 3 [.aa .i64 t])]) 16 (cG 16 (λx es=>x= .cE (.aa .i64 (fR (λh=>decide (h.fZ=t)) l))/\es=[(.af 1, .au 3 [.aa .i64 t])])):=qK Tryz.func228 Tryz.func301 hl
theorem aeT (t th:Int) (nil:Bool) (l:List bX) (hl:l.length<=1048576):bz Tryz.prog 228 [.ag nil 2 (l.map bA) .bR, .aP 267 [] [.ar 20 0]] (aD [(.af 20, .au 370 [.aa .i64 t, .aa .i64 th])]) 21 (cG 21 (λx es=>x= .cE (.aa .i64 (fR (λh=>decide (h=⟨t,th⟩)) l))/\es=[(.af 20, .au 370 [.aa .i64 t, .aa .i64 th])])):=qK Tryz.func228 Tryz.func267 hl
theorem aeX (t:Int) (full:Bool) (l pad:List bX) (hl:l.length<=1048576):bz Tryz.prog 228 [.aL 12 0 2 l.length full, .aP 299 [] [.ar 16 0]] (aD [(.af 12, .aR 370 (((l++pad).map bA).flatten)),(.af 16, .au 3 [.aa .i64 t])]) 17 (cG 17 (λx es=>x= .cE (.aa .i64 (fR (λh=>decide (h.eA=t)) l))/\es=[(.af 12, .aR 370 (((l++pad).map bA).flatten)),(.af 16, .au 3 [.aa .i64 t])])):=zW Tryz.func228 Tryz.func299 hl
theorem aeW (t:Int) (nil:Bool) (l:List bX) (hl:l.length<=1048576):bz Tryz.prog 228 [.ag nil 2 (l.map bA) .bR, .aP 299 [] [.ar 16 0]] (aD [(.af 16, .au 3 [.aa .i64 t])]) 17 (cG 17 (λx es=>x= .cE (.aa .i64 (fR (λh=>decide (h.eA=t)) l))/\es=[(.af 16, .au 3 [.aa .i64 t])])):=qK Tryz.func228 Tryz.func299 hl
theorem aeU (t th:Int) (full:Bool) (l pad:List bX) (hl:l.length<=1048576):bz Tryz.prog 228 [.aL 11 0 2 l.length full, .aP 267 [] [.ar 20 0]] (aD [(.af 11, .aR 370 (((l++pad).map bA).flatten)),(.af 20, .au 370 [.aa .i64 t, .aa .i64 th])]) 21 (cG 21 (λx es=>x= .cE (.aa .i64 (fR (λh=>decide (h=⟨t,th⟩)) l))/\es=[(.af 11, .aR 370 (((l++pad).map bA).flatten)),(.af 20, .au 370 [.aa .i64 t, .aa .i64 th])])):=zW Tryz.func228 Tryz.func267 hl
theorem aeS (c r:Int) (nil:Bool) (l:List iG) (hl:l.length<=1048576):bz Tryz.prog 245 [.ag nil 17 (l.map dY) .av, .aP 213 [] [.ar 1 0]] (aD [(.af 1, .au 62 [.aa .i64 c, .aa .i64 r])]) 2 (cG 2 (λx es=>x= .cE (.aa .i64 (fR (λe=>decide (e.cF.aT.dg=c) && decide (e.cF.aT.dS=r)) l))/\es=[(.af 1, .au 62 [.aa .i64 c, .aa .i64 r])])):=qK Tryz.func245 Tryz.func213 hl
theorem aeR (c r:Int) (nil:Bool) (l:List iG) (hl:l.length<=1048576):bz Tryz.prog 212 [.ag nil 17 (l.map dY) .av, .aP 213 [] [.ar 1 0]] (aD [(.af 1, .au 62 [.aa .i64 c, .aa .i64 r])]) 2 (cG 2 (λx es=>x= .cE (.aE (l.any (λe=>decide (e.cF.aT.dg=c) && decide (e.cF.aT.dS=r))))/\es=[(.af 1, .au 62 [.aa .i64 c, .aa .i64 r])])):=GG Tryz.func212 (aeS c r nil l hl)
theorem ae2 (uk t:Int) (full:Bool) (l pad:List Int) (hl:l.length<=1048576):bz Tryz.prog 310 [.aL 8 0 1 l.length full, .aP 296 [] [.ar 1 0]] (aD [(.af 8, .aR 3 (((l++pad).map ie).flatten)),(.af 1, .au 233 [.aa .i64 uk, .aa .i64 t])]) 9 (cG 9 (λx es=>x= .cE (.aa .i64 (fR (λz=>decide (z=t)) l))/\es=[(.af 8, .aR 3 (((l++pad).map ie).flatten)),(.af 1, .au 233 [.aa .i64 uk, .aa .i64 t])])):=zW Tryz.func310 Tryz.func296 hl
theorem ae1 (uk t:Int) (full:Bool) (l:List Int) (hl:l.length<=1048576):bz Tryz.prog 295 [.aL 8 0 1 l.length full, .aP 296 [] [.ar 1 0]] (aD [(.af 8, .aR 3 (((l).map ie).flatten)),(.af 1, .au 233 [.aa .i64 uk, .aa .i64 t])]) 9 (cG 9 (λx es=>x= .cE (.aL 8 0 1 (l.filter λa=>!(λz=>decide (z=t)) a).length full)/\es=[(.af 8, .aR 3 (((l.filter λa=>!(λz=>decide (z=t)) a).map ie).flatten)),(.af 1, .au 233 [.aa .i64 uk, .aa .i64 t])])):=by
 have hi:=ae2 uk t full l [] hl;rw [List.append_nil] at hi;exact GH Tryz.func295 Tryz.func296 hl hi
theorem ae0 (uk t:Int) (nil:Bool) (l:List Int) (hl:l.length<=1048576):bz Tryz.prog 310 [.ag nil 1 (l.map ie) .bR, .aP 296 [] [.ar 1 0]] (aD [(.af 1, .au 233 [.aa .i64 uk, .aa .i64 t])]) 9 (cG 9 (λx es=>x= .cE (.aa .i64 (fR (λz=>decide (z=t)) l))/\es=[(.af 1, .au 233 [.aa .i64 uk, .aa .i64 t])])):=qK Tryz.func310 Tryz.func296 hl
theorem ae4 (t:ib) (th:Int) (hl:t.di.ab.length<=1048576):aC Tryz.prog 188 [eY t, .aa .i64 th] (.aw [.aa .i64 ((Jx t th).getD 0), .aE (Jx t th).isSome]):=by
 have hi:=aeZ th t.di.bZ t.di.ab hl;unfold Jx;refine bK Tryz.func188 ?_;refine eJ ?_;rcases BM (λh:bX=>decide (h.fZ=th)) t.di.ab with ⟨h1,hno⟩|⟨i,hi,h1,hno,hpi⟩
 ·rw [h1,GF hno];exact bm
 ·rw [h1,GD hi hno hpi];refine eJ ?_;have hg:=lN bA hi;generalize t.di.ab[i]=a at*;exact bm
theorem ae3 (t:ib) (lk:Int) (hl:t.eW.ab.length<=1048576):aC Tryz.prog 266 [eY t, .aa .i64 lk] (.aw [.aa .i64 ((DM t lk).getD 0), .aE (DM t lk).isSome]):=by
 have hi:=aeY lk t.eW.bZ t.eW.ab hl;unfold DM;refine bK Tryz.func266 ?_;refine eJ ?_;rcases BM (λh:bX=>decide (h.eA=lk)) t.eW.ab with ⟨h1,hno⟩|⟨i,hi,h1,hno,hpi⟩
 ·rw [h1,GF hno];exact bm
 ·rw [h1,GD hi hno hpi];refine eJ ?_;have hg:=lN bA hi;generalize t.eW.ab[i]=a at*;exact bm
theorem ae6 (s:iu) (file:Bool):aC Tryz.prog 135 [yq s, .aE file] (.aa .i64 (w9 s file)):=by
 have hck:=Dz s;refine bK Tryz.func135 ?_;refine ak ?_;unfold w9;cases hq:j5 s with
 |false=>
  exact bm
 |true=>
  have h:1<=s.dg/\s.dg<=1048576/\0<=s.dS/\s.dS<=63:=by grind [j5]
  have w1:IntKind.i64.wrap (128*s.dg)=128*s.dg:=bj om om;have w2:IntKind.i64.wrap (2*s.dS)=2*s.dS:=bj om om;have w3:IntKind.i64.wrap (128*s.dg+2*s.dS)=128*s.dg+2*s.dS:=bj om om;have w4:IntKind.i64.wrap (128*s.dg+2*s.dS+1)=128*s.dg+2*s.dS+1:=bj om om;refine ak ?_;rw [w1,w2,w3];refine ⟨λh=>?_,λh=>?_⟩
  ·conv=>whnf
   rw [w4,h];rfl
  ·conv=>whnf
   simp_all
theorem ae7 (seen replica:Int):aC Tryz.prog 209 [.aa .i64 seen, .aa .i64 replica] (.aw [yq ((BE seen replica).getD ⟨0,0⟩), .aa .i64 (if (BE seen replica).isSome=true then 0 else 20)]):=by
 have hck:=Dz ⟨seen+1,replica⟩;unfold BE;refine bK Tryz.func209 ?_
 conv=>whnf
 refine ⟨λh1=>?_,λh1=>?_⟩
 ·have h1:=of_decide_eq_true h1;rw [if_pos (Or.inl h1)];exact bm
 have h1:=of_decide_eq_false h1
 conv=>whnf
 refine ⟨λh2=>?_,λh2=>?_⟩
 ·have h2:=of_decide_eq_true h2;rw [if_pos (Or.inr h2)];exact bm
 have h2:=of_decide_eq_false h2;rw [if_neg om];have w1:IntKind.i64.wrap (seen+1)=seen+1:=bj om om
 conv=>whnf
 rw [w1];refine ak ?_;cases hq:j5 ⟨seen+1,replica⟩ with
 |false=>
  exact bm
 |true=>
  exact bm
theorem U9 (nil:Bool) (seen:Int) (s:iu):aC Tryz.prog 152 [.aa .i64 seen, .ag nil 2 [[.aa .i64 s.dg, .aa .i64 s.dS]] .av] (.aa .i64 (mY seen s)):=by
 have hck:=Dz s;refine bK Tryz.func152 ?_
 conv=>whnf
 refine db.cK (X:=Bool×Int) (λx=>[(.aj 0, .ah (.aa .i64 x.2)),(.aj 7, .ah (.ag nil 2 [[.aa .i64 s.dg, .aa .i64 s.dS]] .av)),(.aj 8, .ah (.aa .i64 1)),(.aj 9, .ah (.aa .i64 (if x.1=true then 1 else 0)))]) 0
  (λx=>x.2=if x.1=true then mY seen s else seen) (λx=>if x.1=true then 0 else 1) dd (false,seen) rfl ⟨rfl,rfl,rfl,rfl,rfl,rfl,rfl,rfl,trivial⟩ ?_
 rintro ⟨b,z⟩ hz;dsimp only at hz;refine cn ?_;cases b with
 |true=>
  rw [hz];dsimp only;rw [if_pos rfl,if_pos rfl];generalize mY seen s=z;exact dC
 |false=>
  rw [hz];dsimp only;rw [if_neg dd,if_neg dd];refine ak ?_;refine ⟨_,⟨dd,rfl⟩,?_⟩;refine ak ?_;cases hq:j5 s with
  |false=>
   refine iV ?_;exact ⟨(true,seen),by simp [mY,hq],Nat.zero_lt_one,rfl,rfl,rfl,rfl,rfl,rfl,rfl,rfl,trivial⟩
  |true=>
   refine iV ?_;exact ⟨(true,max seen s.dg),by simp [mY,hq],Nat.zero_lt_one,rfl,rfl,rfl,rfl,rfl,rfl,rfl,rfl,trivial⟩
def GJ:jr:=⟨0,[]⟩
theorem ae5 {α β:Type} {enc:α->List β} {sz:Nat} (hs:∀ a,(enc a).length=sz) (a x b:List α) (h:x.length<=b.length):
  (((a++b).map enc).flatten).take (a.length*sz)++(x.map enc).flatten++(((a++b).map enc).flatten).drop (a.length*sz+x.length*sz)=((a++x++b.drop x.length).map enc).flatten:=by
 have h1:=BL (enc:=enc) hs (l:=a++b) (k:=a.length) (by simp_all);have h2:=BJ (enc:=enc) hs (l:=a++b) (k:=a.length+x.length) (by simp_all);rw [Nat.add_mul] at h2;simp_all
theorem GI (nil:Bool) (ls:List (Bool×List jr)) (hl:ls.length<=1000) (hn:(ls.flatMap (·.2)).length<=1000000):aC Tryz.prog 157 [.ag nil 1 (ls.map λs=>[ae.ag s.1 2 (s.2.map fD) .av]) .av] (.ag false 2 ((ls.flatMap (·.2)).map fD) .av):=by
 have hel:(ls.map λs=>[ae.ag s.1 2 (s.2.map fD) .av]).length=ls.length:=List.length_map _;refine cU Tryz.func157 ?_
 conv=>whnf
 refine db.cK (λk:Nat=>[(.aj 0, .ah (.ag nil 1 (ls.map λs=>[ae.ag s.1 2 (s.2.map fD) .av]) .av)),(.aj 3, .ah (.aa .i64 ((ls.take k).flatMap (·.2)).length)),(.aj 9, .ah (.ag nil 1 (ls.map λs=>[ae.ag s.1 2 (s.2.map fD) .av]) .av)),(.aj 10, .ah (.aa .i64 ls.length)),(.aj 11, .ah (.aa .i64 k))]) 0
  (λk=>k<=ls.length) (λk=>ls.length - k) dd 0 (Nat.zero_le _) ⟨rfl,rfl,rfl,rfl,rfl,rfl,?_,rfl,rfl,rfl,trivial⟩ ?_
 ·show bs.ah (ae.aa .i64 ((ls.map λs=>[ae.ag s.1 2 (s.2.map fD) .av]).length:Nat))=_;rw [hel]
 intro k hk;refine cn ?_;refine ⟨λh=>?_,λh=>?_⟩
 ·have h:=of_decide_eq_true h;have hlt:k<ls.length:=om;have hg:=lN (λs:Bool×List jr=>[ae.ag s.1 2 (s.2.map fD) .av]) hlt;have w1:IntKind.i64.wrap ((k:Int)+1)=((k+1:Nat):Int):=by grind [bj]
  have ht:((ls.take (k+1)).flatMap (·.2)).length=((ls.take k).flatMap (·.2)).length+ls[k].2.length:=by grind [List.take_succ_eq_append_getElem]
  have hle:((ls.take (k+1)).flatMap (·.2)).length<=1000000:=by
   grind [List.take_append_drop]
  have he:(ls[k].2.map fD).length=ls[k].2.length:=List.length_map _;generalize ls[k]=a at*
  conv=>whnf
  refine ⟨_,⟨om,hg⟩,?_⟩
  conv=>whnf
  refine ⟨k+1,om,by grind,rfl,rfl,?_,rfl,rfl,rfl,rfl,rfl,?_,rfl,trivial⟩
  ·show bs.ah (ae.aa .i64 (IntKind.i64.wrap ((((ls.take k).flatMap (·.2)).length:Int)+((a.2.map fD).length:Nat))))=bs.ah (ae.aa .i64 ((ls.take (k+1)).flatMap (·.2)).length);grind [bj]
  ·exact dh
 ·have h:=of_decide_eq_false h;obtain rfl:k=ls.length:=om;rw [List.take_length];generalize hN:(ls.flatMap (·.2)).length=N at*
  conv=>whnf
  refine ⟨⟨om,rfl,dG om dd⟩,?_⟩
  conv=>whnf
  have hz:eB (N:Int).toNat (iB [ae.aa .i64 0, .ai []])=((List.replicate N GJ).map fD).flatten:=by
   rw [Int.toNat_natCast,List.map_replicate];rfl
  rw [hz];have hle:∀ k,((ls.take k).flatMap (·.2)).length<=N:=λk=>by
   grind [List.take_append_drop]
  refine db.cK (λk:Nat=>[(.aj 3, .ah (.aa .i64 ((ls.take k).flatMap (·.2)).length)),(.aj 6, .ah (.aL 2 0 2 N true)),(.aj 22, .ah (.ag nil 1 (ls.map λs=>[ae.ag s.1 2 (s.2.map fD) .av]) .av)),(.aj 23, .ah (.aa .i64 ls.length)),(.aj 24, .ah (.aa .i64 k)),
    (.af 2, .aR 216 (((((ls.take k).flatMap (·.2))++List.replicate (N - ((ls.take k).flatMap (·.2)).length) GJ).map fD).flatten))]) 3
   (λk=>k<=ls.length) (λk=>ls.length - k) dd 0 (Nat.zero_le _) ⟨rfl,rfl,rfl,rfl,rfl,rfl,?_,rfl,rfl,rfl,rfl,rfl,trivial⟩ ?_
  ·show bs.ah (ae.aa .i64 ((ls.map λs=>[ae.ag s.1 2 (s.2.map fD) .av]).length:Nat))=_;rw [hel]
  intro k hk;have hk1:=hle k;generalize hD:(ls.take k).flatMap (·.2)=D at*;have hml:=pq (enc:=fD) (sz:=2) (λ_=>rfl) (D++List.replicate (N - D.length) GJ);rw [List.length_append,List.length_replicate] at hml;refine cn ?_;refine ⟨λh=>?_,λh=>?_⟩
  ·have h:=of_decide_eq_true h;have hlt:k<ls.length:=om;have hg:=lN (λs:Bool×List jr=>[ae.ag s.1 2 (s.2.map fD) .av]) hlt;have w1:IntKind.i64.wrap ((k:Int)+1)=((k+1:Nat):Int):=by grind [bj]
   have ht:(ls.take (k+1)).flatMap (·.2)=D++ls[k].2:=by grind [List.take_succ_eq_append_getElem]
   have hle1:=hle (k+1);rw [ht,List.length_append] at hle1;have he:(ls[k].2.map fD).length=ls[k].2.length:=List.length_map _;have hmin:min ls[k].2.length (N - D.length)=ls[k].2.length:=om;generalize ls[k]=a at*;have hcp:=ae5 (enc:=fD) (sz:=2) (λ_=>rfl) D a.2 (List.replicate (N - D.length) GJ) (by grind);have hal:=pq (enc:=fD) (sz:=2) (λ_=>rfl) a.2
   conv=>whnf
   refine ⟨_,⟨om,hg⟩,?_⟩
   conv=>whnf
   refine ⟨om,?_⟩
   conv=>whnf
   refine ⟨om,?_⟩
   conv=>whnf
   refine ⟨k+1,om,by grind,?_,rfl,rfl,rfl,rfl,rfl,rfl,rfl,?_,rfl,?_,rfl,trivial⟩
   ·show bs.ah (ae.aa .i64 (IntKind.i64.wrap ((D.length:Int)+((min (a.2.map fD).length (N - (D.length:Int).toNat):Nat):Int))))=bs.ah (ae.aa .i64 ((ls.take (k+1)).flatMap (·.2)).length);rw [ht,he,Int.toNat_natCast,hmin,bj om om,List.length_append];rfl
   ·exact dh
   ·show bs.aR _ (List.take (0+(D.length:Int).toNat*2) _++List.take (min (a.2.map fD).length (N - (D.length:Int).toNat)*2) (a.2.map fD).flatten++List.drop (0+(D.length:Int).toNat*2+min (a.2.map fD).length (N - (D.length:Int).toNat)*2) _)=bs.aR _ (((((ls.take (k+1)).flatMap (·.2))++List.replicate (N - ((ls.take (k+1)).flatMap (·.2)).length) GJ).map fD).flatten);grind
  ·have h:=of_decide_eq_false h;obtain rfl:k=ls.length:=om;rw [List.take_length] at hD
   conv=>whnf
   have e1:N=D.length:=by rw [<-hD,hN]
   have e0:N - D.length=0:=om;rw [e0,List.replicate_zero,List.append_nil,hD];rw [e1];exact D3 (enc:=fD) (λ_=>rfl) (λ_=>rfl) rfl
theorem ae8 (q:vn) (nil:Bool) (l:List jr) (hq:q.oB.ab.length<=100000) (hl:l.length<=100000):aC Tryz.prog 90 [.aK (DX q), .ag nil 2 (l.map fD) .av] (.aK (DX (DR q l))):=by
 obtain ⟨⟨qn,e⟩,over⟩:=q;have hq:e.length<=100000:=hq;have hel:(e.map fD).length=e.length:=List.length_map _;have hll:(l.map fD).length=l.length:=List.length_map _;have hl1:=GI false [((⟨qn,e⟩:cj jr).bZ,e)] (Nat.le_add_left 1 999) (by simp;omega);have hl2:=GI false [((⟨qn,e⟩:cj jr).bZ,e),(nil,l)] (Nat.le_add_left 2 998) (by simp;omega);rw [List.flatMap_cons,List.flatMap_nil,List.append_nil] at hl1;rw [List.flatMap_cons,List.flatMap_cons,List.flatMap_nil,List.append_nil] at hl2;unfold DR;refine bK Tryz.func90 ?_
 conv=>whnf
 cases over with
 |true=>
  exact dC
 |false=>
 refine cC ?_;refine bn Tryz.func158 ?_
 conv=>whnf
 rw [hel,U2,hll];have w8:max (IntKind.i64.wrap (8 - (e.length:Int))) 0=((8 - e.length:Nat):Int):=by grind [bj]
 rw [w8];have hl3:=GI false [((⟨qn,e⟩:cj jr).bZ,e),(nil,l.take (8 - e.length)),(false,[⟨9,[]⟩])] (Nat.le_add_left 3 997) (by simp;omega);rw [List.flatMap_cons,List.flatMap_cons,List.flatMap_cons,List.flatMap_nil,List.append_nil] at hl3;have htk:(l.map fD).take (8 - e.length)=(l.take (8 - e.length)).map fD:=List.map_take.symm;rw [if_neg Bool.false_ne_true];refine ⟨λh=>?_,λh=>?_⟩
 ·have h:=of_decide_eq_true h;rw [if_pos (show 8 - e.length<l.length by omega)]
  conv=>whnf
  refine ⟨⟨om,om,rfl⟩,?_⟩
  conv=>whnf
  rw [Int.toNat_natCast,htk];refine ak ?_;rw [List.append_assoc];rfl
 ·have h:=of_decide_eq_false h;rw [if_neg (show ¬8 - e.length<l.length by omega)];exact bm
theorem ae9 (q:vn) (hq:q.oB.ab.length<=100000):aC Tryz.prog 151 [.aK (DX q), .aa .i64 q.oB.ab.length] (.aw [.aK (DX (sG q).1),cv 2 fD (sG q).2]):=by
 obtain ⟨⟨qn,e⟩,over⟩:=q;have hq:e.length<=100000:=hq;have hel:(e.map fD).length=e.length:=List.length_map _;have hm:max (e.length:Int) 0=e.length:=om;have hm2:min (e.length:Int) (e.length:Int)=e.length:=om;refine bK Tryz.func151 ?_
 conv=>whnf
 rw [aeJ,U2];show (_/\_)/\_;rw [hel,hm,hm2];refine ak ?_;have hd:(e.map fD).drop e.length=[]:=List.drop_of_length_le om;have ht:(e.map fD).take e.length=e.map fD:=List.take_of_length_le om;have h0:=GI false [((⟨qn,e⟩:cj jr).bZ,[])] (Nat.le_add_left 1 999) (by simp);have h1:=GI false [((⟨qn,e⟩:cj jr).bZ,e)] (Nat.le_add_left 1 999) (by simp;omega);rw [List.flatMap_cons,List.flatMap_nil,List.append_nil] at h1;rw [Int.toNat_natCast,hd];refine ak ?_;refine ⟨⟨om,by simp_all,rfl⟩,?_⟩
 conv=>whnf
 rw [Int.toNat_natCast,ht];exact bm
def ur:bX:=⟨0,0⟩
theorem Ve (q:Bool) (l pad:List bX) (v:bX) (hl:l.length<=1048576):bz Tryz.prog 297 [.aL 9 0 2 l.length q, .aK (bA v)] (aD [(.af 9, .aR 370 (((l++pad).map bA).flatten))]) 16
  (cG 16 (λx es=>x= .cE (.aa .i64 (fR (λh=>decide (h=v)) l))/\es=[(.af 9, .aR 370 (((l++pad).map bA).flatten))])):=by
 obtain ⟨vl,vt⟩:=v;refine bn Tryz.func297 ?_
 conv=>whnf
 refine db.cK (λk:Nat=>[(.aj 0, .ah (.aL 9 0 2 l.length q)),(.aj 3, .ah (.ar 16 0)),(.aj 6, .ah (.aL 9 0 2 l.length q)),(.aj 7, .ah (.aa .i64 l.length)),(.aj 8, .ah (.aa .i64 k)),(.af 9, .aR 370 (((l++pad).map bA).flatten)),(.af 16, .au 370 [.aa .i64 vl, .aa .i64 vt])]) 17
  (λk=>k<=l.length/\∀ a∈l.take k,decide (a=(⟨vl,vt⟩:bX))=false) (λk=>l.length - k) dd 0 ⟨Nat.zero_le _,by simp⟩ ⟨rfl,rfl,rfl,rfl,rfl,rfl,rfl,rfl,rfl,rfl,rfl,rfl,rfl,rfl,trivial⟩ ?_
 rintro k ⟨hk,hno⟩;refine cn ?_;refine ⟨λh=>?_,λh=>?_⟩
 ·have h:=of_decide_eq_true h;have hlt:k<l.length:=om;have hltp:k<(l++pad).length:=by grind
  have hgp:(l++pad)[k]=l[k]:=List.getElem_append_left hlt;have hL:=vA (enc:=bA) (sz:=2) (λ_=>rfl) hltp;have hR:=BK (enc:=bA) (sz:=2) (λ_=>rfl) hltp;rw [hgp] at hL;have hp1:=UZ (p:=λh=>decide (h=(⟨vl,vt⟩:bX))) hlt hno;have hp2:=NF (p:=λh=>decide (h=(⟨vl,vt⟩:bX))) hlt hno;have w1:IntKind.i64.wrap ((k:Int)+1)=((k+1:Nat):Int):=by grind [bj]
  have o1:0+(k:Int).toNat*2=k*2:=om;generalize hx:l[k]=a at*;obtain ⟨al,at_⟩:=a;refine ak ?_;rw [o1];refine ak ?_;refine ⟨λh=>?_,λh=>?_⟩
  ·have h:decide ((⟨al,at_⟩:bX)=⟨vl,vt⟩)=true:=by
    simp_all
   conv=>whnf
   refine ⟨_,_,⟨rfl,rfl⟩,rfl,⟨?_,rfl⟩,rfl,rfl,trivial⟩;show ae.aa .i64 k=ae.aa .i64 (fR _ l);rw [hp1 h]
  ·have h:decide ((⟨al,at_⟩:bX)=⟨vl,vt⟩)=false:=by
    grind
   conv=>whnf
   refine ⟨k+1,⟨om,hp2 h⟩,by grind,rfl,rfl,rfl,rfl,rfl,rfl,rfl,rfl,?_,rfl,rfl,rfl,rfl,rfl,trivial⟩;exact dh
 ·have h:=of_decide_eq_false h;obtain rfl:k=l.length:=om;rw [List.take_length] at hno
  conv=>whnf
  refine ⟨_,_,⟨rfl,rfl⟩,rfl,⟨?_,rfl⟩,rfl,rfl,trivial⟩;show ae.aa .i64 (-1)=ae.aa .i64 (fR _ l);rw [ND hno]
theorem xa {α:Type} {enc:α->List ae} (h:∀ a,fL (enc a)=true):∀ l:List α,fL ((l.map enc).flatten)=true
 |[]=>rfl
 |a::l=>JE (h a) (xa h l)
theorem Vd (l1 l2 pad:List bX) (a:bX) (hl:(l1++a::l2).length<=1048576):bz Tryz.prog 298 [.aL 9 0 2 (l1++a::l2).length true, .aa .i64 l1.length, .aa .i64 ((l1.length+1:Nat):Int)] (aD [(.af 9, .aR 370 (((l1++a::l2++pad).map bA).flatten))]) 16
  (cG 16 (λx es=>x= .cE (.aL 9 0 2 (l1++l2).length true)/\es=[(.af 9, .aR 370 (((l1++l2++ur::pad).map bA).flatten))])):=by
 refine bz.LC ?_;refine bn Tryz.func298 ?_
 conv=>whnf
 have hlen:(l1++a::l2).length=l1.length+1+l2.length:=by grind
 have t1:((l1.length+1:Nat):Int).toNat=l1.length+1:=rfl;have hcl:=pq (enc:=bA) (sz:=2) (λ_=>rfl) (l1++a::l2++pad);rw [List.length_append,hlen] at hcl;refine eJ ?_;have e1:(l1++a::l2++pad).drop (l1.length+1)=l2++pad:=by
  simp_all
 have d1:=BJ (enc:=bA) (sz:=2) (λ_=>rfl) (l:=l1++a::l2++pad) (k:=l1.length+1) (by simp_all);rw [e1] at d1;have d2:=BL (enc:=bA) (sz:=2) (λ_=>rfl) (l:=l2++pad) (k:=l2.length) (by simp_all);rw [List.take_left' rfl] at d2;have hm2:(l2.map bA).length=l2.length:=List.length_map _;have o1:0+((l1.length+1:Nat):Int).toNat*2=(l1.length+1)*2:=om;have o2:(l1++a::l2).length - ((l1.length+1:Nat):Int).toNat=l2.length:=by rw [t1];omega
 refine ⟨l2.map bA,⟨by rw [o2,hm2],λel he=>?_,by rw [o1,o2];omega,by rw [o1,o2,d1,d2],xa (λ_=>rfl) l2⟩,?_⟩
 ·obtain ⟨x,_,rfl⟩:=List.mem_map.1 he;rfl
 have o3:(l1.length:Int).toNat=l1.length:=rfl;refine ⟨⟨by rw [hm2,o3];omega,dd⟩,?_⟩
 conv=>whnf
 obtain ⟨x,hx⟩:∃ x,(a::l2).drop l2.length=[x]:=List.length_eq_one_iff.1 (by simp_all);have e2:(l1++a::l2++pad).drop (l1.length+l2.length)=x::pad:=by
  rw [List.append_assoc,<-List.drop_drop,List.drop_left' rfl,List.drop_append_of_le_length (by simp_all),hx];rfl
 have d3:=BJ (enc:=bA) (sz:=2) (λ_=>rfl) (l:=l1++a::l2++pad) (k:=l1.length+l2.length) (by grind);rw [e2] at d3;have d4:=BL (enc:=bA) (sz:=2) (λ_=>rfl) (l:=l1++a::l2++pad) (k:=l1.length) (by simp_all);rw [List.append_assoc,List.take_left' rfl] at d4;have hmem:List.take (l1.length*2) ((l1++a::l2++pad).map bA).flatten++(l2.map bA).flatten++List.drop ((l1.length+l2.length)*2) ((l1++a::l2++pad).map bA).flatten=((l1++l2++x::pad).map bA).flatten:=by
  simp_all
 have hset:=DZ (enc:=bA) (sz:=2) (λ_=>rfl) (l1++l2) pad x ur;have hml:=pq (enc:=bA) (sz:=2) (λ_=>rfl) (l1++l2++x::pad);have hll:(l1++l2).length=l1.length+l2.length:=List.length_append;rw [List.length_append,hll,List.length_cons] at hml;rw [hll] at hset;rw [hm2,o3,hmem];generalize ((l1++l2++x::pad).map bA).flatten=M at*;refine ak ?_;refine mf.U0 dW (t:=32) (e:=370) rfl rfl rfl rfl rfl rfl rfl rfl om (by rw [hlen];omega) dd om ?_
 conv=>whnf
 refine mf.NG dW (t0:=32) (e:=370) aG rfl rfl rfl rfl rfl rfl rfl rfl aG aG om ?_;have o5:0+((l1.length+l2.length:Nat):Int).toNat*2=(l1.length+l2.length)*2:=om;have o6:(((l1++a::l2).length:Nat):Int).toNat - ((l1.length+l2.length:Nat):Int).toNat=1:=om;rw [o5,o6,Nat.one_mul,show eB 1 (iB [ae.aa .i64 0,ae.aa .i64 0])=bA ur from rfl,hset];have o7:(l1++l2).length=l1.length+l2.length:=hll
 conv=>whnf
 rw [o7];exact ⟨_,_,⟨rfl,rfl⟩,rfl,⟨rfl,rfl⟩,rfl,rfl,trivial⟩
theorem afa (l1 l2 pad:List bX) (a:bX) (hl:(l1++a::l2).length<=1048576):bz Tryz.prog 298 [.aL 12 0 2 (l1++a::l2).length true, .aa .i64 l1.length, .aa .i64 ((l1.length+1:Nat):Int)] (aD [(.af 12, .aR 370 (((l1++a::l2++pad).map bA).flatten))]) 16
  (cG 16 (λx es=>x= .cE (.aL 12 0 2 (l1++l2).length true)/\es=[(.af 12, .aR 370 (((l1++l2++ur::pad).map bA).flatten))])):=by
 refine bz.LC ?_;refine bn Tryz.func298 ?_
 conv=>whnf
 have hlen:(l1++a::l2).length=l1.length+1+l2.length:=by grind
 have t1:((l1.length+1:Nat):Int).toNat=l1.length+1:=rfl;have hcl:=pq (enc:=bA) (sz:=2) (λ_=>rfl) (l1++a::l2++pad);rw [List.length_append,hlen] at hcl;refine eJ ?_;have e1:(l1++a::l2++pad).drop (l1.length+1)=l2++pad:=by
  simp_all
 have d1:=BJ (enc:=bA) (sz:=2) (λ_=>rfl) (l:=l1++a::l2++pad) (k:=l1.length+1) (by simp_all);rw [e1] at d1;have d2:=BL (enc:=bA) (sz:=2) (λ_=>rfl) (l:=l2++pad) (k:=l2.length) (by simp_all);rw [List.take_left' rfl] at d2;have hm2:(l2.map bA).length=l2.length:=List.length_map _;have o1:0+((l1.length+1:Nat):Int).toNat*2=(l1.length+1)*2:=om;have o2:(l1++a::l2).length - ((l1.length+1:Nat):Int).toNat=l2.length:=by rw [t1];omega
 refine ⟨l2.map bA,⟨by rw [o2,hm2],λel he=>?_,by rw [o1,o2];omega,by rw [o1,o2,d1,d2],xa (λ_=>rfl) l2⟩,?_⟩
 ·obtain ⟨x,_,rfl⟩:=List.mem_map.1 he;rfl
 have o3:(l1.length:Int).toNat=l1.length:=rfl;refine ⟨⟨by rw [hm2,o3];omega,dd⟩,?_⟩
 conv=>whnf
 obtain ⟨x,hx⟩:∃ x,(a::l2).drop l2.length=[x]:=List.length_eq_one_iff.1 (by simp_all);have e2:(l1++a::l2++pad).drop (l1.length+l2.length)=x::pad:=by
  rw [List.append_assoc,<-List.drop_drop,List.drop_left' rfl,List.drop_append_of_le_length (by simp_all),hx];rfl
 have d3:=BJ (enc:=bA) (sz:=2) (λ_=>rfl) (l:=l1++a::l2++pad) (k:=l1.length+l2.length) (by grind);rw [e2] at d3;have d4:=BL (enc:=bA) (sz:=2) (λ_=>rfl) (l:=l1++a::l2++pad) (k:=l1.length) (by simp_all);rw [List.append_assoc,List.take_left' rfl] at d4;have hmem:List.take (l1.length*2) ((l1++a::l2++pad).map bA).flatten++(l2.map bA).flatten++List.drop ((l1.length+l2.length)*2) ((l1++a::l2++pad).map bA).flatten=((l1++l2++x::pad).map bA).flatten:=by
  simp_all
 have hset:=DZ (enc:=bA) (sz:=2) (λ_=>rfl) (l1++l2) pad x ur;have hml:=pq (enc:=bA) (sz:=2) (λ_=>rfl) (l1++l2++x::pad);have hll:(l1++l2).length=l1.length+l2.length:=List.length_append;rw [List.length_append,hll,List.length_cons] at hml;rw [hll] at hset;rw [hm2,o3,hmem];generalize ((l1++l2++x::pad).map bA).flatten=M at*;refine ak ?_;refine mf.U0 dW (t:=32) (e:=370) rfl rfl rfl rfl rfl rfl rfl rfl om (by rw [hlen];omega) dd om ?_
 conv=>whnf
 refine mf.NG dW (t0:=32) (e:=370) aG rfl rfl rfl rfl rfl rfl rfl rfl aG aG om ?_;have o5:0+((l1.length+l2.length:Nat):Int).toNat*2=(l1.length+l2.length)*2:=om;have o6:(((l1++a::l2).length:Nat):Int).toNat - ((l1.length+l2.length:Nat):Int).toNat=1:=om;rw [o5,o6,Nat.one_mul,show eB 1 (iB [ae.aa .i64 0,ae.aa .i64 0])=bA ur from rfl,hset];have o7:(l1++l2).length=l1.length+l2.length:=hll
 conv=>whnf
 rw [o7];exact ⟨_,_,⟨rfl,rfl⟩,rfl,⟨rfl,rfl⟩,rfl,rfl,trivial⟩
structure rH where
 mF:List bX
 GK:List bX
 nN:List bX
 GL:List bX
def oE (th lk:Int) (x:rH):rH×Option Int:=
 match x.mF.any λh=>decide (h=⟨lk,th⟩) with
 |false=>(x,none)
 |true=>match x.nN.find? λw=>decide (w.eA=lk) with
  |none=>(⟨mC (λh=>decide (h=⟨lk,th⟩)) x.mF,ur::x.GK,x.nN,x.GL⟩,none)
  |some next=>(⟨mC (λh=>decide (h=⟨lk,th⟩)) x.mF++[next],x.GK,mC (λw=>decide (w.eA=lk)) x.nN,ur::x.GL⟩,some next.fZ)
theorem JJ {α:Type} {p:α->Bool}:∀ {l:List α} {i:Nat} (hi:i<l.length),(∀ a∈l.take i,p a=false)->p l[i]=true->∃ l1 a l2,l=l1++a::l2/\l1.length=i/\a=l[i]/\mC p l=l1++l2
 |b::l,0,hi,h,hp=>⟨[],b,l,rfl,rfl,rfl,by grind [mC]⟩
 |b::l,i+1,hi,h,hp=>by
  obtain ⟨l1,a,l2,e1,e2,e3,e4⟩:=JJ (p:=p) (l:=l) (i:=i) (by simpa using hi) (λa ha=>h a (by simp [ha])) (by simpa using hp);grind [mC]
theorem Vb {α:Type} {p:α->Bool} {l:List α} {i:Nat} (hi:i<l.length) (h:p l[i]=true):l.any p=true:=List.any_eq_true.2 ⟨_,List.getElem_mem hi,h⟩
theorem Va {α:Type} {p:α->Bool} {l:List α} (h:∀ a∈l,p a=false):l.any p=false:=List.any_eq_false.2 λa ha=>by rw [h a ha];decide
def JK:Option Int->ae
 |none=> .aw [.aa .i64 0, .bo]
 |some z=> .aw [.aa .i64 z, .bN]
def D7 (x:rH):List (Am.aS×bs):=[(.af 9, .aR 370 (((x.mF++x.GK).map bA).flatten)),(.af 12, .aR 370 (((x.nN++x.GL).map bA).flatten)),(.af 15, .au 415 [.aL 9 0 2 x.mF.length true, .aL 12 0 2 x.nN.length true])]
theorem Vc (x:rH) (th lk:Int) (hh:x.mF.length<=1048576) (hw:x.nN.length<=1048576):bz Tryz.prog 270 [.ar 15 0, .aa .i64 th, .aa .i64 lk] (aD (D7 x)) 16
  (cG 16 (λr es=>r= .cE (JK (oE th lk x).2)/\es=D7 (oE th lk x).1)):=by
 obtain ⟨hl,hp,wl,wp⟩:=x;have hh:hl.length<=1048576:=hh;have hw:wl.length<=1048576:=hw;have hi:=Ve true hl hp ⟨lk,th⟩ hh;refine bz.LC ?_;refine bn Tryz.func270 ?_
 conv=>whnf
 refine .inr ⟨aG,aG,?_⟩;refine eJ ?_;rcases BM (λh:bX=>decide (h=⟨lk,th⟩)) hl with ⟨h1,hno⟩|⟨i,hlt,h1,hno,hpi⟩
 ·unfold oE;dsimp only;rw [Va hno,h1];refine ak ?_;exact ⟨_,_,⟨rfl,rfl⟩,rfl,⟨rfl,rfl⟩,rfl,rfl,rfl,rfl,rfl,rfl,trivial⟩
 obtain ⟨l1,a,l2,e1,e2,e3,e4⟩:=JJ hlt hno hpi;have hany:=Vb (p:=λh:bX=>decide (h=⟨lk,th⟩)) hlt hpi;have hdel:=Vd l1 l2 hp a (by grind);have hix:=aeX lk true wl wp hw;have w1:IntKind.i64.wrap ((i:Int)+1)=((l1.length+1:Nat):Int):=by grind [bj]
 rw [<-e1] at hdel;rw [e2] at hdel w1;unfold oE;dsimp only;rw [hany,h1,e4];clear hi hany h1;refine eJ ?_;rw [w1];refine eJ ?_;rcases BM (λh:bX=>decide (h.eA=lk)) wl with ⟨h1,hnw⟩|⟨j,hjt,h1,hnw,hpj⟩
 ·rw [GF hnw,h1];refine ak ?_;exact ⟨_,_,⟨rfl,rfl⟩,rfl,⟨rfl,rfl⟩,rfl,rfl,rfl,rfl,rfl,rfl,trivial⟩
 obtain ⟨m1,a2,m2,f1,f2,f3,f4⟩:=JJ hjt hnw hpj;have hdel:=afa m1 m2 wp a2 (by grind);have w2:IntKind.i64.wrap ((j:Int)+1)=((m1.length+1:Nat):Int):=by grind [bj]
 have hjp:j<(wl++wp).length:=by grind
 have hL:=vA (enc:=bA) (sz:=2) (λ_=>rfl) hjp;have hR:=BK (enc:=bA) (sz:=2) (λ_=>rfl) hjp;rw [List.getElem_append_left hjt,<-f3] at hL;have o1:0+(j:Int).toNat*2=j*2:=om;rw [GD hjt hnw hpj,<-f3,f4,h1];clear hix h1;rw [<-f1] at hdel;rw [f2] at hdel w2;refine eJ ?_;refine ⟨⟨om,by trivial⟩,?_⟩
 conv=>whnf
 rw [o1];refine ak ?_;rw [w2];refine bz.aeI ?_;refine eJ ?_;have hml:=pq (enc:=bA) (sz:=2) (λ_=>rfl) (l1++l2++ur::hp);rw [List.length_append,List.length_cons] at hml;have hset:=DZ (enc:=bA) (sz:=2) (λ_=>rfl) (l1++l2) hp ur a2;have hsnoc:(l1++l2++[a2]).length=(l1++l2).length+1:=by grind
 have happ:l1++l2++a2::hp=l1++l2++[a2]++hp:=by grind
 rw [happ] at hset;refine ⟨⟨by grind,dd⟩,?_⟩;refine ak ?_;refine ⟨_,D7 ⟨l1++l2++[a2],hp,m1++m2,ur::wp⟩,⟨rfl,rfl⟩,rfl,⟨rfl,rfl⟩,?_,rfl,rfl,rfl,?_,rfl,trivial⟩
 ·refine congrArg (bs.aR _) (Eq.trans ?_ hset);show List.take ((l1++l2).length*2) _++bA a2++List.drop (((l1++l2).length+1)*2) _=_;rw [Nat.add_mul]
 ·show bs.au _ [ae.aL 9 0 2 ((l1++l2).length+1) true,_]=bs.au _ [ae.aL 9 0 2 (l1++l2++[a2]).length true,_];rw [hsnoc];rfl
end Go.Proofs.YtffboamedcmpaaaGreatDoor
