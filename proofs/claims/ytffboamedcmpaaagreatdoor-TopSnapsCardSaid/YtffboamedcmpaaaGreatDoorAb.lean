import Derived.Test.YtffboamedcmpaaaGreatDoorRows
import Derived.WalkKit
import Derived.ProofKit
import Derived.OpenShut
import Derived.Below
import Derived.Carry
import Derived.Test.YtffboamedcmpaaaGreatDoorAa
set_option linter.all false
set_option maxHeartbeats 4000000
set_option maxRecDepth 100000
namespace Go.Proofs.YtffboamedcmpaaaGreatDoor
open Go.ChangeShapes Go.WideShapes Go.RowKit
theorem adD {w:World} {a:Addr} {v:Value} (h:w.cell? a=some v):a.block<w.heap.size:=by
 rcases bu a.block w.heap.size with hl|hl
 .exact hl
 .have:w.heap[a.block]? =none:=by simp [hl]
  simp [World.cell?,this] at h
section
variable {H:Type} {enc:TypeId×Value->H} {P:Program}
theorem adF (hl:laidOutB P=true) {W W':World} (hb:Below W.heap.size W W'):∀ (ts:List TypeId) (vs:List Value) (ds:List (DataW H)) (ps:List MemPlace),
  (∀ t∈ts,P.readableRec t=true/\t<P.types.size)->DataW.TrodAll enc P W 0 (λ_=>true) true ts vs ds ps->(∀ x∈ps,x.block<W.heap.size)->
  DataW.TrodAll enc P W' 0 (λb=>decide (b<W.heap.size)) true ts vs ds ps:=by
 intro ts
 induction ts with
 |nil=>
  intro vs ds ps _ h _;obtain ⟨rfl,rfl,rfl⟩:=trodAll_nil h;exact trodAll_mk0
 |cons t ts ih=>
  intro vs ds ps hr h hlt;obtain ⟨v,vs',d,ds',p,q,rfl,rfl,rfl,h0,hs⟩:=trodAll_cons h;have h1:=hr t (by simp);exact trodAll_cons_mk (Below.trod hl h1.1 h1.2 h0 hb (λx hx=>hlt x (by simp [hx]))) (ih vs' ds' q (λt ht=>hr t (by simp [ht])) hs (λx hx=>hlt x (by simp [hx])))
theorem adE {f:Func} {s:ChangeSpec} {W W':World} {args:Array Value} {ds:List (DataW H)} {before:List MemPlace} {tb:TypeId}
  (hW:DataW.Whole enc P f.params.toList s.vars false W args.toList ds [] before) (hvs:s.vars=[])
  (hfn:s.fn H (ds++[])={results:=[.lit (.bool true)],args:=ds}) (hrt:f.resultTypes=#[tb]) (htb:P.underlying tb=some .bool)
  (hl:laidOutB P=true) (hr:∀ t∈f.params.toList,P.readableRec t=true/\t<P.types.size) (hb:Below W.heap.size W W'):
  s.post enc P f false true false false W args (.bool true) W':=by
 have hlt:∀ p∈before,p.block<W.heap.size:=λp hp=>hW.lt p hp
 have hW0:=hW;obtain ⟨p,q,hA,hV,rfl,hz,hn⟩:=hW;rw [hvs] at hV;obtain ⟨_,rfl⟩:=trodVars_none hV;refine ⟨ds,[],p++[],[],p,[],hW0,?_,?_,?_,?_,λh=>by cases h⟩
 .rw [hfn,hrt];exact trodAll_mk1 (shut_bool htb true)
 .rw [hfn];exact adF hl hb _ _ _ _ hr hA (λx hx=>hlt x (by simp [hx]))
 .rw [hfn,hvs];rfl
 .exact World.keptBut_mono (λ_ h=>h) (hb.frame _)
end
end Go.Proofs.YtffboamedcmpaaaGreatDoor
