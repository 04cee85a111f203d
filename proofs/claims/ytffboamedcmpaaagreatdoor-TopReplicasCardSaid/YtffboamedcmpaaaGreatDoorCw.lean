/- Two replicas that did whatever, each by itself, show the same tree when each has merged what the other one did (TopReplicas): the law answers true for every two lists of orders. No condition beyond the given statement's. -/
import Derived.Test.YtffboamedcmpaaaGreatDoorTie
import Derived.Deep.DeepHandedRow
import Derived.Lib.LaidTab
import Derived.Test.YtffboamedcmpaaaGreatDoorCu
import Derived.Test.YtffboamedcmpaaaGreatDoorCv
set_option linter.all false
set_option maxHeartbeats 4000000
set_option maxRecDepth 100000
namespace Go.Proofs.YtffboamedcmpaaaGreatDoor.lnTopReplicas
open Go.ChangeShapes Go.WideShapes Go.ChangeAt Go.RowKit
open Go.ChangeMaps (open_string)
theorem own:ownKnob Tryz.prog.godebug=none:=by kernel_rfl
theorem laidOut:laidOutB Tryz.prog=true:=by kernel_rfl
theorem gTab:Tryz.prog.globalNamed "gunwale/sums.steps" =some 0:=by kernel_rfl
theorem gTabType:(Tryz.prog.globals[0]?).map (·.type)=some 411:=by kernel_rfl
theorem cellsA:Tryz.prog.cellsOf 411=2:=by kernel_rfl
theorem cellsE:Tryz.prog.cellsOf 318=1:=by kernel_rfl
theorem table {W:World} (h:laidMetH Tryz.prog Rows.topReplicasRow.laid W):Lib.TabIs Tryz.prog W "gunwale/sums.steps" .u32 [0,79764919]:=
 Lib.tabIs_of_head lnTopReplicas.gTab lnTopReplicas.gTabType Tryz.underlying411 Tryz.underlying318 lnTopReplicas.cellsE lnTopReplicas.cellsA h
theorem gok {W:World} (h:laidMetH Tryz.prog Rows.topReplicasRow.laid W):Go.Am.mb Tryz.prog W:=λx hx i hi j z hz=>by
 obtain rfl:=List.mem_singleton.1 hx;have hg:Tryz.prog.globalNamed "gunwale/sums.steps" =some 0:=by kernel_rfl
 obtain rfl:0=i:=Option.some.inj (hg.symm.trans hi)
 match j,hz with
 |0,hz=>cases hz;exact (lnTopReplicas.table h).cell lnTopReplicas.gTab 0 (by decide)
 |1,hz=>cases hz;exact (lnTopReplicas.table h).cell lnTopReplicas.gTab 1 (by decide)
 |j+2,hz=>cases hz
theorem reads_all:∀ t∈Tryz.f5.params.toList,Tryz.prog.readableRec t=true/\t<Tryz.prog.types.size:=by
 rw [Tryz.params5];intro t ht;have h0:Tryz.prog.readableRec 22=true/\22<Tryz.prog.types.size:=⟨by kernel_rfl,of_decide_eq_true (by kernel_rfl)⟩;simp only [List.mem_cons,List.not_mem_nil,or_false] at ht;rcases ht with rfl|rfl
 ·exact h0
 ·exact h0
theorem contract (H:Type) (enc:TypeId×Value->H) (W:World) (base:Nat) (args:Array Value) (ds gs:List (DataW H)) (before:List MemPlace)
  (hval:∀ (j:Nat) t v,Tryz.f5.params[j]? =some t->args[j]? =some v->Value.okWide Tryz.prog W .any base t v)
  (hW:DataW.Whole enc Tryz.prog Tryz.f5.params.toList Rows.topReplicasSpec.vars false W args.toList ds gs before) (hL:laidMetH Tryz.prog Rows.topReplicasRow.laid W):
  Calls Tryz.prog 5 args W λe W'=>∃ v,e= .returned v/\Rows.topReplicasSpec.post enc Tryz.prog Tryz.f5 false true false false W args v W':=by
 have hW':=hW;obtain ⟨p,q,hA0,hV,rfl,hfz,hnd⟩:=hW;have hA:DataW.TrodAll enc Tryz.prog W 0 (λ_=>true) true Tryz.f5.params.toList args.toList ds p:=hA0;rw [Tryz.params5] at hA hval;obtain ⟨v0,vs0,d0,ds0,p0,q0,hargs,rfl,rfl,g0,r0⟩:=trodAll_cons hA;obtain ⟨v1,vs1,d1,ds1,p1,q1,rfl,rfl,rfl,g1,r1⟩:=trodAll_cons r0;obtain ⟨rfl,rfl,rfl⟩:=trodAll_nil r1;obtain rfl:args=#[v0,v1]:=by cases args;simp_all
 obtain ⟨rfl,rfl⟩:=trodVars_none hV;clear hA0;obtain ⟨nil0,a,hp0,hn0,hl0⟩:=Pj (hval 0 22 v0 rfl rfl) g0;obtain ⟨nil1,b,hp1,hn1,hl1⟩:=Pj (hval 1 22 v1 rfl rfl) g1;refine (RG (lnTopReplicas.gok hL) (vals:=[v0,v1]) (aj8 nil0 nil1 a b (by unfold maxLen at hl0;omega) (by unfold maxLen at hl1;omega)) rfl (IG hp0 (IG hp1 RH))).mono λe W' ⟨he,hb⟩=>⟨.bool true,he,?_⟩
 exact RD hW' rfl rfl (by kernel_rfl) Tryz.underlying4 lnTopReplicas.laidOut lnTopReplicas.reads_all hb
noncomputable def laidWorld (os:Os):World:=
 {World.holding Tryz.prog os ⟨#[],#[],[]⟩ with heap:=((((World.holding Tryz.prog os ⟨#[],#[],[]⟩).heap.modify 0 (λo=>match o with|Obj.cells _ t frozen=>Obj.cells #[.int .u32 0, .int .u32 79764919] t frozen|o=>o)).modify 3 (λo=>match o with|Obj.cells _ t frozen=>Obj.cells (([128,191,160,191,128,159,144,191,128,143]++List.replicate 22 0).map λx:Nat=>Value.int .u8 x).toArray t frozen|o=>o)).modify 2 (λo=>match o with|Obj.cells _ t frozen=>Obj.cells ((List.replicate 128 240++List.replicate 66 241++List.replicate 30 2++[19]++List.replicate 12 3++[35,3,3,52,4,4,4,68]++List.replicate 11 241).map λx:Nat=>Value.int .u8 x).toArray t frozen|o=>o))}
theorem laid_met (os:Os):laidMet Tryz.prog Rows.topReplicasRow.laid ((lnTopReplicas.laidWorld os).forCall (λ_ _=>0) ⟨#[],#[.slice none 0 0, .slice none 0 0],[]⟩).memory:=
 laidMet_of_run' 8 (by kernel_rfl) (by kernel_rfl)
theorem reads (os:Os) {H:Type} (enc:TypeId×Value->H):∃ places,DataW.whole enc Tryz.prog ((lnTopReplicas.laidWorld os).forCall (λ_ _=>0) ⟨#[],#[.slice none 0 0, .slice none 0 0],[]⟩).memory Tryz.f5.params.toList Rows.topReplicasSpec.vars false (#[.slice none 0 0, .slice none 0 0]:Array Value).toList 8=some ([.nil, .nil],[],places):=
 ⟨[],by kernel_rfl⟩
theorem lifted (os:Os) (started:os.Started) (H:Type) (enc:TypeId×Value->H) (F:Stop.Interp):
  ReturnsInHanded {} Tryz.checked os 5 .any ((OpenSpec.ofChange Rows.topReplicasSpec).preRow enc Tryz.prog Tryz.f5 Rows.topReplicasRow.domain false Rows.topReplicasRow.laid) (((OpenSpec.ofChange Rows.topReplicasSpec).at F).post enc Tryz.prog Tryz.f5 false true false false):=by
 obtain ⟨places,hx⟩:=lnTopReplicas.reads os enc;refine returnsInHanded_of_row (C:=Tryz.checked) (s:=OpenSpec.ofChange Rows.topReplicasSpec) lnTopReplicas.own started (by kernel_rfl) Tryz.func5
  (witness_row_at (enc:=enc) (C:=Tryz.checked) false (lnTopReplicas.laidWorld os) #[.slice none 0 0, .slice none 0 0] rfl (by kernel_rfl) (by kernel_rfl) (by kernel_rfl)
   (OpenSpec.preRow_of_cond 8 hx (by kernel_rfl) (λk hk=>by cases hk) (by kernel_rfl) (lnTopReplicas.laid_met os))) ?_
 intro W base args ds gs before hval hW _ _ _ hL _ _;exact lnTopReplicas.contract H enc W base args ds gs before hval hW hL
theorem said:Rows.TopReplicasSaid:=
 OpenClaim.holds_of_cond 5 Tryz.f5 rfl rfl rfl rfl rfl rfl rfl ⟨rfl,rfl,rfl,rfl,rfl⟩ rfl rfl rfl rfl rfl lnTopReplicas.named Tryz.func5 lnTopReplicas.closed
  (of_decide_eq_true (by kernel_rfl)) lnTopReplicas.wrap
  (λos started H enc _ F=>by rw [OpenClaim.pre_eq_preRow];exact lnTopReplicas.lifted os started H enc F)
theorem plain (f:FuncId) (fn:Func) (hf:Tryz.pinned.checked.prog.funcNamed "gunwale/gunwaletop.TopReplicas" =some f) (hfn:Tryz.pinned.checked.prog.funcs[f]? =some fn):
  true=Tryz.pinned.checked.prog.looks []/\∀ (j:Nat) t,fn.params[j]? =some t->Tryz.pinned.checked.prog.wantsStandIn t=false:=by
 obtain rfl:f=5:=Option.some.inj ((show Tryz.prog.funcNamed "gunwale/gunwaletop.TopReplicas" =some 5 by kernel_rfl).symm.trans hf)|>.symm;obtain rfl:fn=Tryz.f5:=(Option.some.inj (Tryz.func5.symm.trans hfn)).symm;refine ⟨by kernel_rfl,λj t ht=>?_⟩;have k0:Tryz.prog.wantsStandIn 22=false:=by kernel_rfl
 rw [Tryz.params5] at ht;have hm:=Array.mem_of_getElem? ht;simp only [List.mem_toArray,List.mem_cons,List.not_mem_nil,or_false] at hm;rcases hm with rfl|rfl
 ·exact k0
 ·exact k0
theorem card:Rows.TopReplicasCardSaid:=
 Claim7.holds_tied_plain_at .later [] _ _ _ _ lnTopReplicas.said (λ_ h=>by cases h) (by kernel_rfl) (λ_ h=>by cases h) topReplicas_row_tie rfl ⟨rfl,rfl⟩ (by kernel_rfl) rfl lnTopReplicas.plain (by kernel_rfl)
end Go.Proofs.YtffboamedcmpaaaGreatDoor.lnTopReplicas
