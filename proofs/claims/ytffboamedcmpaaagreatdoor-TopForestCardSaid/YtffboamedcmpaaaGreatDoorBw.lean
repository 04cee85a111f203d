/- What is seen of a replica behind any orders is a tree (TopForest): the law answers true, for every size and every list of orders, on every machine whose laid tables are the program's own. No condition beyond the given statement's. -/
import Derived.Test.YtffboamedcmpaaaGreatDoorTie
import Derived.Deep.DeepHandedRow
import Derived.Lib.LaidTab
import Derived.Test.YtffboamedcmpaaaGreatDoorBu
import Derived.Test.YtffboamedcmpaaaGreatDoorBv
set_option linter.all false
set_option maxHeartbeats 4000000
set_option maxRecDepth 100000
namespace Go.Proofs.YtffboamedcmpaaaGreatDoor.lnTopForest
open Go.ChangeShapes Go.WideShapes Go.ChangeAt Go.RowKit
open Go.ChangeMaps (open_string)
theorem own:ownKnob Tryz.prog.godebug=none:=by kernel_rfl
theorem laidOut:laidOutB Tryz.prog=true:=by kernel_rfl
theorem gTab:Tryz.prog.globalNamed "gunwale/sums.steps" =some 0:=by kernel_rfl
theorem gTabType:(Tryz.prog.globals[0]?).map (·.type)=some 411:=by kernel_rfl
theorem cellsA:Tryz.prog.cellsOf 411=2:=by kernel_rfl
theorem cellsE:Tryz.prog.cellsOf 318=1:=by kernel_rfl
theorem table {W:World} (h:laidMetH Tryz.prog Rows.topForestRow.laid W):Lib.TabIs Tryz.prog W "gunwale/sums.steps" .u32 [0,79764919]:=
 Lib.tabIs_of_head lnTopForest.gTab lnTopForest.gTabType Tryz.underlying411 Tryz.underlying318 lnTopForest.cellsE lnTopForest.cellsA h
theorem gok {W:World} (h:laidMetH Tryz.prog Rows.topForestRow.laid W):Go.Am.mb Tryz.prog W:=λx hx i hi j z hz=>by
 obtain rfl:=List.mem_singleton.1 hx;have hg:Tryz.prog.globalNamed "gunwale/sums.steps" =some 0:=by kernel_rfl
 obtain rfl:0=i:=Option.some.inj (hg.symm.trans hi)
 match j,hz with
 |0,hz=>cases hz;exact (lnTopForest.table h).cell lnTopForest.gTab 0 (by decide)
 |1,hz=>cases hz;exact (lnTopForest.table h).cell lnTopForest.gTab 1 (by decide)
 |j+2,hz=>cases hz
theorem reads_all:∀ t∈Tryz.f3.params.toList,Tryz.prog.readableRec t=true/\t<Tryz.prog.types.size:=by
 rw [Tryz.params3];intro t ht;have h0:Tryz.prog.readableRec 5=true/\5<Tryz.prog.types.size:=⟨by kernel_rfl,of_decide_eq_true (by kernel_rfl)⟩;have h1:Tryz.prog.readableRec 22=true/\22<Tryz.prog.types.size:=⟨by kernel_rfl,of_decide_eq_true (by kernel_rfl)⟩;simp only [List.mem_cons,List.not_mem_nil,or_false] at ht;rcases ht with rfl|rfl
 ·exact h0
 ·exact h1
theorem contract (H:Type) (enc:TypeId×Value->H) (W:World) (base:Nat) (args:Array Value) (ds gs:List (DataW H)) (before:List MemPlace)
  (hval:∀ (j:Nat) t v,Tryz.f3.params[j]? =some t->args[j]? =some v->Value.okWide Tryz.prog W .any base t v)
  (hW:DataW.Whole enc Tryz.prog Tryz.f3.params.toList Rows.topForestSpec.vars false W args.toList ds gs before) (hL:laidMetH Tryz.prog Rows.topForestRow.laid W):
  Calls Tryz.prog 3 args W λe W'=>∃ v,e= .returned v/\Rows.topForestSpec.post enc Tryz.prog Tryz.f3 false true false false W args v W':=by
 have hW':=hW;obtain ⟨p,q,hA0,hV,rfl,hfz,hnd⟩:=hW;have hA:DataW.TrodAll enc Tryz.prog W 0 (λ_=>true) true Tryz.f3.params.toList args.toList ds p:=hA0;rw [Tryz.params3] at hA hval;obtain ⟨v0,vs0,d0,ds0,p0,q0,hargs,rfl,rfl,g0,r0⟩:=trodAll_cons hA;obtain ⟨v1,vs1,d1,ds1,p1,q1,rfl,rfl,rfl,g1,r1⟩:=trodAll_cons r0;obtain ⟨rfl,rfl,rfl⟩:=trodAll_nil r1;obtain rfl:args=#[v0,v1]:=by cases args;simp_all
 obtain ⟨rfl,rfl⟩:=trodVars_none hV;clear hA0;obtain ⟨z,rfl,rfl,rfl,wfz⟩:=open_int Tryz.underlying5 (hval 0 5 v0 rfl rfl) g0;have hz:=bounds_u8 wfz;obtain ⟨z,rfl⟩:=Int.eq_ofNat_of_zero_le hz.1;obtain ⟨nil1,l,hp1,hn1,hl1⟩:=Pj (hval 1 22 v1 rfl rfl) g1;refine (RG (lnTopForest.gok hL) (vals:=[.int .u8 z,v1]) (ajQ X2 z (by omega) nil1 l (by unfold maxLen at hl1;omega)) rfl (IG aas (IG hp1 RH))).mono λe W' ⟨he,hb⟩=>⟨.bool true,he,?_⟩
 exact RD hW' rfl rfl (by kernel_rfl) Tryz.underlying4 lnTopForest.laidOut lnTopForest.reads_all hb
noncomputable def laidWorld (os:Os):World:=
 {World.holding Tryz.prog os ⟨#[],#[],[]⟩ with heap:=((((World.holding Tryz.prog os ⟨#[],#[],[]⟩).heap.modify 0 (λo=>match o with|Obj.cells _ t frozen=>Obj.cells #[.int .u32 0, .int .u32 79764919] t frozen|o=>o)).modify 3 (λo=>match o with|Obj.cells _ t frozen=>Obj.cells (([128,191,160,191,128,159,144,191,128,143]++List.replicate 22 0).map λx:Nat=>Value.int .u8 x).toArray t frozen|o=>o)).modify 2 (λo=>match o with|Obj.cells _ t frozen=>Obj.cells ((List.replicate 128 240++List.replicate 66 241++List.replicate 30 2++[19]++List.replicate 12 3++[35,3,3,52,4,4,4,68]++List.replicate 11 241).map λx:Nat=>Value.int .u8 x).toArray t frozen|o=>o))}
theorem laid_met (os:Os):laidMet Tryz.prog Rows.topForestRow.laid ((lnTopForest.laidWorld os).forCall (λ_ _=>0) ⟨#[],#[.int .u8 0, .slice none 0 0],[]⟩).memory:=
 laidMet_of_run' 8 (by kernel_rfl) (by kernel_rfl)
theorem reads (os:Os) {H:Type} (enc:TypeId×Value->H):∃ places,DataW.whole enc Tryz.prog ((lnTopForest.laidWorld os).forCall (λ_ _=>0) ⟨#[],#[.int .u8 0, .slice none 0 0],[]⟩).memory Tryz.f3.params.toList Rows.topForestSpec.vars false (#[.int .u8 0, .slice none 0 0]:Array Value).toList 8=some ([.lit (.int .u8 0), .nil],[],places):=
 ⟨[],by kernel_rfl⟩
theorem lifted (os:Os) (started:os.Started) (H:Type) (enc:TypeId×Value->H) (F:Stop.Interp):
  ReturnsInHanded {} Tryz.checked os 3 .any ((OpenSpec.ofChange Rows.topForestSpec).preRow enc Tryz.prog Tryz.f3 Rows.topForestRow.domain false Rows.topForestRow.laid) (((OpenSpec.ofChange Rows.topForestSpec).at F).post enc Tryz.prog Tryz.f3 false true false false):=by
 obtain ⟨places,hx⟩:=lnTopForest.reads os enc;refine returnsInHanded_of_row (C:=Tryz.checked) (s:=OpenSpec.ofChange Rows.topForestSpec) lnTopForest.own started (by kernel_rfl) Tryz.func3
  (witness_row_at (enc:=enc) (C:=Tryz.checked) false (lnTopForest.laidWorld os) #[.int .u8 0, .slice none 0 0] rfl (by kernel_rfl) (by kernel_rfl) (by kernel_rfl)
   (OpenSpec.preRow_of_cond 8 hx (by kernel_rfl) (λk hk=>by cases hk) (by kernel_rfl) (lnTopForest.laid_met os))) ?_
 intro W base args ds gs before hval hW _ _ _ hL _ _;exact lnTopForest.contract H enc W base args ds gs before hval hW hL
theorem said:Rows.TopForestSaid:=
 OpenClaim.holds_of_cond 3 Tryz.f3 rfl rfl rfl rfl rfl rfl rfl ⟨rfl,rfl,rfl,rfl,rfl⟩ rfl rfl rfl rfl rfl lnTopForest.named Tryz.func3 lnTopForest.closed
  (of_decide_eq_true (by kernel_rfl)) lnTopForest.wrap
  (λos started H enc _ F=>by rw [OpenClaim.pre_eq_preRow];exact lnTopForest.lifted os started H enc F)
theorem plain (f:FuncId) (fn:Func) (hf:Tryz.pinned.checked.prog.funcNamed "gunwale/gunwaletop.TopForest" =some f) (hfn:Tryz.pinned.checked.prog.funcs[f]? =some fn):
  true=Tryz.pinned.checked.prog.looks []/\∀ (j:Nat) t,fn.params[j]? =some t->Tryz.pinned.checked.prog.wantsStandIn t=false:=by
 obtain rfl:f=3:=Option.some.inj ((show Tryz.prog.funcNamed "gunwale/gunwaletop.TopForest" =some 3 by kernel_rfl).symm.trans hf)|>.symm;obtain rfl:fn=Tryz.f3:=(Option.some.inj (Tryz.func3.symm.trans hfn)).symm;refine ⟨by kernel_rfl,λj t ht=>?_⟩;have k0:Tryz.prog.wantsStandIn 5=false:=by kernel_rfl
 have k1:Tryz.prog.wantsStandIn 22=false:=by kernel_rfl
 rw [Tryz.params3] at ht;have hm:=Array.mem_of_getElem? ht;simp only [List.mem_toArray,List.mem_cons,List.not_mem_nil,or_false] at hm;rcases hm with rfl|rfl
 ·exact k0
 ·exact k1
theorem card:Rows.TopForestCardSaid:=
 Claim7.holds_tied_plain_at .later [] _ _ _ _ lnTopForest.said (λ_ h=>by cases h) (by kernel_rfl) (λ_ h=>by cases h) topForest_row_tie rfl ⟨rfl,rfl⟩ (by kernel_rfl) rfl lnTopForest.plain (by kernel_rfl)
end Go.Proofs.YtffboamedcmpaaaGreatDoor.lnTopForest
