/- What is read and listed through a snapshot's handle stays what it was when the handle was told (TopSnaps): the law answers true, for every size and every two lists of orders, on every machine whose laid tables are the program's own. No condition beyond the given statement's. -/
import Derived.Test.YtffboamedcmpaaaGreatDoorTie
import Derived.Deep.DeepHandedRow
import Derived.Lib.LaidTab
import Derived.Test.YtffboamedcmpaaaGreatDoorAc
import Derived.Test.YtffboamedcmpaaaGreatDoorAx
set_option linter.all false
set_option maxHeartbeats 4000000
set_option maxRecDepth 100000
namespace Go.Proofs.YtffboamedcmpaaaGreatDoor.lnTopSnaps
open Go.ChangeShapes Go.WideShapes Go.ChangeAt Go.RowKit
open Go.ChangeMaps (open_string)
theorem own:ownKnob Tryz.prog.godebug=none:=by kernel_rfl
theorem laidOut:laidOutB Tryz.prog=true:=by kernel_rfl
theorem gTab:Tryz.prog.globalNamed "gunwale/sums.steps" =some 0:=by kernel_rfl
theorem gTabType:(Tryz.prog.globals[0]?).map (·.type)=some 411:=by kernel_rfl
theorem cellsA:Tryz.prog.cellsOf 411=2:=by kernel_rfl
theorem cellsE:Tryz.prog.cellsOf 318=1:=by kernel_rfl
theorem table {W:World} (h:laidMetH Tryz.prog Rows.topSnapsRow.laid W):Lib.TabIs Tryz.prog W "gunwale/sums.steps" .u32 [0,79764919]:=
 Lib.tabIs_of_head lnTopSnaps.gTab lnTopSnaps.gTabType Tryz.underlying411 Tryz.underlying318 lnTopSnaps.cellsE lnTopSnaps.cellsA h
theorem gok {W:World} (h:laidMetH Tryz.prog Rows.topSnapsRow.laid W):Go.Am.sX Tryz.prog W:=λx c i b j z a=>by
 obtain rfl:=aw.1 c;have g:Tryz.prog.globalNamed "gunwale/sums.steps" =some 0:=by kernel_rfl
 obtain rfl:0=i:=jX (g.symm.trans b)
 match j,a with
 |0,a=>cases a;exact (lnTopSnaps.table h).cell lnTopSnaps.gTab 0 (by decide)
 |1,a=>cases a;exact (lnTopSnaps.table h).cell lnTopSnaps.gTab 1 (by decide)
 |j+2,a=>cases a
theorem reads_all:∀ t∈Tryz.f4.params.toList,Tryz.prog.readableRec t=true/\t<Tryz.prog.types.size:=by
 rw [Tryz.params4];intro t a;have b:Tryz.prog.readableRec 5=true/\5<Tryz.prog.types.size:=⟨by kernel_rfl,ah (by kernel_rfl)⟩;have h:Tryz.prog.readableRec 22=true/\22<Tryz.prog.types.size:=⟨by kernel_rfl,ah (by kernel_rfl)⟩;simp only [aK,List.not_mem_nil,or_false] at a;rcases a with rfl|rfl|rfl
 .exact b
 .exact h
 .exact h
theorem contract (H:Type) (enc:TypeId×Value->H) (W:World) (base:Nat) (args:Array Value) (ds gs:List (DataW H)) (before:List MemPlace)
  (hval:∀ (j:Nat) t v,Tryz.f4.params[j]? =some t->args[j]? =some v->Value.okWide Tryz.prog W .any base t v)
  (hW:DataW.Whole enc Tryz.prog Tryz.f4.params.toList Rows.topSnapsSpec.vars false W args.toList ds gs before) (hL:laidMetH Tryz.prog Rows.topSnapsRow.laid W):
  Calls Tryz.prog 4 args W λe W'=>∃ v,e= .returned v/\Rows.topSnapsSpec.post enc Tryz.prog Tryz.f4 false true false false W args v W':=by
 have hW':=hW;obtain ⟨p,q,hA0,hV,rfl,hfz,hnd⟩:=hW;have hA:DataW.TrodAll enc Tryz.prog W 0 (λ_=>true) true Tryz.f4.params.toList args.toList ds p:=hA0;rw [Tryz.params4] at hA hval;obtain ⟨v0,vs0,d0,ds0,p0,q0,hargs,rfl,rfl,g0,r0⟩:=trodAll_cons hA;obtain ⟨v1,vs1,d1,ds1,p1,q1,rfl,rfl,rfl,g1,r1⟩:=trodAll_cons r0;obtain ⟨v2,vs2,d2,ds2,p2,q2,rfl,rfl,rfl,g2,r2⟩:=trodAll_cons r1;obtain ⟨rfl,rfl,rfl⟩:=trodAll_nil r2;obtain rfl:args=#[v0,v1,v2]:=by cases args;simp_all
 obtain ⟨rfl,rfl⟩:=trodVars_none hV;clear hA0;obtain ⟨z,rfl,rfl,rfl,wfz⟩:=open_int Tryz.underlying5 (hval 0 5 v0 rfl rfl) g0;have hz:=bounds_u8 wfz;obtain ⟨z,rfl⟩:=de hz.1;obtain ⟨nil1,k,hp1,hn1,hl1⟩:=adC (hval 1 22 v1 rfl rfl) g1;obtain ⟨nil2,l,hp2,hn2,hl2⟩:=adC (hval 2 22 v2 rfl rfl) g2;refine (aiW (lnTopSnaps.gok hL) (vals:=[.int .u8 z,v1,v2]) (aq7 z (by omega) nil1 nil2 k l (by unfold maxLen at hl1;omega) (by unfold maxLen at hl2;omega)) rfl (Rb aiX (Rb hp1 (Rb hp2 aiY)))).mono λe W' ⟨he,hb⟩=>⟨.bool true,he,?_⟩
 exact adE hW' rfl rfl (by kernel_rfl) Tryz.underlying4 lnTopSnaps.laidOut lnTopSnaps.reads_all hb
noncomputable def laidWorld (s:Os):World:=
 {World.holding Tryz.prog s ⟨#[],#[],[]⟩ with heap:=((((World.holding Tryz.prog s ⟨#[],#[],[]⟩).heap.modify 0 (λo=>match o with|Obj.cells _ t frozen=>Obj.cells #[.int .u32 0, .int .u32 79764919] t frozen|o=>o)).modify 3 (λo=>match o with|Obj.cells _ t frozen=>Obj.cells (([128,191,160,191,128,159,144,191,128,143]++List.replicate 22 0).map λx:Nat=>Value.int .u8 x).toArray t frozen|o=>o)).modify 2 (λo=>match o with|Obj.cells _ t frozen=>Obj.cells ((List.replicate 128 240++List.replicate 66 241++List.replicate 30 2++[19]++List.replicate 12 3++[35,3,3,52,4,4,4,68]++List.replicate 11 241).map λx:Nat=>Value.int .u8 x).toArray t frozen|o=>o))}
theorem laid_met (o:Os):laidMet Tryz.prog Rows.topSnapsRow.laid ((lnTopSnaps.laidWorld o).forCall (λ_ _=>0) ⟨#[],#[.int .u8 0, .slice none 0 0, .slice none 0 0],[]⟩).memory:=
 laidMet_of_run' 8 (by kernel_rfl) (by kernel_rfl)
theorem reads (o:Os) {H:Type} (enc:TypeId×Value->H):∃ p,DataW.whole enc Tryz.prog ((lnTopSnaps.laidWorld o).forCall (λ_ _=>0) ⟨#[],#[.int .u8 0, .slice none 0 0, .slice none 0 0],[]⟩).memory Tryz.f4.params.toList Rows.topSnapsSpec.vars false (#[.int .u8 0, .slice none 0 0, .slice none 0 0]:Array Value).toList 8=some ([.lit (.int .u8 0), .nil, .nil],[],p):=
 ⟨[],by kernel_rfl⟩
theorem lifted (o:Os) (t:o.Started) (H:Type) (enc:TypeId×Value->H) (F:Stop.Interp):
  ReturnsInHanded {} Tryz.checked o 4 .any ((OpenSpec.ofChange Rows.topSnapsSpec).preRow enc Tryz.prog Tryz.f4 Rows.topSnapsRow.domain false Rows.topSnapsRow.laid) (((OpenSpec.ofChange Rows.topSnapsSpec).at F).post enc Tryz.prog Tryz.f4 false true false false):=by
 obtain ⟨p,x⟩:=lnTopSnaps.reads o enc;refine returnsInHanded_of_row (C:=Tryz.checked) (s:=OpenSpec.ofChange Rows.topSnapsSpec) lnTopSnaps.own t (by kernel_rfl) Tryz.func4
  (witness_row_at (enc:=enc) (C:=Tryz.checked) false (lnTopSnaps.laidWorld o) #[.int .u8 0, .slice none 0 0, .slice none 0 0] rfl (by kernel_rfl) (by kernel_rfl) (by kernel_rfl)
   (OpenSpec.preRow_of_cond 8 x (by kernel_rfl) (λk f=>by cases f) (by kernel_rfl) (lnTopSnaps.laid_met o))) ?_
 intro W e a d g b h c _ _ _ L _ _;exact lnTopSnaps.contract H enc W e a d g b h c L
theorem said:Rows.TopSnapsSaid:=
 OpenClaim.holds_of_cond 4 Tryz.f4 rfl rfl rfl rfl rfl rfl rfl ⟨rfl,rfl,rfl,rfl,rfl⟩ rfl rfl rfl rfl rfl lnTopSnaps.named Tryz.func4 lnTopSnaps.closed
  (ah (by kernel_rfl)) lnTopSnaps.wrap
  (λo s H e _ F=>by rw [OpenClaim.pre_eq_preRow];exact lnTopSnaps.lifted o s H e F)
theorem plain (f:FuncId) (fn:Func) (b:Tryz.pinned.checked.prog.funcNamed "gunwale/gunwaletop.TopSnaps" =some f) (h:Tryz.pinned.checked.prog.funcs[f]? =some fn):
  true=Tryz.pinned.checked.prog.looks []/\∀ (j:Nat) t,fn.params[j]? =some t->Tryz.pinned.checked.prog.wantsStandIn t=false:=by
 obtain rfl:f=4:=jX ((show Tryz.prog.funcNamed "gunwale/gunwaletop.TopSnaps" =some 4 by kernel_rfl).symm.trans b)|>.symm;obtain rfl:fn=Tryz.f4:=(jX (Tryz.func4.symm.trans h)).symm;refine ⟨by kernel_rfl,λj t a=>?_⟩;have c:Tryz.prog.wantsStandIn 5=false:=by kernel_rfl
 have k:Tryz.prog.wantsStandIn 22=false:=by kernel_rfl
 rw [Tryz.params4] at a;have m:=Array.mem_of_getElem? a;simp only [List.mem_toArray,aK,List.not_mem_nil,or_false] at m;rcases m with rfl|rfl|rfl
 .exact c
 .exact k
 .exact k
theorem card:Rows.TopSnapsCardSaid:=
 Claim7.holds_tied_plain_at .later [] _ _ _ _ lnTopSnaps.said (λ_ h=>by cases h) (by kernel_rfl) (λ_ h=>by cases h) topSnaps_row_tie rfl ⟨rfl,rfl⟩ (by kernel_rfl) rfl lnTopSnaps.plain (by kernel_rfl)
end Go.Proofs.YtffboamedcmpaaaGreatDoor.lnTopSnaps
