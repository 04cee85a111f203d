import Derived.Test.YtffboamedcmpaaaGreatDoorCards
import Derived.JoinedCond
import Derived.KernelRfl
set_option linter.all false
set_option maxHeartbeats 4000000
set_option maxRecDepth 100000
namespace Go.Proofs.YtffboamedcmpaaaGreatDoor.lnTopForest
theorem jf0:Rows.topForestRow.wf (OpenSpec.ofChange Rows.topForestSpec)=true:=by kernel_rfl
theorem jf1:laidOutB Tryz.prog=true:=by kernel_rfl
theorem jf2:mapsRowed Tryz.prog=true:=by kernel_rfl
theorem jf3:Tryz.f3.params.all (Tryz.prog.readableRec ·)=true:=by kernel_rfl
theorem jf4:namedTie Tryz.prog Rows.topForestRow.named Rows.topForestSpec.vars=true:=by kernel_rfl
theorem jf5:(Rows.topForestRow.stops==[])=true:=by kernel_rfl
theorem jf6:(Tryz.prog.stops==[])=true:=by kernel_rfl
theorem jf7:(Rows.topForestRow.knobs==[])=true:=by kernel_rfl
theorem jf8:(Tryz.prog.stopKnobs==[])=true:=by kernel_rfl
theorem jf9:(Rows.topForestRow.inPlace==Tryz.prog.inPlace 3)=true:=by kernel_rfl
theorem jf10:(Rows.topForestRow.unfollowed==Tryz.prog.unfollowed 3)=true:=by kernel_rfl
theorem jf11:(Rows.topForestRow.recurses==Tryz.prog.recurses 3)=true:=by kernel_rfl
theorem jf12:(Rows.topForestRow.named==Tryz.prog.varsNamed 3)=true:=by kernel_rfl
theorem jf13:(Rows.topForestRow.maps==(Tryz.f3.params.toList++Rows.topForestSpec.plain.varTypes Tryz.prog).any (Tryz.prog.mapsRec ·))=true:=by kernel_rfl
theorem jf14:(Rows.topForestRow.ifaces==(Tryz.f3.params.toList++Rows.topForestSpec.plain.varTypes Tryz.prog).any (Tryz.prog.ifacesRec ·))=true:=by kernel_rfl
theorem jf15:(Rows.topForestRow.mapsOut==Tryz.prog.mapsAmong Tryz.f3.resultTypes.toList)=true:=by kernel_rfl
theorem jf16:(Rows.topForestRow.loops==(Tryz.f3.params.toList++Rows.topForestSpec.plain.varTypes Tryz.prog).any (Tryz.prog.loopsFrom ·))=true:=by kernel_rfl
theorem jf17:(Rows.topForestRow.wideKeys==(Tryz.f3.params.toList++Rows.topForestSpec.plain.varTypes Tryz.prog++Tryz.f3.resultTypes.toList).any (Tryz.prog.wideKeysFrom ·))=true:=by kernel_rfl
theorem jf18:Rows.topForestSpec.vars.all (Tryz.prog.varReadable ·)=true:=by kernel_rfl
theorem jf19:Tryz.f3.resultTypes.all (λt=>Tryz.prog.readableRec t && decide (t<Tryz.prog.types.size))=true:=by kernel_rfl
theorem jf20:(Rows.topForestRow.ifacesOut==Tryz.f3.resultTypes.toList.any (Tryz.prog.ifacesRec ·))=true:=by kernel_rfl
theorem jf21:(Rows.topForestRow.loopsOut==Tryz.f3.resultTypes.toList.any (Tryz.prog.loopsFrom ·))=true:=by kernel_rfl
theorem jf22:(Rows.topForestRow.plainKeys==Tryz.prog.plainKeys)=true:=by kernel_rfl
theorem jf23:Rows.topForestRow.shortTexts.isNone=true:=by kernel_rfl
theorem jf24:Tryz.prog.stopsHeard=true:=by kernel_rfl
theorem jf25:Tryz.prog.mayEnter=true:=by kernel_rfl
theorem jf26:(Rows.topForestRow.lifted==Tryz.prog.liftsFinal)=true:=by kernel_rfl
theorem jf27:(Tryz.prog.make==some Rows.topForestRow.make)=true:=by kernel_rfl
theorem jf29:(Rows.topForestRow.pinned==Rows.topForestRow.pinnedBy)=true:=by kernel_rfl
theorem jf30:(Rows.topForestRow.veiled==(Tryz.f3.params.toList++Rows.topForestSpec.plain.varTypes Tryz.prog++Tryz.f3.resultTypes.toList).any (Tryz.prog.veiledRec ·))=true:=by kernel_rfl
theorem jf31:Rows.topForestRow.veiledFits Tryz.prog Tryz.f3.params.toList (Tryz.f3.params.toList++Rows.topForestSpec.plain.varTypes Tryz.prog++Tryz.f3.resultTypes.toList)=true:=by kernel_rfl
theorem band {a b:Bool} (h:a=true) (g:b=true):(a && b)=true:=by rw [h,g];rfl
theorem closed0:joinedFacts Tryz.prog 3 Tryz.f3 Rows.topForestSpec Rows.topForestRow=true:=by
 unfold joinedFacts;exact lnTopForest.band (lnTopForest.band (lnTopForest.band (lnTopForest.band (lnTopForest.band (lnTopForest.band (lnTopForest.band (lnTopForest.band (lnTopForest.band (lnTopForest.band (lnTopForest.band (lnTopForest.band (lnTopForest.band (lnTopForest.band (lnTopForest.band (lnTopForest.band (lnTopForest.band (lnTopForest.band (lnTopForest.band (lnTopForest.band (lnTopForest.band (lnTopForest.band (lnTopForest.band (lnTopForest.band (lnTopForest.band (lnTopForest.band (lnTopForest.band (lnTopForest.band (lnTopForest.band (lnTopForest.band (lnTopForest.band (lnTopForest.jf0) lnTopForest.jf1) lnTopForest.jf2) lnTopForest.jf3) lnTopForest.jf4) lnTopForest.jf5) lnTopForest.jf6) lnTopForest.jf7) lnTopForest.jf8) lnTopForest.jf9) lnTopForest.jf10) lnTopForest.jf11) lnTopForest.jf12) lnTopForest.jf13) lnTopForest.jf14) lnTopForest.jf15) lnTopForest.jf16) lnTopForest.jf17) lnTopForest.jf18) lnTopForest.jf19) lnTopForest.jf20) lnTopForest.jf21) lnTopForest.jf22) lnTopForest.jf23) lnTopForest.jf24) lnTopForest.jf25) lnTopForest.jf26) lnTopForest.jf27) (by kernel_rfl)) lnTopForest.jf29) lnTopForest.jf30) lnTopForest.jf31
theorem closed:joinedFacts Tryz.pinned.checked.prog 3 Tryz.f3 (OpenSpec.ofChange Rows.topForestSpec).bare Rows.topForestRow=true:=Eq.mpr (by kernel_rfl) lnTopForest.closed0
theorem named:Tryz.pinned.checked.prog.funcNamed Rows.topForestRow.func=some 3:=by kernel_rfl
theorem wrap:Tryz.f3.isWrapper Tryz.pinned.checked.prog Rows.topForestRow.wrapper Rows.topForestRow.mainSum:=by unfold Func.isWrapper;first|(rw [if_pos (by decide+kernel)];kernel_rfl)|(rw [if_neg (by decide+kernel)];exact ⟨rfl,rfl⟩)
end Go.Proofs.YtffboamedcmpaaaGreatDoor.lnTopForest
