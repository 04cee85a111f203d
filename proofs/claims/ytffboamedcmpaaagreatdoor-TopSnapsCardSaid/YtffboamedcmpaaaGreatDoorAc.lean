import Derived.Test.YtffboamedcmpaaaGreatDoorCards
import Derived.JoinedCond
import Derived.KernelRfl
set_option linter.all false
set_option maxHeartbeats 4000000
set_option maxRecDepth 100000
namespace Go.Proofs.YtffboamedcmpaaaGreatDoor.lnTopSnaps
theorem jf0:Rows.topSnapsRow.wf (OpenSpec.ofChange Rows.topSnapsSpec)=true:=by kernel_rfl
theorem jf1:laidOutB Tryz.prog=true:=by kernel_rfl
theorem jf2:mapsRowed Tryz.prog=true:=by kernel_rfl
theorem jf3:Tryz.f4.params.all (Tryz.prog.readableRec ·)=true:=by kernel_rfl
theorem jf4:namedTie Tryz.prog Rows.topSnapsRow.named Rows.topSnapsSpec.vars=true:=by kernel_rfl
theorem jf5:(Rows.topSnapsRow.stops==[])=true:=by kernel_rfl
theorem jf6:(Tryz.prog.stops==[])=true:=by kernel_rfl
theorem jf7:(Rows.topSnapsRow.knobs==[])=true:=by kernel_rfl
theorem jf8:(Tryz.prog.stopKnobs==[])=true:=by kernel_rfl
theorem jf9:(Rows.topSnapsRow.inPlace==Tryz.prog.inPlace 4)=true:=by kernel_rfl
theorem jf10:(Rows.topSnapsRow.unfollowed==Tryz.prog.unfollowed 4)=true:=by kernel_rfl
theorem jf11:(Rows.topSnapsRow.recurses==Tryz.prog.recurses 4)=true:=by kernel_rfl
theorem jf12:(Rows.topSnapsRow.named==Tryz.prog.varsNamed 4)=true:=by kernel_rfl
theorem jf13:(Rows.topSnapsRow.maps==(Tryz.f4.params.toList++Rows.topSnapsSpec.plain.varTypes Tryz.prog).any (Tryz.prog.mapsRec ·))=true:=by kernel_rfl
theorem jf14:(Rows.topSnapsRow.ifaces==(Tryz.f4.params.toList++Rows.topSnapsSpec.plain.varTypes Tryz.prog).any (Tryz.prog.ifacesRec ·))=true:=by kernel_rfl
theorem jf15:(Rows.topSnapsRow.mapsOut==Tryz.prog.mapsAmong Tryz.f4.resultTypes.toList)=true:=by kernel_rfl
theorem jf16:(Rows.topSnapsRow.loops==(Tryz.f4.params.toList++Rows.topSnapsSpec.plain.varTypes Tryz.prog).any (Tryz.prog.loopsFrom ·))=true:=by kernel_rfl
theorem jf17:(Rows.topSnapsRow.wideKeys==(Tryz.f4.params.toList++Rows.topSnapsSpec.plain.varTypes Tryz.prog++Tryz.f4.resultTypes.toList).any (Tryz.prog.wideKeysFrom ·))=true:=by kernel_rfl
theorem jf18:Rows.topSnapsSpec.vars.all (Tryz.prog.varReadable ·)=true:=by kernel_rfl
theorem jf19:Tryz.f4.resultTypes.all (λt=>Tryz.prog.readableRec t && decide (t<Tryz.prog.types.size))=true:=by kernel_rfl
theorem jf20:(Rows.topSnapsRow.ifacesOut==Tryz.f4.resultTypes.toList.any (Tryz.prog.ifacesRec ·))=true:=by kernel_rfl
theorem jf21:(Rows.topSnapsRow.loopsOut==Tryz.f4.resultTypes.toList.any (Tryz.prog.loopsFrom ·))=true:=by kernel_rfl
theorem jf22:(Rows.topSnapsRow.plainKeys==Tryz.prog.plainKeys)=true:=by kernel_rfl
theorem jf23:Rows.topSnapsRow.shortTexts.isNone=true:=by kernel_rfl
theorem jf24:Tryz.prog.stopsHeard=true:=by kernel_rfl
theorem jf25:Tryz.prog.mayEnter=true:=by kernel_rfl
theorem jf26:(Rows.topSnapsRow.lifted==Tryz.prog.liftsFinal)=true:=by kernel_rfl
theorem jf27:(Tryz.prog.make==some Rows.topSnapsRow.make)=true:=by kernel_rfl
theorem jf29:(Rows.topSnapsRow.pinned==Rows.topSnapsRow.pinnedBy)=true:=by kernel_rfl
theorem jf30:(Rows.topSnapsRow.veiled==(Tryz.f4.params.toList++Rows.topSnapsSpec.plain.varTypes Tryz.prog++Tryz.f4.resultTypes.toList).any (Tryz.prog.veiledRec ·))=true:=by kernel_rfl
theorem jf31:Rows.topSnapsRow.veiledFits Tryz.prog Tryz.f4.params.toList (Tryz.f4.params.toList++Rows.topSnapsSpec.plain.varTypes Tryz.prog++Tryz.f4.resultTypes.toList)=true:=by kernel_rfl
theorem band {a b:Bool} (h:a=true) (g:b=true):(a && b)=true:=by rw [h,g];rfl
theorem closed0:joinedFacts Tryz.prog 4 Tryz.f4 Rows.topSnapsSpec Rows.topSnapsRow=true:=by
 unfold joinedFacts;exact lnTopSnaps.band (lnTopSnaps.band (lnTopSnaps.band (lnTopSnaps.band (lnTopSnaps.band (lnTopSnaps.band (lnTopSnaps.band (lnTopSnaps.band (lnTopSnaps.band (lnTopSnaps.band (lnTopSnaps.band (lnTopSnaps.band (lnTopSnaps.band (lnTopSnaps.band (lnTopSnaps.band (lnTopSnaps.band (lnTopSnaps.band (lnTopSnaps.band (lnTopSnaps.band (lnTopSnaps.band (lnTopSnaps.band (lnTopSnaps.band (lnTopSnaps.band (lnTopSnaps.band (lnTopSnaps.band (lnTopSnaps.band (lnTopSnaps.band (lnTopSnaps.band (lnTopSnaps.band (lnTopSnaps.band (lnTopSnaps.band (lnTopSnaps.jf0) lnTopSnaps.jf1) lnTopSnaps.jf2) lnTopSnaps.jf3) lnTopSnaps.jf4) lnTopSnaps.jf5) lnTopSnaps.jf6) lnTopSnaps.jf7) lnTopSnaps.jf8) lnTopSnaps.jf9) lnTopSnaps.jf10) lnTopSnaps.jf11) lnTopSnaps.jf12) lnTopSnaps.jf13) lnTopSnaps.jf14) lnTopSnaps.jf15) lnTopSnaps.jf16) lnTopSnaps.jf17) lnTopSnaps.jf18) lnTopSnaps.jf19) lnTopSnaps.jf20) lnTopSnaps.jf21) lnTopSnaps.jf22) lnTopSnaps.jf23) lnTopSnaps.jf24) lnTopSnaps.jf25) lnTopSnaps.jf26) lnTopSnaps.jf27) (by kernel_rfl)) lnTopSnaps.jf29) lnTopSnaps.jf30) lnTopSnaps.jf31
theorem closed:joinedFacts Tryz.pinned.checked.prog 4 Tryz.f4 (OpenSpec.ofChange Rows.topSnapsSpec).bare Rows.topSnapsRow=true:=Eq.mpr (by kernel_rfl) lnTopSnaps.closed0
theorem named:Tryz.pinned.checked.prog.funcNamed Rows.topSnapsRow.func=some 4:=by kernel_rfl
theorem wrap:Tryz.f4.isWrapper Tryz.pinned.checked.prog Rows.topSnapsRow.wrapper Rows.topSnapsRow.mainSum:=by unfold Func.isWrapper;first|(rw [if_pos (by decide+kernel)];kernel_rfl)|(rw [if_neg (by decide+kernel)];exact ⟨rfl,rfl⟩)
end Go.Proofs.YtffboamedcmpaaaGreatDoor.lnTopSnaps
