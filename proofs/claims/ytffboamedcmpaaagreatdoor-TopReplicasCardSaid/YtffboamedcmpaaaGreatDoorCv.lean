import Derived.Test.YtffboamedcmpaaaGreatDoorCards
import Derived.JoinedCond
import Derived.KernelRfl
set_option linter.all false
set_option maxHeartbeats 4000000
set_option maxRecDepth 100000
namespace Go.Proofs.YtffboamedcmpaaaGreatDoor.lnTopReplicas
theorem jf0:Rows.topReplicasRow.wf (OpenSpec.ofChange Rows.topReplicasSpec)=true:=by kernel_rfl
theorem jf1:laidOutB Tryz.prog=true:=by kernel_rfl
theorem jf2:mapsRowed Tryz.prog=true:=by kernel_rfl
theorem jf3:Tryz.f5.params.all (Tryz.prog.readableRec ·)=true:=by kernel_rfl
theorem jf4:namedTie Tryz.prog Rows.topReplicasRow.named Rows.topReplicasSpec.vars=true:=by kernel_rfl
theorem jf5:(Rows.topReplicasRow.stops==[])=true:=by kernel_rfl
theorem jf6:(Tryz.prog.stops==[])=true:=by kernel_rfl
theorem jf7:(Rows.topReplicasRow.knobs==[])=true:=by kernel_rfl
theorem jf8:(Tryz.prog.stopKnobs==[])=true:=by kernel_rfl
theorem jf9:(Rows.topReplicasRow.inPlace==Tryz.prog.inPlace 5)=true:=by kernel_rfl
theorem jf10:(Rows.topReplicasRow.unfollowed==Tryz.prog.unfollowed 5)=true:=by kernel_rfl
theorem jf11:(Rows.topReplicasRow.recurses==Tryz.prog.recurses 5)=true:=by kernel_rfl
theorem jf12:(Rows.topReplicasRow.named==Tryz.prog.varsNamed 5)=true:=by kernel_rfl
theorem jf13:(Rows.topReplicasRow.maps==(Tryz.f5.params.toList++Rows.topReplicasSpec.plain.varTypes Tryz.prog).any (Tryz.prog.mapsRec ·))=true:=by kernel_rfl
theorem jf14:(Rows.topReplicasRow.ifaces==(Tryz.f5.params.toList++Rows.topReplicasSpec.plain.varTypes Tryz.prog).any (Tryz.prog.ifacesRec ·))=true:=by kernel_rfl
theorem jf15:(Rows.topReplicasRow.mapsOut==Tryz.prog.mapsAmong Tryz.f5.resultTypes.toList)=true:=by kernel_rfl
theorem jf16:(Rows.topReplicasRow.loops==(Tryz.f5.params.toList++Rows.topReplicasSpec.plain.varTypes Tryz.prog).any (Tryz.prog.loopsFrom ·))=true:=by kernel_rfl
theorem jf17:(Rows.topReplicasRow.wideKeys==(Tryz.f5.params.toList++Rows.topReplicasSpec.plain.varTypes Tryz.prog++Tryz.f5.resultTypes.toList).any (Tryz.prog.wideKeysFrom ·))=true:=by kernel_rfl
theorem jf18:Rows.topReplicasSpec.vars.all (Tryz.prog.varReadable ·)=true:=by kernel_rfl
theorem jf19:Tryz.f5.resultTypes.all (λt=>Tryz.prog.readableRec t && decide (t<Tryz.prog.types.size))=true:=by kernel_rfl
theorem jf20:(Rows.topReplicasRow.ifacesOut==Tryz.f5.resultTypes.toList.any (Tryz.prog.ifacesRec ·))=true:=by kernel_rfl
theorem jf21:(Rows.topReplicasRow.loopsOut==Tryz.f5.resultTypes.toList.any (Tryz.prog.loopsFrom ·))=true:=by kernel_rfl
theorem jf22:(Rows.topReplicasRow.plainKeys==Tryz.prog.plainKeys)=true:=by kernel_rfl
theorem jf23:Rows.topReplicasRow.shortTexts.isNone=true:=by kernel_rfl
theorem jf24:Tryz.prog.stopsHeard=true:=by kernel_rfl
theorem jf25:Tryz.prog.mayEnter=true:=by kernel_rfl
theorem jf26:(Rows.topReplicasRow.lifted==Tryz.prog.liftsFinal)=true:=by kernel_rfl
theorem jf27:(Tryz.prog.make==some Rows.topReplicasRow.make)=true:=by kernel_rfl
theorem jf29:(Rows.topReplicasRow.pinned==Rows.topReplicasRow.pinnedBy)=true:=by kernel_rfl
theorem jf30:(Rows.topReplicasRow.veiled==(Tryz.f5.params.toList++Rows.topReplicasSpec.plain.varTypes Tryz.prog++Tryz.f5.resultTypes.toList).any (Tryz.prog.veiledRec ·))=true:=by kernel_rfl
theorem jf31:Rows.topReplicasRow.veiledFits Tryz.prog Tryz.f5.params.toList (Tryz.f5.params.toList++Rows.topReplicasSpec.plain.varTypes Tryz.prog++Tryz.f5.resultTypes.toList)=true:=by kernel_rfl
theorem band {a b:Bool} (h:a=true) (g:b=true):(a && b)=true:=by rw [h,g];rfl
theorem closed0:joinedFacts Tryz.prog 5 Tryz.f5 Rows.topReplicasSpec Rows.topReplicasRow=true:=by
 unfold joinedFacts;exact lnTopReplicas.band (lnTopReplicas.band (lnTopReplicas.band (lnTopReplicas.band (lnTopReplicas.band (lnTopReplicas.band (lnTopReplicas.band (lnTopReplicas.band (lnTopReplicas.band (lnTopReplicas.band (lnTopReplicas.band (lnTopReplicas.band (lnTopReplicas.band (lnTopReplicas.band (lnTopReplicas.band (lnTopReplicas.band (lnTopReplicas.band (lnTopReplicas.band (lnTopReplicas.band (lnTopReplicas.band (lnTopReplicas.band (lnTopReplicas.band (lnTopReplicas.band (lnTopReplicas.band (lnTopReplicas.band (lnTopReplicas.band (lnTopReplicas.band (lnTopReplicas.band (lnTopReplicas.band (lnTopReplicas.band (lnTopReplicas.band (lnTopReplicas.jf0) lnTopReplicas.jf1) lnTopReplicas.jf2) lnTopReplicas.jf3) lnTopReplicas.jf4) lnTopReplicas.jf5) lnTopReplicas.jf6) lnTopReplicas.jf7) lnTopReplicas.jf8) lnTopReplicas.jf9) lnTopReplicas.jf10) lnTopReplicas.jf11) lnTopReplicas.jf12) lnTopReplicas.jf13) lnTopReplicas.jf14) lnTopReplicas.jf15) lnTopReplicas.jf16) lnTopReplicas.jf17) lnTopReplicas.jf18) lnTopReplicas.jf19) lnTopReplicas.jf20) lnTopReplicas.jf21) lnTopReplicas.jf22) lnTopReplicas.jf23) lnTopReplicas.jf24) lnTopReplicas.jf25) lnTopReplicas.jf26) lnTopReplicas.jf27) (by kernel_rfl)) lnTopReplicas.jf29) lnTopReplicas.jf30) lnTopReplicas.jf31
theorem closed:joinedFacts Tryz.pinned.checked.prog 5 Tryz.f5 (OpenSpec.ofChange Rows.topReplicasSpec).bare Rows.topReplicasRow=true:=Eq.mpr (by kernel_rfl) lnTopReplicas.closed0
theorem named:Tryz.pinned.checked.prog.funcNamed Rows.topReplicasRow.func=some 5:=by kernel_rfl
theorem wrap:Tryz.f5.isWrapper Tryz.pinned.checked.prog Rows.topReplicasRow.wrapper Rows.topReplicasRow.mainSum:=by unfold Func.isWrapper;first|(rw [if_pos (by decide+kernel)];kernel_rfl)|(rw [if_neg (by decide+kernel)];exact ⟨rfl,rfl⟩)
end Go.Proofs.YtffboamedcmpaaaGreatDoor.lnTopReplicas
