/-
  Our texts, packed by program.
-/
import Derived.Test.YtmpgankhnfpoaaaGreatDoorQNodeRefuses14
set_option linter.unusedSimpArgs false
set_option linter.unusedVariables false
set_option maxHeartbeats 16000000
set_option maxRecDepth 100000
namespace Go.Proofs.YtmpgankhnfpoaaaGreatDoor.nodeRefuses
open Go.H
open Go.Proofs.Tryz
open Go.ChangeShapes Go.WideShapes Go.ChangeAt Go.RowKit
open Go.ChangeMaps (open_string shut_string)
theorem C2M:(Rows.nodeRefusesUptoRow.wf (OpenSpec.ofChange (Rows.OpenSpec.upto Rows.nodeRefusesSpec).bare))=true:=by kernel_rfl
theorem C2L:(laidOutB Tryz.pinned.checked.prog)=true:=by kernel_rfl
theorem C2K:(mapsRowed Tryz.pinned.checked.prog)=true:=by kernel_rfl
theorem C2J:(Tryz.f3.params.all (Tryz.pinned.checked.prog.readableRec ·))=true:=by kernel_rfl
theorem C2I:(namedTie Tryz.pinned.checked.prog Rows.nodeRefusesUptoRow.named (Rows.OpenSpec.upto Rows.nodeRefusesSpec).bare.vars)=true:=by kernel_rfl
theorem C2H:((Rows.nodeRefusesUptoRow.stops==[]))=true:=by kernel_rfl
theorem C2G:((Tryz.pinned.checked.prog.stops==[]))=true:=by kernel_rfl
theorem C2F:((Rows.nodeRefusesUptoRow.knobs==[]))=true:=by kernel_rfl
theorem C2E:((Tryz.pinned.checked.prog.stopKnobs==[]))=true:=by kernel_rfl
theorem C2D:((Rows.nodeRefusesUptoRow.inPlace==Tryz.pinned.checked.prog.inPlace 3))=true:=by kernel_rfl
theorem C1L:((Rows.nodeRefusesUptoRow.unfollowed==Tryz.pinned.checked.prog.unfollowed 3))=true:=by kernel_rfl
theorem C1K:((Rows.nodeRefusesUptoRow.recurses==Tryz.pinned.checked.prog.recurses 3))=true:=by kernel_rfl
theorem C1J:((Rows.nodeRefusesUptoRow.named==Tryz.pinned.checked.prog.varsNamed 3))=true:=by kernel_rfl
theorem C1I:((Rows.nodeRefusesUptoRow.maps==(Tryz.f3.params.toList++(Rows.OpenSpec.upto Rows.nodeRefusesSpec).bare.plain.varTypes Tryz.pinned.checked.prog).any (Tryz.pinned.checked.prog.mapsRec ·)))=true:=by kernel_rfl
theorem C1H:((Rows.nodeRefusesUptoRow.ifaces==(Tryz.f3.params.toList++(Rows.OpenSpec.upto Rows.nodeRefusesSpec).bare.plain.varTypes Tryz.pinned.checked.prog).any (Tryz.pinned.checked.prog.ifacesRec ·)))=true:=by kernel_rfl
theorem C1G:((Rows.nodeRefusesUptoRow.mapsOut==Tryz.pinned.checked.prog.mapsAmong Tryz.f3.resultTypes.toList))=true:=by kernel_rfl
theorem C1F:((Rows.nodeRefusesUptoRow.loops==(Tryz.f3.params.toList++(Rows.OpenSpec.upto Rows.nodeRefusesSpec).bare.plain.varTypes Tryz.pinned.checked.prog).any (Tryz.pinned.checked.prog.loopsFrom ·)))=true:=by kernel_rfl
theorem C1E:((Rows.nodeRefusesUptoRow.wideKeys==(Tryz.f3.params.toList++(Rows.OpenSpec.upto Rows.nodeRefusesSpec).bare.plain.varTypes Tryz.pinned.checked.prog++Tryz.f3.resultTypes.toList).any (Tryz.pinned.checked.prog.wideKeysFrom ·)))=true:=by kernel_rfl
theorem C1D:((Rows.OpenSpec.upto Rows.nodeRefusesSpec).bare.vars.all (Tryz.pinned.checked.prog.varReadable ·))=true:=by kernel_rfl
theorem C1C:(Tryz.f3.resultTypes.all (fun t=>Tryz.pinned.checked.prog.readableRec t&&decide (t<Tryz.pinned.checked.prog.types.size)))=true:=by kernel_rfl
theorem C1B:((Rows.nodeRefusesUptoRow.ifacesOut==Tryz.f3.resultTypes.toList.any (Tryz.pinned.checked.prog.ifacesRec ·)))=true:=by kernel_rfl
theorem C1A:((Rows.nodeRefusesUptoRow.loopsOut==Tryz.f3.resultTypes.toList.any (Tryz.pinned.checked.prog.loopsFrom ·)))=true:=by kernel_rfl
theorem C1z:((Rows.nodeRefusesUptoRow.plainKeys==Tryz.pinned.checked.prog.plainKeys))=true:=by kernel_rfl
theorem C1y:(Rows.nodeRefusesUptoRow.shortTexts.isNone)=true:=by kernel_rfl
theorem C1x:(Tryz.pinned.checked.prog.stopsHeard)=true:=by kernel_rfl
theorem C1w:(Tryz.pinned.checked.prog.mayEnter)=true:=by kernel_rfl
theorem C1v:((Rows.nodeRefusesUptoRow.lifted==Tryz.pinned.checked.prog.liftsFinal))=true:=by kernel_rfl
theorem C1u:((Tryz.pinned.checked.prog.make==some Rows.nodeRefusesUptoRow.make))=true:=by kernel_rfl
theorem C1t:((Rows.nodeRefusesUptoRow.kinds==(if Rows.nodeRefusesUptoRow.domain.isEmpty then[] else Tryz.f3.params.toList.map fun t=>match Tryz.pinned.checked.prog.underlying t with|some (.int k)=>some k|_=>none)))=true:=by kernel_rfl
theorem C1s:((Rows.nodeRefusesUptoRow.pinned==Rows.nodeRefusesUptoRow.pinnedBy))=true:=by kernel_rfl
theorem C1r:((Rows.nodeRefusesUptoRow.veiled==(Tryz.f3.params.toList++(Rows.OpenSpec.upto Rows.nodeRefusesSpec).bare.plain.varTypes Tryz.pinned.checked.prog++Tryz.f3.resultTypes.toList).any (Tryz.pinned.checked.prog.veiledRec ·)))=true:=by kernel_rfl
theorem C1q:(Rows.nodeRefusesUptoRow.veiledFits Tryz.pinned.checked.prog Tryz.f3.params.toList (Tryz.f3.params.toList++(Rows.OpenSpec.upto Rows.nodeRefusesSpec).bare.plain.varTypes Tryz.pinned.checked.prog++Tryz.f3.resultTypes.toList))=true:=by kernel_rfl
theorem e8{a b:Bool}(ha:a=true)(hb:b=true):(a&&b)=true:=by rw[ha,hb];rfl
theorem facts:joinedFacts Tryz.pinned.checked.prog 3 Tryz.f3 (Rows.OpenSpec.upto Rows.nodeRefusesSpec).bare Rows.nodeRefusesUptoRow=true:=by
 unfold joinedFacts
 exact(e8 (e8 (e8 (e8 (e8 (e8 (e8 (e8 (e8 (e8 (e8 (e8 (e8 (e8 (e8 (e8 (e8 (e8 (e8 (e8 (e8 (e8 (e8 (e8 (e8 (e8 (e8 (e8 (e8 (e8 (e8 C2M C2L) C2K) C2J) C2I) C2H) C2G) C2F) C2E) C2D) C1L) C1K) C1J) C1I) C1H) C1G) C1F) C1E) C1D) C1C) C1B) C1A) C1z) C1y) C1x) C1w) C1v) C1u) C1t) C1s) C1r) C1q)
end Go.Proofs.YtmpgankhnfpoaaaGreatDoor.nodeRefuses