/-
  Our texts, packed by program.
-/
import Derived.Test.YtmpgankhnfpoaaaGreatDoorQNodeRefuses9
set_option linter.unusedSimpArgs false
set_option linter.unusedVariables false
set_option maxHeartbeats 16000000
set_option maxRecDepth 100000
namespace Go.Proofs.YtmpgankhnfpoaaaGreatDoor
open Go.H
open Go.Proofs.Tryz
open Go.ChangeShapes Go.WideShapes Go.ChangeAt Go.RowKit Go.Proofs Go.Lib
theorem C3p(os:Os)(args:C3D):(DataW.laidRun prog (lw os args) 8 (A5e.map (·.1))).map (fun x=>laidRowsB prog (lw os args) x.2)=some true:=by kernel_rfl
open Go.ChangeShapes Go.WideShapes Go.ChangeAt Go.RowKit Go.Proofs Go.Lib
theorem lm3(os:Os)(args:C3D):(z7.filter fun x=>x.2.handleName?.isSome&&x.2.funcsIn?.isNone).all (handleAtB prog (lw os args))=true:=by kernel_rfl
theorem lm4(os:Os)(args:C3D):funcsRun prog (lw os args) 8 ((funcsListed z7).map (·.1))=some ((funcsListed z7).map (·.2.funcsOut)):=by kernel_rfl
end Go.Proofs.YtmpgankhnfpoaaaGreatDoor