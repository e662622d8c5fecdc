/-
  Our texts, packed by program.
-/
import Derived.Test.YtmpgankhnfpoaaaGreatDoorQNodeRefuses15
set_option linter.unusedSimpArgs false
set_option linter.unusedVariables false
set_option maxHeartbeats 16000000
set_option maxRecDepth 100000
namespace Go.Proofs.YtmpgankhnfpoaaaGreatDoor.nodeRefuses
open Go.H
open Go.Proofs.Tryz
open Go
theorem B67{P:Program}(h:P.funcs.any Func.goes=false)(func:String):P.goesAt .entering func=false:=by
 have hg:∀f,P.goes f=false:=fun f=>by
  unfold Program.goes
  rw[h,Bool.and_false,Bool.or_false,List.any_eq_false]
  intro g _
  cases hc:P.funcs[g]? with
  |none=>simp
  |some fn=>
   have:=Array.any_eq_false.1 h
   obtain⟨af,hv⟩:=B3.1 hc
   have:=this g af
   rw[hv] at this
   simpa using this
 unfold Program.goesAt Program.goesFrom
 cases P.funcNamed func with
 |none=>rfl
 |some f=>simp[hg f]
theorem C3n:Tryz.pinned.checked.prog.funcs.any Func.goes=false:=by kernel_rfl
theorem cfact5:false=Rows.nodeRefusesUptoRow.goesBy Tryz.pinned.checked.prog:=(B67 C3n _).symm
theorem cfact4:([24,28].all fun u=> !prog.wantsStandIn u)=true:=by kernel_rfl
theorem cfact3:true=Tryz.pinned.checked.prog.looks []:=by kernel_rfl
theorem cfact2:prog.funcNamed "aqueduct/aqueductlaw24.NodeRefuses" =some 3:=by kernel_rfl
theorem cfact1:Tryz.pinned.checked.prog.mainIs=some (((true,"8fc60e0f7ca0fe9c79363ca8028c918d5aa158782efc8c045040733484d9cc90"):Bool×String).1,((true,"8fc60e0f7ca0fe9c79363ca8028c918d5aa158782efc8c045040733484d9cc90"):Bool×String).2.toList):=by kernel_rfl
theorem cfact0:Rows.nodeRefusesUptoRow.wfByText (Rows.OpenSpec.upto Rows.nodeRefusesSpec)=true:=by kernel_rfl
end Go.Proofs.YtmpgankhnfpoaaaGreatDoor.nodeRefuses