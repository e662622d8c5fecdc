/-
  Our texts, packed by program.
-/
import Derived.Test.YtmpgankhnfpoaaaGreatDoorQNodeRefuses11
import Derived.LaidByTextLater
import Derived.SevenTiedAt
set_option linter.unusedSimpArgs false
set_option linter.unusedVariables false
set_option maxHeartbeats 16000000
set_option maxRecDepth 100000
namespace Go.Proofs.YtmpgankhnfpoaaaGreatDoor
open Go.H
open Go.Proofs.Tryz
open Go
theorem C2m:prog.worded (varsWordLater true)=true:=by kernel_rfl
open Go
theorem C2l:prog.worded (varsWordLater !true)=false:=by kernel_rfl
open Go
theorem C2k:prog.worded rootWordLater=true:=by kernel_rfl
open Go
theorem C2j:([("unicode/utf8.acceptRanges",Rows.laid_unicode_utf8_acceptRanges),("errors.errorType",Rows.laid_errors_errorType),("internal/strconv.uint64pow10",Rows.laid_internal_strconv_uint64pow10),("math/bits.deBruijn32tab",Rows.laid_math_bits_deBruijn32tab),("math/bits.deBruijn64tab",Rows.laid_math_bits_deBruijn64tab),("strconv.ErrSyntax",Rows.laid_strconv_ErrSyntax),("strconv.ErrRange",Rows.laid_strconv_ErrRange)]:List (String×DataW Unit)).map (fun x=>prog.kindOfLater x.1)=([.data,.handle,.data,.data,.data,.sentinel,.sentinel]:List LaidKind).map some:=by kernel_rfl
open Go
theorem C2i:(prog.funcNamed "gosem.cut.vars").isSome=true:=by kernel_rfl
end Go.Proofs.YtmpgankhnfpoaaaGreatDoor