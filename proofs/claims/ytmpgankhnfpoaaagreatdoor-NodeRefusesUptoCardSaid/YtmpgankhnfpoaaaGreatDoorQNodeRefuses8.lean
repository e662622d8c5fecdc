/-
  Our texts, packed by program.
-/
import Derived.Test.YtmpgankhnfpoaaaGreatDoorQNodeRefuses7
import Derived.Test.YtmpgankhnfpoaaaGreatDoorRows
import Derived.Test.YtmpgankhnfpoaaaGreatDoorChecked
import Derived.Shelf.Vars
import Derived.ProofKit
import Derived.LaidMore
import Derived.LaidHandle
import Derived.Stop.Joined
import Derived.Lib.LaidU8T
import Derived.PinnedBridge
set_option linter.unusedSimpArgs false
set_option linter.unusedVariables false
set_option maxHeartbeats 16000000
set_option maxRecDepth 100000
namespace Go.Proofs.YtmpgankhnfpoaaaGreatDoor
open Go.H
open Go.Proofs.Tryz
section
open Go.H Go.Proofs
variable {h h0:Heap} {L L' L1 L2 L3 R:List Asn} {Q:Value→Heap→Prop}
theorem B70{ls:List Z6}(hz:∀l∈ls,l.2.1.size≤1048576∧l.2.2.2.2.1.size≤1048576∧l.2.2.2.2.2.1.size≤1048576){n:Nat}:∀l∈ls.take n,szR l.2:=fun l hl=>by
 obtain⟨h1,h2,h3⟩:=hz l (E6 hl)
 exact⟨E3 h1 (by decide),E3 h2 (by decide),E3 h3 (by decide)⟩
theorem B0i{c:CfQ}{e:EvQ}(ht:TP h0)(hE:B0j h0)(hc:CfG 1048576 h0 c)(he:EvG 1048576 h0 e)
  (hq:∀h' R,sat h' (old h0::R)→Q (.bool true) h'):FW prog 3 #[.agg #[.int .i64 c.id,.slice c.sl.a c.sl.len c.sl.cap,.int .i64 c.aJ,.int .i64 c.tags],.agg #[.int .i64 e.kind,.int .i64 e.at',.slice e.sp.a e.sp.len e.sp.cap,.slice e.sb.a e.sb.len e.sb.cap,.string e.raw]] [old h0] Q:=by
 have fin:∀{L L'},Has L (old h0) L'→At L (Q (.bool true)):=fun hx h hs=>hq h _ (hx.s hs)
 obtain⟨id,sl,ls,aJ,tags⟩:=c
 obtain⟨kd,at',sp,ps,sb,bs,raw⟩:=e
 obtain⟨hr,hz⟩:=hc
 dsimp only at hr hz⊢
 refine fun h hs=>A1d (id,sl,aJ,tags,()) (kd,at',sp,sb,raw,()) h Q ((?_:W [old h0] _ _) h hs)
 clear hs h
 delta A0R az bn cb cc ci cp cu g4 ie ji nw pu rq sn ve vi vs
 refine P2 fun x1=>?_
 refine P2 fun x2=>?_
 refine W.cells (b:=x2) (#[.int .i64 kd,.int .i64 at',.slice sp.a sp.len sp.cap,.slice sb.a sb.len sb.cap,.string raw]) ?_
 refine O1 (b:=x1) (v:=(id,sl,aJ,tags,())) ?_
 refine k9 (C0e hr fun K1 K2=>At.bI (x:=((id,K1,aJ,tags,()),(id,K2,aJ,tags,()),())) ?_)
 have fV:∀l∈ls.take 20,szR l.2:=B70 hz
 generalize ls.take 20=xs at fV
 refine P2 fun x5=>?_
 refine P2 fun x6=>?_
 refine P4 (b:=x5) ?_
 refine P4 (b:=x6) ?_
 refine O1 (b:=x2) (v:=(kd,at',sp,sb,raw,())) ?_
 refine k9 (B8J (x:=⟨kd,at',sp,ps,sb,bs,raw⟩) he fun s ao=>At.bI (x:=((kd,at',s,()),(kd,at',s,()),())) ?_)
 refine P2 fun x9=>?_
 refine P2 fun jd=>?_
 refine P4 (b:=x9) ?_
 refine P4 (b:=jd) ?_
 refine O1 (b:=x5) (v:=(id,K1,aJ,tags,())) ?_
 refine k9 (B48 (K:=K1) (ls:=xs) ht hE fV fun b1 t1 v1=>At.bI (x:=(none,B1N b1,())) ?_)
 refine O1 (b:=x9) (v:=(kd,at',s,())) ?_
 refine k9 (B8j (k:=kd) (a:=at') (s:=s) (by omega) fun b2 t2=>At.bI (x:=(Q5,B1N b2,())) ?_)
 refine X6 (O6 (B9M ht.maxl (At.un (x:=true) ?_)))
 refine A9T rfl ?_
 refine A9T rfl ?_
 refine X6 (O6 (B8S (b:=b1) (c:=128) (by decide) hE (At.un (x:=(128:Int)) ?_)))
 refine A9T rfl ?_
 refine X6 (O6 (B8S (b:=b2) (c:=128) (by decide) hE (At.un (x:=(128:Int)) ?_)))
 refine A9T rfl ?_
 refine X6 (O6 (B16 (At.un (x:=none) ?_)))
 refine A9T rfl ?_
 refine X6 (O6 (B6Y (At.un (x:=Q5) ?_)))
 refine A9T rfl ?_
 refine X6 (W.load (b:=x2) (v:=at') ?_)
 refine X6 (O6 (B49 (At.un (x:=Q5) ?_)))
 refine A9T rfl ?_
 refine X6 (O6 (A94 (At.un (x:=Q5) ?_)))
 refine A9T rfl ?_
 refine X6 (O1 (b:=x6) (v:=(id,K2,aJ,tags,())) ?_)
 refine X6 (O1 (b:=x5) (v:=(id,K1,aJ,tags,())) ?_)
 refine X6 (O6 (B78 (K:=K2) (ls:=xs) fV (At.un (x:=B1k (okC id xs aJ tags)) ?_)))
 refine X6 (O1 (b:=x5) (v:=(id,K1,aJ,tags,())) ?_)
 refine B9a ?_ rfl
 refine X6 (O6 (B3E (K:=K1) (ls:=xs) ht fV (At.un (x:=B1k (okC id xs aJ tags)) ?_)))
 refine Z9 (N0 ?_)
 cases okC id xs aJ tags with
 |true=>exact fin (Q8 Q9)
 |false=>exact fin (Q8 Q9)
end
open Go.ChangeShapes Go.WideShapes Go.ChangeAt Go.RowKit Go.Proofs Go.Lib
def z7:List (String×DataW Unit):=Rows.nodeRefusesRow.laid
theorem B08:z7=[("unicode/utf8.first",Rows.laid_unicode_utf8_first),("unicode/utf8.acceptRanges",Rows.laid_unicode_utf8_acceptRanges),("errors.errorType",Rows.laid_errors_errorType),("internal/strconv.uint64pow10",Rows.laid_internal_strconv_uint64pow10),("math/bits.deBruijn32tab",Rows.laid_math_bits_deBruijn32tab),("math/bits.deBruijn64tab",Rows.laid_math_bits_deBruijn64tab),("strconv.ErrSyntax",Rows.laid_strconv_ErrSyntax),("strconv.ErrRange",Rows.laid_strconv_ErrRange)]:=rfl
noncomputable def A3s(os:Os):World:=
 let w0:=World.doorLaid prog 400 os
 {w0 with heap:=w0.heap.modify 5 fun
   |.cells _ t frozen=>.cells ((List.range 256).map fun c=>Value.int .u8 (firstT c)).toArray t frozen
   |o=>o}
noncomputable abbrev lw(os:Os)(args:C3D):World:=((A3s os).forCall (fun _ _=>0) ⟨#[],args,[]⟩).memory
abbrev A5e:List (String×DataW Unit):=z7.filter fun x=>x.2.handleName?.isNone
end Go.Proofs.YtmpgankhnfpoaaaGreatDoor