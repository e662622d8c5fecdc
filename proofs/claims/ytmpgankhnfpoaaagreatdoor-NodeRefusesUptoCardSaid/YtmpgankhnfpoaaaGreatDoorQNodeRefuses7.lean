/-
  Our texts, packed by program.
-/
import Derived.Test.YtmpgankhnfpoaaaGreatDoorQNodeRefuses6
set_option linter.unusedSimpArgs false
set_option linter.unusedVariables false
set_option maxHeartbeats 16000000
set_option maxRecDepth 100000
namespace Go.Proofs.YtmpgankhnfpoaaaGreatDoor
open Go.H
open Go.Proofs.Tryz
open Go.H Go.X Go.Proofs Go.Shelf Go.RowKit
theorem B8F:eqR (B9K 54 feG 323 feA) feV 421 feB=true:=by kernel_rfl
open Go.H Go.X Go.Proofs Go.Shelf Go.RowKit
theorem B8b:eqR (B9K 53 pbG 421 pbA) pbV 528 pbB=true:=by kernel_rfl
open Go.H Go.X Go.Proofs Go.Shelf Go.RowKit
noncomputable def B1J:B9h:=fun f=>match f with
 |6=>some (B8z sG 4 sA sV 266 sB)
 |54=>some (B8z feG 323 feA feV 421 feB)
 |53=>some (B8z pbG 421 pbA pbV 528 pbB)
 |_=>A7W f
theorem B4O:B6m prog B1J:=by
 intro f g hg args n s v n' s' h ae bK β L Q hq
 unfold B1J at hg
 split at hg
 ·cases hg;exact B2m B1L B8g h ae β L Q hq
 ·cases hg;exact B2m B1L B8F h ae β L Q hq
 ·cases hg;exact B2m B1L B8b h ae β L Q hq
 ·exact A8A f g hg args n s v n' s' h ae bK β L Q hq
noncomputable def B7U:B84:=⟨B1J,A8B.dI,A8B.idle⟩
theorem C0T:B2f (A8u prog wkT wkC B7U 1000 1000 8 [] 1 (add 0 (.base wkG) .lf))=true:=by kernel_rfl
theorem B9M{h0:Heap}{L L1:List Asn}{Q:Value→Heap→Prop}(hm:∃m,O5 h0 ⟨1,0,none⟩=some (.int .i64 m))(hq:At (old h0::L1) (Q (.bool true)))(hx:Has L (old h0) L1:=by repeat first|with_reducible exact Q9|apply Q8):FW prog 8 #[] L Q:=by
 obtain⟨n,s,gs,hr,hl⟩:=B5h C0T
 have ae:O4 1 (add 0 (.base wkG) (.lf:XSt)):=O4.new (n:=0) (fun k f hk=>by cases hk) rfl
 intro h hs
 refine(A04 B4M B5a B4P (G:=B7U) B4O B4N (lf:=1000) 1000) _ [] 1 (add 0 (.base wkG) .lf) _ _ _ hr ae ⟨fun _=>0,fun _=>⟨none,0,0⟩,h0⟩ L1 Q (fun γ hg _ _ h' ah=>?_) h ?_
 ·obtain⟨r,hp⟩:=A3q hl
  have h1:=(P3 (β:=γ) (L:=L1) hp).s ah
  have h2:sat h' (star (pr (∀g∈gs,∃m,O5 γ.o ⟨g,0,none⟩=some (.int .i64 m))) (old γ.o)::(asn γ r++L1)):=h1
  rw[sat.aH,sat.aN] at h2
  have h3:=h2.2
  rw[←hg.o] at h3
  exact hq h' (h3.tail (B6L L1 _))
 ·have h1:sat h (star (pr (∀g∈wkG,∃m,O5 h0 ⟨g,0,none⟩=some (.int .i64 m))) (old h0)::L1):=by
   rw[sat.aH,sat.aN]
   exact⟨fun g hg=>by rw[B4.1 hg];exact hm,hx.s hs⟩
  exact h1
end Go.Proofs.YtmpgankhnfpoaaaGreatDoor