/-
  Our texts, packed by program.
-/
import Derived.Test.YtmpgankhnfpoaaaGreatDoorQNodeRefuses13
import Derived.Deep.DeepHandedRow
import Derived.Deep.DeepWitnessRowRef
import Derived.Test.YtmpgankhnfpoaaaGreatDoorCards
import Derived.ShutString
import Derived.ChangeOld
import Derived.Carry
set_option linter.unusedSimpArgs false
set_option linter.unusedVariables false
set_option maxHeartbeats 16000000
set_option maxRecDepth 100000
namespace Go.Proofs.YtmpgankhnfpoaaaGreatDoor.nodeRefuses
open Go.H
open Go.Proofs.Tryz
open Go.ChangeShapes Go.WideShapes Go.ChangeAt Go.RowKit
open Go.ChangeMaps (open_string shut_string)
theorem own:ownKnob prog.godebug=none:=by kernel_rfl
theorem laidOut:laidOutB prog=true:=by kernel_rfl
theorem walk(w:World)(ht:B9f w.heap)(x0:CfQ)(g0:(CfG 1048576 w.heap) x0)(x1:EvQ)(g1:(EvG 1048576 w.heap) x1):
  Calls prog 3 #[.agg #[.int .i64 x0.id,.slice x0.sl.a x0.sl.len x0.sl.cap,.int .i64 x0.aJ,.int .i64 x0.tags],.agg #[.int .i64 x1.kind,.int .i64 x1.at',.slice x1.sp.a x1.sp.len x1.sp.cap,.slice x1.sb.a x1.sb.len x1.sb.cap,.string x1.raw]] w fun e w'=>e=.returned (.bool true)∧Below w.heap.size w w':=by
 exact Go.H.walk_of (B0i ht.tp ht.er g0 g1 (fun h' R hs=>⟨rfl,R,hs⟩) w.heap (Go.H.sat_old w.heap))
theorem B8R(H:Type)(enc:TypeId×Value→H)(W:World)(base:Nat)(args:C3D)(ds gs:List (DataW H))(before:List MemPlace)
  (gD:∀(j:Nat) t v,Tryz.f3.params[j]? =some t→args[j]? =some v→Value.okWide prog W .any base t v)
  (hW:DataW.Whole enc prog Tryz.f3.params.toList Rows.nodeRefusesSpec.vars false W args.toList ds gs before)(hL:laidMetH prog z7 W)(gE:W.ShapedOpen prog)(fG:Rows.uptoSmall H (ds++gs)=true):
  Calls prog 3 args W fun e W'=>∃v,e=.returned v∧Rows.nodeRefusesSpec.post enc prog Tryz.f3 false true false false W args v W':=by
 have fj:∀(j:Nat) t v,Tryz.f3.params[j]? =some t→args[j]? =some v→Value.okWide prog W .any base t v:=gD
 have rk:=hW
 obtain⟨p,q,pe,hV,rfl,jN,fB⟩:=hW
 have hA:DataW.TrodAll enc prog W 0 (fun _=>true) true Tryz.f3.params.toList args.toList ds p:=pe
 rw[params3] at hA fj
 obtain⟨v0,se,d0,tb,p0,q0,oV,rfl,rfl,h0,r0⟩:=trodAll_cons hA
 obtain⟨v1,sd,d1,sZ,p1,q1,rfl,rfl,rfl,h1,r1⟩:=trodAll_cons r0
 obtain⟨rfl,rfl,rfl⟩:=trodAll_nil r1
 obtain rfl:args=#[v0,v1]:=by cases args;simp_all
 obtain⟨rfl,rfl⟩:=trodVars_none hV
 have hk:=of_decide_eq_true fG
 simp only[I3,G3,G2,Rows.uptoBulkAll] at hk
 have w0:okB 24 d0:=by unfold okB;omega
 have w1:okB 28 d1:=by unfold okB;omega
 clear hk
 obtain⟨pn,rfl⟩:=Go.R.okWide_agg underlying24 (fj 0 24 v0 rfl rfl)
 have k0:=h0
 have pO:∀x∈p0,x.block<W.heap.size:=by obtain⟨m,hm⟩:=k0;exact DataW.trod_lt m _ _ _ hm
 obtain⟨x0,e0,g0⟩:∃x:CfQ,(Value.agg pn=.agg #[.int .i64 x.id,.slice x.sl.a x.sl.len x.sl.cap,.int .i64 x.aJ,.int .i64 x.tags])∧(CfG 1048576 W.heap) x:=by
  obtain⟨fuel,hf⟩:=h0
  obtain⟨x,hx,hg⟩:=B6S B53 fuel _ _ hf w0
  exact⟨x,congrArg Value.agg (D3.1 hx),hg⟩
 cases e0
 obtain⟨rU,rfl⟩:=Go.R.okWide_agg underlying28 (fj 1 28 v1 rfl rfl)
 have k1:=h1
 have pN:∀x∈p1,x.block<W.heap.size:=by obtain⟨m,hm⟩:=k1;exact DataW.trod_lt m _ _ _ hm
 obtain⟨x1,e1,g1⟩:∃x:EvQ,(Value.agg rU=.agg #[.int .i64 x.kind,.int .i64 x.at',.slice x.sp.a x.sp.len x.sp.cap,.slice x.sb.a x.sb.len x.sb.cap,.string x.raw])∧(EvG 1048576 W.heap) x:=by
  obtain⟨fuel,hf⟩:=h1
  obtain⟨x,hx,hg⟩:=B45 B53 fuel _ _ hf w1
  exact⟨x,congrArg Value.agg (D3.1 hx),hg⟩
 cases e1
 clear pe gD
 refine(walk W (B61 hL gE) x0 g0 x1 g1).mono fun e W' ⟨he,bel⟩=>?_
 subst he
 exact⟨_,rfl,_,_,_,[],_,[],rk,trodAll_mk1 (shut_bool underlying4 _),(trodAll_cons_mk (Below.trod laidOut (by kernel_rfl) (of_decide_eq_true (by kernel_rfl)) k0 bel pO) (trodAll_cons_mk (Below.trod laidOut (by kernel_rfl) (of_decide_eq_true (by kernel_rfl)) k1 bel pN) trodAll_mk0)),rfl,bel.frame _,fun h=>by cases h⟩
theorem reads(os:Os){H:Type}(enc:TypeId×Value→H):∃places,DataW.whole enc prog ((A3s os).forCall (fun _ _=>0) ⟨#[],#[.agg #[.int .i64 0,.slice none 0 0,.int .i64 0,.int .i64 0],.agg #[.int .i64 0,.int .i64 0,.slice none 0 0,.slice none 0 0,.string (ByteArray.mk #[])]],[]⟩).memory Tryz.f3.params.toList Rows.nodeRefusesSpec.vars false #[(.agg #[.int .i64 0,.slice none 0 0,.int .i64 0,.int .i64 0]:Value),(.agg #[.int .i64 0,.int .i64 0,.slice none 0 0,.slice none 0 0,.string (ByteArray.mk #[])]:Value)].toList 8=some ([.agg [.lit (.int .i64 0),.nil,.lit (.int .i64 0),.lit (.int .i64 0)],.agg [.lit (.int .i64 0),.lit (.int .i64 0),.nil,.nil,.lit (.string [])]],[],places):=
 ⟨[],by kernel_rfl⟩
theorem lifted(os:Os)(started:os.Started)(H:Type)(enc:TypeId×Value→H)(F:Stop.Interp):
  ReturnsInHanded {} checked os 3 .any ((Rows.OpenSpec.upto Rows.nodeRefusesSpec).preRow enc prog Tryz.f3 Rows.nodeRefusesUptoRow.domain false Rows.nodeRefusesUptoRow.laid) (((Rows.OpenSpec.upto Rows.nodeRefusesSpec).at F).post enc prog Tryz.f3 false true false false):=by
 obtain⟨places,hx⟩:=reads os enc
 refine returnsInHanded_of_row (C:=checked) (s:=Rows.OpenSpec.upto Rows.nodeRefusesSpec) own started (by kernel_rfl) Tryz.func3
  (witness_row_atRef (enc:=enc) (C:=checked) false (A3s os) #[.agg #[.int .i64 0,.slice none 0 0,.int .i64 0,.int .i64 0],.agg #[.int .i64 0,.int .i64 0,.slice none 0 0,.slice none 0 0,.string (ByteArray.mk #[])]] rfl (by kernel_rfl) (by kernel_rfl) (by kernel_rfl)
   (OpenSpec.preRow_of_cond 8 hx (by kernel_rfl) (fun k hk=>by cases hk;kernel_rfl) (by kernel_rfl) (B8s os _))) ?_
 intro W base args ds gs before fj hW _ fG _ hL gE _
 exact B8R H enc W base args ds gs before fj hW hL gE (fG _ rfl)
end Go.Proofs.YtmpgankhnfpoaaaGreatDoor.nodeRefuses