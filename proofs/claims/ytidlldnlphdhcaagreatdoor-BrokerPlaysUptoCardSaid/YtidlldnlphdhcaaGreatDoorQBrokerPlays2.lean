/-
  Our texts, packed by program.
-/
import Derived.Test.YtidlldnlphdhcaaGreatDoorQBrokerPlays1
import Derived.Shelf.Unicode.DecodeAny
import Derived.Shelf.Unicode.DecodeLastEight
set_option linter.unusedSimpArgs false
set_option linter.unusedVariables false
set_option maxHeartbeats 16000000
set_option maxRecDepth 100000
set_option synthInstance.maxSize 100000
set_option synthInstance.maxHeartbeats 400000
namespace Go.Proofs.YtidlldnlphdhcaaGreatDoor
open Go.H
open Go.Proofs.Tryz
open Go.H Go.Proofs
def A8F(p0:D0p)(p1:Int)(p2:Bool):HM (Unit):=
 nn p0 fun a=>kp a 0 fun b=>nn b fun c=>km c 3 fun d=>bn (α:=(yS4)×Bool) (HM.lookup (Instr.sameNow (.int .i64)) (.agg zS4) (.agg tS4) d (vi p1)) fun e=>nw zS4 112 fun f=>sn f (lS4 e.1) fun _=>ie (!e.2) (pu ()) (nn p0
 fun g=>kp g 0 fun h=>nn h fun i=>km i 3 fun j=>bn (α:=Unit) (A6q (Instr.sameNow (.int .i64)) j (vi p1)) fun _=>nn p0 fun k=>kp k 0 fun l=>nn l fun m=>kp m 0 fun n=>ji f 0 fun o=>cb 95 #[.pointer n,vi o] fun
 p=>bn (α:=Unit) (ie p (nn p0 fun q=>kp q 0 fun r=>nn r fun s=>kp s 1 fun t=>ji f 0 fun u=>ci 71 #[.pointer t,vi u] fun v=>pu ()) (pu ())) fun w=>bn (α:=Bool×Unit) (ie p2 (jb f 1 fun x=>ie x (nn p0 fun y=>kb y 1
 fun z=>pu (!z,())) (pu (false,()))) (pu (false,()))) fun A=>bn (α:=Unit) (ie A.1 (g7 (ad f 2) fun B=>cx 96 #[.pointer p0,.agg (aS7 B)] fun C=>pu ()) (pu ())) fun D=>pu ())
theorem A8R(p0:D0p)(p1:Int)(p2:Bool):HCs 54 #[.pointer p0,.int .i64 p1,.bool p2] (A8F p0 p1 p2) fun x=>.tuple #[]:=
 cE [] [0,1,2,6,7,21,39,61] [0,1,2,6,7,21,39,61] func54 ntmps54 (CC call95 (CC call71 (CC call96 CN)))
def A5g(p0:D0p)(p1:B4p):HM ((yS9)×Bool×Unit):=
 nw zS9 79 fun a=>cp 98 #[.pointer p0,.string p1] fun b=>bn (α:=(yS9)×Bool×Unit) (u9 prog [.agg tS9,.one .bool] 97 #[.pointer b]) fun c=>sn a (lS9 c.1) fun _=>g9 (az a) fun d=>pu ((d.1,d.2.1,d.2.2.1,
 d.2.2.2.1,()),c.2.1,())
theorem A6t(p0:D0p)(p1:B4p):HCs 55 #[.pointer p0,.string p1] (A5g p0 p1) fun x=>.tuple #[.agg (aS9 x.1),.bool x.2.1]:=
 cE [.agg tS9,.one .bool] [0,1,4,5] [0,1,4] func55 ntmps55 (CC call98 (CC call97 CN))
def A5Y(p0:D0p)(p1:Int):HM (D0p×Unit):=
 cp 99 #[.pointer p0,vi p1] fun a=>ie (!(Option.isNone a)) (nn a fun b=>kp b 4 fun c=>pu (c,())) (pu (none,()))
theorem A6X(p0:D0p)(p1:Int):HCs 56 #[.pointer p0,.int .i64 p1] (A5Y p0 p1) fun x=>.pointer x.1:=
 cE [.one .ptr] [0,1,4,5,10] [0,1,5,10] func56 ntmps56 (CC call99 CN)
def A4h(p0:D0p):HM (Slc×Unit):=
 ie (Option.isNone p0) (pu (⟨none,0,0⟩,())) (nn p0 fun a=>kc a 3 fun b=>cc 100 #[vs b] fun c=>pu (c,()))
theorem A5r(p0:D0p):HCs 57 #[.pointer p0] (A4h p0) fun x=>.slice x.1.a x.1.len x.1.cap:=
 cE [.one .slc] [0,2,4] [0,4] func57 ntmps57 (CC call100 CN)
def A4g(p0:D0p):HM (Slc×Unit):=
 ie (Option.isNone p0) (pu (⟨none,0,0⟩,())) (nn p0 fun a=>kc a 4 fun b=>cc 101 #[vs b] fun c=>pu (c,()))
theorem A5q(p0:D0p):HCs 58 #[.pointer p0] (A4g p0) fun x=>.slice x.1.a x.1.len x.1.cap:=
 cE [.one .slc] [0,2,4] [0,4] func58 ntmps58 (CC call101 CN)
def B3T:HM (D0p×Unit):=
 bn (α:=Nat) (HM.new (.map #[] 0)) fun a=>bn (α:=Nat) (HM.new (.map #[] 0)) fun b=>nw #[.map (some a),.map (some b)] 243 fun c=>pu (some (az c),())
theorem B1t:HCs 59 #[] (B3T) fun x=>.pointer x.1:=
 cE [.one .ptr] [0] [] func59 ntmps59 CN
def B5k(p0:B4p):HM (Int×Bool×Unit):=
 bn (α:=(Int×Unit)⊕(Int×Bool×Unit)) (HM.loop (σ:=Int×Unit) (τ:=(Int×Unit)⊕(Int×Bool×Unit)) (fun a=>ie (decide (a.1<(((ByteArray.size p0:Nat):Int):Int))) (bn (α:=B4p) (A47 p0
 (some a.1) none) fun b=>ci 102 #[.string b] fun c=>ie (c==0) (pu (.inr (.inr (a.1,true,())))) (pu (.inl (wi (a.1+c),())))) (pu (.inr (.inl (a.1,()))))) (0,())) (Sum.elim (fun d=>pu (0,false,())) X8)
theorem B2W(p0:B4p):HCs 60 #[.string p0] (B5k p0) fun x=>.tuple #[.int .i64 x.1,.bool x.2.1]:=
 cE [.one (.int .i64),.one .bool] [0,2,3,4,5,9,15] [0,4,5,9,15] func60 ntmps60 (CC call102 CN)
def A7o(p0:D0p)(p1:Int)(p2:yS2):HM (Unit):=
 nw (aS3 p2) 45 fun a=>bn (α:=Bool×Unit) (ji a 0 fun b=>ie (b==3) (jt a 5 fun c=>cu 12 #[.string c] fun d=>pu (!(d==0),())) (pu (false,()))) fun e=>ie e.1 (cx 68 #[.pointer p0,vi p1,.int .u8 144] fun f=>pu
 ()) (nn p0 fun g=>kb g 1 fun h=>bn (α:=Int×Unit) (ie h (pu (151,())) (pu (0,()))) fun i=>nn p0 fun j=>kp j 0 fun k=>nn k fun l=>km l 3 fun m=>bn (α:=(yS4)×Bool) (HM.lookup (Instr.sameNow (.int .i64)) (.agg zS4)
 (.agg tS4) m (vi p1)) fun n=>nn p0 fun o=>kp o 0 fun p=>nn p fun q=>kp q 0 fun r=>A1h (az a) fun s=>cp 106 #[.pointer r,vi n.1.1] fun t=>A1h (az a) fun u=>rq (.agg (aS3 u)) (.agg (aS3 s))<|bn (α:=Bool×Slc×Int×
 Unit) (u9 prog [.one .bool,.one .slc,.one (.int .u8)] 107 #[.pointer t,.agg (aS3 s),.int .u8 i.1]) fun v=>ie (!(v.2.2.1==0)) (cx 68 #[.pointer p0,vi p1,.int .u8 v.2.2.1] fun w=>pu ()) (cx 72 #[.pointer
 p0,vi n.1.1,vs v.2.1] fun x=>bn (α:=Bool×Unit) (ie v.1 (nn p0 fun y=>kb y 1 fun z=>pu (!z,())) (pu (false,()))) fun A=>bn (α:=Unit) (ie A.1 (jt a 5 fun B=>jt a 6 fun C=>ji a 3 fun D=>jb a 2 fun E=>cx 96
 #[.pointer p0,.agg #[.string B,.string C,vi D,.bool E,ve]] fun F=>pu ()) (pu ())) fun G=>pu ()))
theorem A8j(p0:D0p)(p1:Int)(p2:yS2):HCs 63 #[.pointer p0,.int .i64 p1,.agg (aS3 p2)] (A7o p0 p1 p2) fun x=>.tuple #[]:=
 cE [] [0,1,2,5,6,7,8,9,10,19,26,54,70] [0,1,2,5,6,7,8,9,10,19,26,54,70] func63 ntmps63 (CC call12 (CC call68 (CC call106 (CC call107 (CC call72 (CC call96 CN))))))
def A5C(p0:D0p)(p1:Int)(p2:yS2):HM (Unit):=
 nw (aS3 p2) 45 fun a=>nn p0 fun b=>kp b 0 fun c=>nn c fun d=>km d 3 fun e=>bn (α:=(yS4)×Bool) (HM.lookup (Instr.sameNow (.int .i64)) (.agg zS4) (.agg tS4) e (vi p1)) fun f=>nn p0 fun g=>kp g 0 fun h=>nn h fun i=>kp
 i 0 fun j=>A1h (az a) fun k=>cp 56 #[.pointer j,vi f.1.1] fun l=>A1h (az a) fun m=>rq (.agg (aS3 m)) (.agg (aS3 k))<|bn (α:=Slc×Int×Unit) (u9 prog [.one .slc,.one (.int .u8)] 108 #[.pointer l,.agg
 (aS3 k)]) fun n=>ie (!(n.2.1==0)) (cx 68 #[.pointer p0,vi p1,.int .u8 n.2.1] fun o=>pu ()) (cx 72 #[.pointer p0,vi f.1.1,vs n.1] fun p=>pu ())
theorem A6F(p0:D0p)(p1:Int)(p2:yS2):HCs 64 #[.pointer p0,.int .i64 p1,.agg (aS3 p2)] (A5C p0 p1 p2) fun x=>.tuple #[]:=
 cE [] [0,1,2,5,6,7,8,34] [0,1,2,5,6,7,8,34] func64 ntmps64 (CC call56 (CC call108 (CC call68 (CC call72 CN))))
def A3F(p0:D0p)(p1:Int)(p2:yS2):HM (Unit):=
 nw (aS3 p2) 45 fun a=>nn p0 fun b=>kp b 0 fun c=>nn c fun d=>km d 3 fun e=>bn (α:=(yS4)×Bool) (HM.lookup (Instr.sameNow (.int .i64)) (.agg zS4) (.agg tS4) e (vi p1)) fun f=>ji a 4 fun g=>nw zS3 45 fun h=>sn h [vi 9,
 .bool false,.bool false,vi 0,vi g,ve,ve,.int .u8 0,vz,vz,ve,.bool false,vi 0,.bool false,ve,ve,vi 0,.bool false,vz,.bool false,.bool false,ve,ve,.bool false,vz,vz] fun _=>jc a 24 fun i=>bn (α:=
 Slc×Int×Unit) (HM.loop (σ:=Slc×Int×Unit) (τ:=Slc×Int×Unit) (fun j=>ie (decide (j.2.1<(i.len:Int))) (ix i j.2.1 5 fun k=>g6 k fun l=>nw zS6 47 fun m=>sn m (lS6 l) fun _=>nn p0 fun n=>kp n 0 fun o=>nn o
 fun p=>kp p 1 fun q=>jt m 0 fun r=>ji m 1 fun s=>cu 109 #[.pointer q,.agg #[vi f.1.1,.string r,vi s]] fun t=>bn (α:=Slc×Int×Unit) (ie (t==0) (g6 (az m) fun u=>nw (aS6 u) 47 fun v=>bn (α:=Slc) (HM.append 47 5
 40 zS6 j.1 1 (W4 5 (⟨some (az v),1,1⟩))) fun w=>ji m 1 fun x=>pu (w,IntKind.wrap .u8 x,())) (pu (j.1,t,()))) fun y=>jc h 8 fun z=>nw #[.int .u8 y.2.1] 30 fun A=>bn (α:=Slc) (HM.append 30 1 1 #[.int .u8 0] z 1
 (W4 1 (⟨some (az A),1,1⟩))) fun B=>sw h 8 (vs B) fun _=>pu (.inl (y.1,wi (j.2.1+1),()))) (pu (.inr (j.1,j.2.1,())))) (⟨none,0,0⟩,0,())) fun C=>A1h (az h) fun D=>cx 67 #[.pointer p0,vi p1,.agg (aS3 D)]
 fun E=>bn (α:=Int×Unit) (HM.loop (σ:=Int×Unit) (τ:=Int×Unit) (fun F=>ie (decide (F.1<(C.1.len:Int))) (bn (α:=Unit) (ix C.1 F.1 5 fun G=>g6 G fun H=>nw zS6 47 fun I=>sn I (lS6 H) fun _=>ji I 4 fun J=>ie
 (J==2) (pu ()) (nn p0 fun K=>kp K 0 fun L=>nn L fun M=>kp M 2 fun N=>jt I 0 fun O=>cc 110 #[.pointer N,.string O] fun P=>bn (α:=Int×Unit) (HM.loop (σ:=Int×Unit) (τ:=Int×Unit) (fun Q=>ie (decide (Q.1<
 (P.len:Int))) (ix P Q.1 3 fun R=>bn (α:=B4p×B4p×Int×Unit) (o9 [.str,.str,.int .i64] R) fun S=>nw #[ve,ve,vi 0] 204 fun T=>sn T [.string S.1,.string S.2.1,vi S.2.2.1] fun _=>nn p0 fun
 U=>kp U 0 fun V=>nn V fun W=>kp W 0 fun X=>jt T 0 fun Y=>jt T 1 fun Z=>ji T 2 fun fj=>ji I 1 fun ia=>A0R (cp 56 #[.pointer X,vi f.1.1] fun di=>ji I 1 fun gi=>rq (vi gi) (vi ia)<|ji T 2 fun fW=>rq (vi fW)
 (vi fj)<|jt T 1 fun jo=>rq (.string jo) (.string Z)<|jt T 0 fun jH=>rq (.string jH) (.string Y)<|jt T 1 fun jG=>rq (.string jG) (.string Z)<|jt T 0 fun kq=>rq (.string kq) (.string Y)<|kp W 0 fun gM=>rq
 (.pointer gM) (.pointer X)<|kp U 0 fun kP=>rq (.pointer kP) (.pointer V)<|bn (α:=Slc×Int×Unit) (u9 prog [.one .slc,.one (.int .u8)] 81 #[.pointer di,.agg #[.string Y,.string Z,vi (if ia<(fj
 :Int) then ia else fj),.bool true,ve]]) fun iU=>cx 72 #[.pointer p0,vi f.1.1,vs iU.1] fun lP=>pu (.inl (wi (Q.1+1),()))) (jt T 1 fun kO=>rq (.string kO) (.string Z)<|jt T 0 fun lO=>rq (.string lO)
 (.string Y)<|kp W 0 fun kN=>rq (.pointer kN) (.pointer X)<|kp U 0 fun kL=>rq (.pointer kL) (.pointer V)<|cp 56 #[.pointer X,vi f.1.1] fun iT=>ji I 1 fun iS=>rq (vi iS) (vi ia)<|ji T 2 fun kK=>rq (vi kK)
 (vi fj)<|jt T 1 fun oH=>rq (.string oH) (.string Z)<|jt T 0 fun my=>rq (.string my) (.string Y)<|bn (α:=Slc×Int×Unit) (u9 prog [.one .slc,.one (.int .u8)] 81 #[.pointer iT,.agg #[.string Y,
 .string Z,vi (if ia<(fj:Int) then ia else fj),.bool true,ve]]) fun mw=>cx 72 #[.pointer p0,vi f.1.1,vs mw.1] fun oG=>pu (.inl (wi (Q.1+1),())))) (pu (.inr (Q.1,())))) (0,())) fun yu=>pu ())) fun
 yx=>pu (.inl (wi (F.1+1),()))) (pu (.inr (F.1,())))) (0,())) fun mz=>pu ()
theorem A4X(p0:D0p)(p1:Int)(p2:yS2):HCs 65 #[.pointer p0,.int .i64 p1,.agg (aS3 p2)] (A3F p0 p1 p2) fun x=>.tuple #[]:=
 cE [] [0,1,2,5,6,7,8,10,11,13,15,16,32,33,34,35,53,72,73,74,75,80,90,91,92,93] [0,1,2,5,6,7,8,10,11,13,15,16,32,33,34,35,53,72,73,74,75,80,90,91,92,93] func65 ntmps65 (CC call109 (CC call67 (CC call110 (CC call56 (CC call81 (CC call72 CN))))))
def A3b(p0:D0p)(p1:Int)(p2:yS2):HM (Unit):=
 nw (aS3 p2) 45 fun a=>ji a 4 fun b=>nw zS3 45 fun c=>sn c [vi 11,.bool false,.bool false,vi 0,vi b,ve,ve,.int .u8 0,vz,vz,ve,.bool false,vi 0,.bool false,ve,ve,vi 0,.bool false,vz,.bool false,.bool
 false,ve,ve,.bool false,vz,vz] fun _=>jc a 25 fun d=>bn (α:=Int×Unit) (HM.loop (σ:=Int×Unit) (τ:=Int×Unit) (fun e=>ie (decide (e.1<(d.len:Int))) (ix d e.1 1 fun f=>lt f fun g=>nn p0 fun h=>kp h 0 fun
 i=>nn i fun j=>kp j 1 fun k=>nn p0 fun l=>kp l 0 fun m=>nn m fun n=>km n 3 fun o=>bn (α:=(yS4)×Bool) (HM.lookup (Instr.sameNow (.int .i64)) (.agg zS4) (.agg tS4) o (vi p1)) fun p=>cb 111 #[.pointer k,vi p.1.1,
 .string g] fun q=>bn (α:=Int×Unit) (ie q (pu (0,())) (pu (17,()))) fun r=>jc c 8 fun s=>nw #[.int .u8 r.1] 30 fun t=>bn (α:=Slc) (HM.append 30 1 1 #[.int .u8 0] s 1 (W4 1 (⟨some (az t),1,1⟩))) fun u=>sw c 8
 (vs u) fun _=>pu (.inl (wi (e.1+1),()))) (pu (.inr (e.1,())))) (0,())) fun v=>A1h (az c) fun w=>cx 67 #[.pointer p0,vi p1,.agg (aS3 w)] fun x=>pu ()
theorem A4r(p0:D0p)(p1:Int)(p2:yS2):HCs 66 #[.pointer p0,.int .i64 p1,.agg (aS3 p2)] (A3b p0 p1 p2) fun x=>.tuple #[]:=
 cE [] [0,1,2,5,6,8,9,14,15,16,17,38] [0,1,2,5,6,8,9,14,15,16,17,38] func66 ntmps66 (CC call111 (CC call67 CN))
def A7p(p0:D0p)(p1:Int)(p2:yS2):HM (Unit):=
 nw (aS3 p2) 45 fun a=>nn p0 fun b=>kc (Addr.add b 2) 0 fun c=>A1h (az a) fun d=>nw #[vi p1,vi d.1,.bool d.2.1,.bool d.2.2.1,vi d.2.2.2.1,vi d.2.2.2.2.1,.string (w5 d),.string (w6 d),.int .u8 (w7 d),vs (w8 d),
 vs (w9 d),.string (w10 d),.bool (w11 d),vi (w12 d),.bool (w13 d),.string (w14 d),.string (w15 d),vi (w16 d),.bool (w17 d),vs (w18 d),.bool (w19 d),.bool (w20 d),.string (w21 d),.string (w22 d),.bool (w23
 d),vs (w24 d),vs (w25 d),.bool false] 50 fun e=>kc (Addr.add b 2) 0 fun f=>rq (vs f) (vs c)<|bn (α:=Slc) (HM.append 50 28 344 zS1 c 1 (W4 28 (⟨some (az e),1,1⟩))) fun g=>nn p0 fun h=>sx (Addr.add (Addr.add h
 2) 0) (vs g) fun _=>pu ()
theorem A8k(p0:D0p)(p1:Int)(p2:yS2):HCs 67 #[.pointer p0,.int .i64 p1,.agg (aS3 p2)] (A7p p0 p1 p2) fun x=>.tuple #[]:=
 cE [] [0,1,2,5] [0,1,2,5] func67 ntmps67 CN
def A5A(p0:D0p)(p1:Int)(p2:Int):HM (Unit):=
 cx 34 #[.pointer p0,vi p1,.agg #[vi 14,.bool false,.bool false,vi 0,vi 0,ve,ve,.int .u8 p2,vz,vz,ve,.bool false,vi 0,.bool false,ve,ve,vi 0,.bool false,vz,.bool false,.bool false,ve,ve,.bool
 false,vz,vz]] fun a=>cx 54 #[.pointer p0,vi p1,.bool true] fun b=>pu ()
theorem A6D(p0:D0p)(p1:Int)(p2:Int):HCs 68 #[.pointer p0,.int .i64 p1,.int .u8 p2] (A5A p0 p1 p2) fun x=>.tuple #[]:=
 cE [] [0,1,2] [0,1,2] func68 ntmps68 (CC call34 (CC call54 CN))
def A4H(p0:D0p)(p1:B4p)(p2:Bool)(p3:Bool):HM (Int×Bool×Int×Unit):=
 bn (α:=Int×Bool×Unit) (u9 prog [.one (.int .i64),.one .bool] 60 #[.string p1]) fun a=>ie (Option.isNone p0) (pu (0,false,128,())) (bn (α:=Bool×Unit) (ie a.2.1 (pu (true,())) (ie (decide (p1=
 es)) (pu (true,())) (pu (decide (64<(((ByteArray.size p1:Nat):Int):Int)),())))) fun b=>ie b.1 (pu (0,false,133,())) (cp 98 #[.pointer p0,.string p1] fun c=>bn (α:=Bool×Unit) (ie (!(Option.isNone c)) (pu
 (!p2,())) (pu (false,()))) fun d=>ie d.1 (nn c fun e=>sx (Addr.add (Addr.add e 0) 3) (.bool true) fun _=>nn c fun f=>sx (Addr.add (Addr.add f 0) 2) (.bool p3) fun _=>nn c fun g=>ki (Addr.add g 0) 0 fun h=>pu (h,true,
 0,())) (bn (α:=(Unit)⊕(Int×Bool×Int×Unit)) (ie (!(Option.isNone c)) (nn p0 fun i=>km i 1 fun j=>nn c fun k=>ki (Addr.add k 0) 0 fun l=>bn (α:=Unit) (A6q (Instr.sameNow (.int .i64)) j (vi l)) fun _=>pu
 (.inl ())) (nn p0 fun m=>km m 1 fun n=>bn (α:=Int) (A7u n) fun o=>ie (decide (32≤(o:Int))) (pu (.inr (0,false,151,()))) (pu (.inl ())))) (Sum.elim (fun p=>nn p0 fun q=>ki q 0 fun r=>nn p0 fun s=>sx
 (Addr.add s 0) (vi (wi (r+1))) fun _=>nn p0 fun t=>km t 1 fun u=>nn p0 fun v=>ki v 0 fun w=>nn p0 fun x=>ki x 0 fun y=>cp 112 #[vi 64] fun z=>ki x 0 fun A=>rq (vi A) (vi y)<|ki v 0 fun B=>rq (vi B) (vi w)<|km t 1 fun
 C=>rq (.map C) (.map u)<|cp 113 #[vi 64] fun D=>ki x 0 fun E=>rq (vi E) (vi y)<|ki v 0 fun F=>rq (vi F) (vi w)<|km t 1 fun G=>rq (.map G) (.map u)<|nw #[vi y,.string p1,.bool p3,.bool true,.pointer z,.pointer D]
 201 fun H=>ki v 0 fun I=>rq (vi I) (vi w)<|km t 1 fun J=>rq (.map J) (.map u)<|bn (α:=Unit) (A3J (Instr.sameNow (.int .i64)) u (vi w) (.pointer (some (az H)))) fun _=>nn p0 fun K=>ki K 0 fun L=>pu (L,false,0,
 ())) X8))))
theorem A5L(p0:D0p)(p1:B4p)(p2:Bool)(p3:Bool):HCs 69 #[.pointer p0,.string p1,.bool p2,.bool p3] (A4H p0 p1 p2 p3) fun x=>.tuple #[.int .i64 x.1,.bool x.2.1,.int .u8 x.2.2.1]:=
 cE [.one (.int .i64),.one .bool,.one (.int .u8)] [0,1,2,3,8,9,10,12,13,19,22,36,57,69] [0,1,2,3,12,13,19,22,36,57,69] func69 ntmps69 (CC call60 (CC call98 (CC call112 (CC call113 CN))))
def B8i(p0:Slc)(p1:Int):HM ((yS8)×Bool×Unit):=
 nw #[vi p1] 3 fun a=>nw zS8 106 fun b=>ci 114 #[vs p0,.func (.func 115) #[] #[.pointer (some (az a))]] fun c=>ie (decide (c<(0:Int))) (sn b [vi 0,vi 0,ve,ve] fun _=>g8 (az b) fun d=>pu ((d.1,d.2.1,d.2.2.1,
 d.2.2.2.1,()),false,())) (ix p0 c 4 fun e=>g8 e fun f=>sn b (lS8 f) fun _=>g8 (az b) fun g=>pu ((g.1,g.2.1,g.2.2.1,g.2.2.2.1,()),true,()))
theorem B4T(p0:Slc)(p1:Int):HCs 70 #[.slice p0.a p0.len p0.cap,.int .i64 p1] (B8i p0 p1) fun x=>.tuple #[.agg (aS8 x.1),.bool x.2.1]:=
 cE [.agg tS8,.one .bool] [0,1,3,4,5,6,11] [0,1,3,4,6,11] func70 ntmps70 (CC call114 CN)
def A8X(p0:D0p)(p1:Int):HM (Int×Unit):=
 cc 116 #[.pointer p0,vi p1] fun a=>bn (α:=Int×Unit) (HM.loop (σ:=Int×Unit) (τ:=Int×Unit) (fun b=>ie (decide (b.1<(a.len:Int))) (ix a b.1 3 fun c=>bn (α:=Int×B4p×Int×Unit) (o9 [.int
 .i64,.str,.int .i64] c) fun d=>nw #[vi 0,ve,vi 0] 208 fun e=>sn e [vi d.1,.string d.2.1,vi d.2.2.1] fun _=>jt e 1 fun f=>cb 111 #[.pointer p0,vi p1,.string f] fun g=>pu (.inl (wi (b.1+1),()))) (pu (.inr (b.1,
 ())))) (0,())) fun h=>pu ((a.len:Int),())
theorem A8W(p0:D0p)(p1:Int):HCs 71 #[.pointer p0,.int .i64 p1] (A8X p0 p1) fun x=>.int .i64 x.1:=
 cE [.one (.int .i64)] [0,1,4,5,7,11,12,13,14] [0,1,5,7,11,12,13,14] func71 ntmps71 (CC call116 (CC call111 CN))
def A4K(p0:D0p)(p1:Int)(p2:Slc):HM (Unit):=
 nn p0 fun a=>kp a 0 fun b=>nn b fun c=>km c 3 fun d=>bn (α:=Nat) (B0H d) fun e=>bn (α:=Unit) (HM.loop (σ:=Unit) (τ:=Unit) (fun f=>bn (α:=Option (Value×Value)) (A8G e) fun g=>A2Q g (ie false (bn
 (α:=Int×(yS4)) (A4O (.one (.int .i64)) (.agg tS4) e) fun h=>nw zS4 112 fun i=>sn i (lS4 h.2) fun _=>ji i 0 fun j=>bn (α:=Unit) (ie (j==p1) (bn (α:=Int×Unit) (HM.loop (σ:=Int×Unit) (τ:=Int×Unit)
 (fun k=>ie (decide (k.1<(p2.len:Int))) (ix p2 k.1 26 fun l=>A1h l fun m=>nw zS3 45 fun n=>sn n (lS3 m) fun _=>A1h (az n) fun o=>cx 67 #[.pointer p0,vi h.1,.agg (aS3 o)] fun p=>pu (.inl (wi (k.1+1),()))) (pu
 (.inr (k.1,())))) (0,())) fun q=>pu ()) (pu ())) fun r=>pu (.inl ())) (pu (.inr ()))) fun(s:Value×Value)=>ie true (bn (α:=Int×(yS4)) (A4O (.one (.int .i64)) (.agg tS4) e) fun t=>nw zS4 112 fun u=>sn u
 (lS4 t.2) fun _=>ji u 0 fun v=>bn (α:=Unit) (ie (v==p1) (bn (α:=Int×Unit) (HM.loop (σ:=Int×Unit) (τ:=Int×Unit) (fun w=>ie (decide (w.1<(p2.len:Int))) (ix p2 w.1 26 fun x=>A1h x fun y=>nw zS3 45 fun
 z=>sn z (lS3 y) fun _=>A1h (az z) fun A=>cx 67 #[.pointer p0,vi t.1,.agg (aS3 A)] fun B=>pu (.inl (wi (w.1+1),()))) (pu (.inr (w.1,())))) (0,())) fun C=>pu ()) (pu ())) fun D=>pu (.inl ())) (pu (.inr ()))) ())
 fun E=>pu ()
theorem A5P(p0:D0p)(p1:Int)(p2:Slc):HCs 72 #[.pointer p0,.int .i64 p1,.slice p2.a p2.len p2.cap] (A4K p0 p1 p2) fun x=>.tuple #[]:=
 cE [] [0,1,2,6,7,9,17,19,26,27,28,29,30] [0,1,2,6,7,9,17,19,26,27,28,29,30] func72 ntmps72 (CC call67 CN)
def A5s(p0:D0p)(p1:Int):HM (Slc×Unit):=
 ie (Option.isNone p0) (pu (⟨none,0,0⟩,())) (ci 117 #[vi p1] fun a=>nn p0 fun b=>sx (Addr.add b 2) (.bool true) fun _=>nn p0 fun c=>sx (Addr.add c 1) (vi a) fun _=>nn p0 fun d=>kc d 3 fun e=>bn (α:=Slc×Int×Unit)
 (HM.loop (σ:=Slc×Int×Unit) (τ:=Slc×Int×Unit) (fun f=>ie (decide (f.2.1<(e.len:Int))) (ix e f.2.1 7 fun g=>g5 g fun h=>nw zS5 162 fun i=>sn i (lS5 h) fun _=>jb i 6 fun j=>bn (α:=Slc×Unit) (ie j (ji i 0
 fun k=>nw #[vi 6,.bool false,.bool false,vi 0,vi k,ve,ve,.int .u8 0,vz,vz,ve,.bool false,vi 0,.bool false,ve,ve,vi 0,.bool false,vz,.bool false,.bool false,ve,ve,.bool false,vz,vz] 45 fun l=>bn
 (α:=Slc) (HM.append 45 26 328 zS3 f.1 1 (W4 26 (⟨some (az l),1,1⟩))) fun m=>pu (m,())) (g7 (ad i 1) fun n=>ji i 0 fun o=>bn (α:=yS2) (A1C prog (.agg tS3) 118 #[.agg (aS7 n),vi o,.bool true]) fun
 p=>nw (aS3 p) 45 fun q=>bn (α:=Slc) (HM.append 45 26 328 zS3 f.1 1 (W4 26 (⟨some (az q),1,1⟩))) fun r=>pu (r,()))) fun s=>pu (.inl (s.1,wi (f.2.1+1),()))) (pu (.inr (f.1,f.2.1,())))) (⟨none,0,0⟩,0,()))
 fun t=>cc 119 #[.pointer p0,vs t.1] fun u=>pu (u,()))
theorem A6v(p0:D0p)(p1:Int):HCs 73 #[.pointer p0,.int .i64 p1] (A5s p0 p1) fun x=>.slice x.1.a x.1.len x.1.cap:=
 cE [.one .slc] [0,1,4,5,7,9,21,22,23,24,28] [0,1,5,7,9,21,22,23,24,28] func73 ntmps73 (CC call117 (CC call118 (CC call119 CN)))
def A60(p0:D0p)(p1:B4p×B4p×Int×Unit):HM (Int×Unit):=
 nw #[.string p1.1,.string p1.2.1,vi p1.2.2.1] 204 fun a=>ie (Option.isNone p0) (pu (128,())) (jt a 0 fun b=>cu 12 #[.string b] fun c=>ie (!(c==0)) (pu (144,())) (bn (α:=Bool×Unit) (ji a 2 fun d=>ie (decide (d
 <(0:Int))) (pu (true,())) (ji a 2 fun e=>pu (decide (2<(e:Int)),()))) fun f=>ie f.1 (pu (155,())) (jt a 1 fun g=>ie (decide (g=es)) (nn p0 fun h=>km h 1 fun i=>jt a 0 fun j=>bn (α:=Unit) (A6q
 (Instr.sameNow .string) i (.string j)) fun _=>pu (0,())) (nn p0 fun k=>km k 1 fun l=>jt a 0 fun m=>bn (α:=(B4p×B4p×Int×Unit)×Bool) (HM.lookup (Instr.sameNow .string) (.agg #[ve,ve,vi 0]) (.agg
 [.str,.str,.int .i64]) l (.string m)) fun n=>nw #[ve,ve,vi 0] 204 fun o=>bn (α:=(B4p×B4p×Int×Unit)×Bool) (HM.lookup (Instr.sameNow .string) (.agg #[ve,ve,vi 0]) (.agg [.str,.str,.int .i64])
 l (.string m)) fun p=>rq (.tuple #[.agg #[.string p.1.1,.string p.1.2.1,vi p.1.2.2.1],.bool p.2]) (.tuple #[.agg #[.string n.1.1,.string n.1.2.1,vi n.1.2.2.1],.bool n.2])<|jt a 0 fun q=>rq (.string q) (.string m)
 <|km k 1 fun r=>rq (.map r) (.map l)<|sn o [.string n.1.1,.string n.1.2.1,vi n.1.2.2.1] fun _=>bn (α:=Bool×Unit) (ie (!n.2) (nn p0 fun s=>km s 1 fun t=>bn (α:=Int) (A7u t) fun u=>nn p0 fun v=>ki v 0 fun
 w=>pu (decide (w≤(u:Int)),())) (pu (false,()))) fun x=>ie x.1 (pu (151,())) (nn p0 fun y=>km y 1 fun z=>jt a 0 fun A=>bn (α:=B4p×B4p×Int×Unit) (o9 [.str,.str,.int .i64] (az a)) fun
 B=>bn (α:=Unit) (A3J (Instr.sameNow .string) z (.string A) (.agg #[.string B.1,.string B.2.1,vi B.2.2.1])) fun _=>pu (0,()))))))
theorem A7K(p0:D0p)(p1:B4p×B4p×Int×Unit):HCs 79 #[.pointer p0,.agg #[.string p1.1,.string p1.2.1,.int .i64 p1.2.2.1]] (A60 p0 p1) fun x=>.int .u8 x.1:=
 cE [.one (.int .u8)] [0,1,3,4,6,7,10,15,24,57] [0,1,3,6,7,10,15,24,57] func79 ntmps79 (CC call12 CN)
def A8r(p0:D0p)(p1:B4p):HM (Slc×Unit):=
 bn (α:=Bool×Unit) (ie (Option.isNone p0) (pu (true,())) (cu 12 #[.string p1] fun a=>pu (!(a==0),()))) fun b=>ie b.1 (pu (⟨none,0,0⟩,())) (nn p0 fun c=>kp c 0 fun d=>bn (α:=Int) (A5I p1 0) fun e=>cc 36
 #[.string p1] fun f=>kp c 0 fun g=>rq (.pointer g) (.pointer d)<|cc 125 #[.pointer d,vz,vs f,.bool (e==36),vz] fun h=>cx 126 #[vs h,.func (.func 127) #[] #[]] fun i=>pu (h,()))
theorem A8J(p0:D0p)(p1:B4p):HCs 80 #[.pointer p0,.string p1] (A8r p0 p1) fun x=>.slice x.1.a x.1.len x.1.cap:=
 cE [.one .slc] [0,1,4,5,12] [0,1,5,12] func80 ntmps80 (CC call12 (CC call36 (CC call125 (CC call126 CN))))
def A55(p0:D0p)(p1:yS7):HM (Slc×Int×Unit):=
 nw (aS7 p1) 83 fun a=>ie (Option.isNone p0) (pu (⟨none,0,0⟩,128,())) (bn (α:=Bool×Unit) (ji a 2 fun b=>ie (decide (b<(0:Int))) (pu (true,())) (ji a 2 fun c=>pu (decide (2<(c:Int)),()))) fun d=>ie d.1
 (pu (⟨none,0,0⟩,155,())) (bn (α:=Bool×Unit) (ji a 2 fun e=>ie (e==0) (nn p0 fun f=>kb f 2 fun g=>pu (!g,())) (pu (false,()))) fun h=>ie h.1 (pu (⟨none,0,0⟩,0,())) (nn p0 fun i=>kc i 4 fun j=>ie (decide
 (256≤(j.len:Int))) (pu (⟨none,0,0⟩,151,())) (nn p0 fun k=>kc k 4 fun l=>g7 (az a) fun m=>nw (aS7 m) 83 fun n=>kc k 4 fun o=>rq (vs o) (vs l)<|bn (α:=Slc) (HM.append 83 5 64 zS7 l 1 (W4 5 (⟨some (az n),1,
 1⟩))) fun p=>nn p0 fun q=>sx (Addr.add q 4) (vs p) fun _=>cc 119 #[.pointer p0,vz] fun r=>pu (r,0,())))))
theorem A68(p0:D0p)(p1:yS7):HCs 81 #[.pointer p0,.agg (aS7 p1)] (A55 p0 p1) fun x=>.tuple #[.slice x.1.a x.1.len x.1.cap,.int .u8 x.2.1]:=
 cE [.one .slc,.one (.int .u8)] [0,1,3,4,5,6,9,18,29] [0,1,3,6,9,18,29] func81 ntmps81 (CC call119 CN)
def A8q(p0:D0p)(p1:Slc)(p2:Value):HM (Unit):=
 cc 128 #[vs p1] fun a=>cc 129 #[.pointer p0,vs a,vz] fun b=>bn (α:=Int×Unit) (HM.loop (σ:=Int×Unit) (τ:=Int×Unit) (fun c=>ie (decide (c.1<(b.len:Int))) (ix b c.1 3 fun d=>bn (α:=Int×B4p×Int
 ×Unit) (o9 [.int .i64,.str,.int .i64] d) fun e=>nw #[vi 0,ve,vi 0] 208 fun f=>sn f [vi e.1,.string e.2.1,vi e.2.2.1] fun _=>bn (α:=Int×B4p×Int×Unit) (o9 [.int .i64,.str,.int .i64] (az
 f)) fun g=>bn (α:=Unit) (C32 prog [] p2 #[.agg #[vi g.1,.string g.2.1,vi g.2.2.1]]) fun h=>pu (.inl (wi (c.1+1),()))) (pu (.inr (c.1,())))) (0,())) fun i=>nn p0 fun j=>km j 1 fun k=>bn (α:=Nat)
 (B0H k) fun l=>bn (α:=Unit) (HM.loop (σ:=Unit) (τ:=Unit) (fun m=>bn (α:=Option (Value×Value)) (A8G l) fun n=>A2Q n (ie false (bn (α:=B4p×D0p) (A4O (.one .str) (.one .ptr)
 l) fun o=>nw #[.string o.1] 9 fun p=>bn (α:=Slc) (HM.append 9 1 16 #[ve] a 1 (W4 1 (⟨some (az p),1,1⟩))) fun q=>cx 82 #[.pointer o.2,vs q,p2] fun r=>pu (.inl ())) (pu (.inr ()))) fun(s:Value×Value)=>ie
 true (bn (α:=B4p×D0p) (A4O (.one .str) (.one .ptr) l) fun t=>nw #[.string t.1] 9 fun u=>bn (α:=Slc) (HM.append 9 1 16 #[ve] a 1 (W4 1 (⟨some (az u),1,1⟩))) fun v=>cx 82 #[.pointer t.2,vs
 v,p2] fun w=>pu (.inl ())) (pu (.inr ()))) ()) fun x=>pu ()
theorem A8I(p0:D0p)(p1:Slc)(p2:Value):HCs 82 #[.pointer p0,.slice p1.a p1.len p1.cap,p2] (A8q p0 p1 p2) fun x=>.tuple #[]:=
 cE [] [0,1,2,7,8,9,14,15,16,17,28,30] [0,1,2,7,8,9,14,15,16,17,28,30] func82 ntmps82 (CC call128 (CC call129 (CC call82 CN)))
def A38(p0:Int×B4p×Int×Unit)(p1:Addr):HM (Unit):=
 nw #[vi p0.1,.string p0.2.1,vi p0.2.2.1] 208 fun a=>lm p1 fun b=>jt a 1 fun c=>bn (α:=Unit) (A3J (Instr.sameNow .string) b (.string c) (.bool true)) fun _=>pu ()
theorem A48(p0:Int×B4p×Int×Unit)(p1:Addr):HCs 83 #[.agg #[.int .i64 p0.1,.string p0.2.1,.int .i64 p0.2.2.1],.pointer (some p1)] (A38 p0 p1) fun x=>.tuple #[]:=
 cE [] [0,1,2] [0,1,2] func83 ntmps83 CN
def B32(p0:D0p)(p1:Bool):HM (Unit):=
 nn p0 fun a=>sx (Addr.add a 4) (.bool p1) fun _=>nn p0 fun b=>sx (Addr.add b 5) (vz) fun _=>nn p0 fun c=>sx (Addr.add c 6) (vz) fun _=>pu ()
theorem B1H(p0:D0p)(p1:Bool):HCs 86 #[.pointer p0,.bool p1] (B32 p0 p1) fun x=>.tuple #[]:=
 cE [] [0,1] [0,1] func86 ntmps86 CN
def B73(p0:D0p)(p1:Int)(p2:Bool):HM (Unit):=
 ci 89 #[.pointer p0,vi p1] fun a=>ie (decide (a<(0:Int))) (pu ()) (nn p0 fun b=>kc b 3 fun c=>ix c a 8 fun d=>bn (α:=Int×Int×Bool×B4p×B4p×Int×Bool×B4p×Unit) (o9 [.int .i64,
 .int .i64,.bool,.str,.str,.int .i64,.bool,.str] d) fun e=>nw #[vi 0,vi 0,.bool false,ve,ve,vi 0,.bool false,ve] 223 fun f=>sn f [vi e.1,vi e.2.1,.bool e.2.2.1,.string e.2.2.2.1,.string e.2.2.2.2.1,vi
 (w5 e),.bool (w6 e),.string (w7 e)] fun _=>bn (α:=Slc×Int×Unit) (HM.loop (σ:=Slc×Int×Unit) (τ:=Slc×Int×Unit) (fun g=>nn p0 fun h=>kc h 3 fun i=>ie (decide (g.2.1<(i.len:Int))) (bn (α:=Slc×
 Unit) (ie (!(g.2.1==a)) (nn p0 fun j=>kc j 3 fun k=>ix k g.2.1 8 fun l=>bn (α:=Int×Int×Bool×B4p×B4p×Int×Bool×B4p×Unit) (o9 [.int .i64,.int .i64,.bool,.str,.str,.int .i64,
 .bool,.str] l) fun m=>nw #[vi m.1,vi m.2.1,.bool m.2.2.1,.string m.2.2.2.1,.string m.2.2.2.2.1,vi (w5 m),.bool (w6 m),.string (w7 m)] 223 fun n=>bn (α:=Slc) (HM.append 223 8 88 #[vi 0,vi 0,.bool false,ve,
 ve,vi 0,.bool false,ve] g.1 1 (W4 8 (⟨some (az n),1,1⟩))) fun o=>pu (o,())) (pu (g.1,()))) fun p=>pu (.inl (p.1,wi (g.2.1+1),()))) (pu (.inr (g.1,g.2.1,())))) (⟨none,0,0⟩,0,())) fun q=>nn p0 fun
 r=>sx (Addr.add r 3) (vs q.1) fun _=>nn p0 fun s=>kp s 0 fun t=>ji f 1 fun u=>cb 133 #[.pointer t,vi u] fun v=>bn (α:=Unit) (ie v (nn p0 fun w=>kp w 1 fun x=>ji f 1 fun y=>ci 134 #[.pointer x,vi y] fun z=>pu ()) (pu
 ())) fun A=>bn (α:=Bool×Unit) (ie p2 (jb f 2 fun B=>ie B (nn p0 fun C=>kb C 4 fun D=>pu (!D,())) (pu (false,()))) (pu (false,()))) fun E=>bn (α:=Unit) (ie E.1 (g7 (ad f 3) fun F=>cx 135 #[.pointer p0,.agg (aS7
 F)] fun G=>pu ()) (pu ())) fun H=>pu ())
theorem B4H(p0:D0p)(p1:Int)(p2:Bool):HCs 87 #[.pointer p0,.int .i64 p1,.bool p2] (B73 p0 p1 p2) fun x=>.tuple #[]:=
 cE [] [0,1,2,6,7,8,9,10,15,29,34,56,75] [0,1,2,6,7,8,9,10,15,29,34,56,75] func87 ntmps87 (CC call89 (CC call133 (CC call134 (CC call135 CN))))
def B5F(p0:D0p)(p1:yS7):HM (Unit):=
 nw (aS7 p1) 143 fun a=>jb a 3 fun b=>bn (α:=Unit) (ie b (nn p0 fun c=>kp c 2 fun d=>jt a 0 fun e=>jt a 1 fun f=>ji a 2 fun g=>ci 136 #[.pointer d,.agg #[.string e,.string f,vi g]] fun h=>pu ()) (pu ())) fun i=>nn
 p0 fun j=>kp j 1 fun k=>jt a 0 fun l=>cc 137 #[.pointer k,.string l] fun m=>bn (α:=Int×Unit) (HM.loop (σ:=Int×Unit) (τ:=Int×Unit) (fun n=>ie (decide (n.1<(m.len:Int))) (bn (α:=Unit) (bn (α:=Bool×
 Unit) (ie (decide (0<(n.1:Int))) (ix m (wi (n.1-1)) 3 fun o=>ki o 0 fun p=>ix m n.1 3 fun q=>ki q 0 fun r=>pu (p==r,())) (pu (false,()))) fun s=>ie s.1 (pu ()) (bn (α:=Int×Int×Unit) (HM.loop (σ:=Int×
 Int×Unit) (τ:=Int×Int×Unit) (fun t=>ie (decide (t.2.1<(m.len:Int))) (bn (α:=Bool×Unit) (ix m t.2.1 3 fun u=>ki u 0 fun v=>ix m n.1 3 fun w=>ki w 0 fun x=>ie (v==x) (ix m t.2.1 3 fun y=>ki y 2 fun z=>pu
 (decide (t.1<(z:Int)),())) (pu (false,()))) fun A=>bn (α:=Int×Unit) (ie A.1 (ix m t.2.1 3 fun B=>ki B 2 fun C=>pu (C,())) (pu (t.1,()))) fun D=>pu (.inl (D.1,wi (t.2.1+1),()))) (pu (.inr (t.1,t.2.1,
 ())))) (0,n.1,())) fun E=>nn p0 fun F=>kp F 0 fun G=>ix m n.1 3 fun H=>ki H 0 fun I=>cp 90 #[.pointer G,vi I] fun J=>ji a 2 fun K=>ci 138 #[vi K,vi E.1] fun L=>nn J fun M=>kp M 4 fun N=>jt a 0 fun O=>jt a 1 fun P=>bn
 (α:=Slc×Int×Unit) (u9 prog [.one .slc,.one (.int .i64)] 139 #[.pointer N,.agg #[.string O,.string P,vi L,.bool false,ve]]) fun Q=>nn J fun R=>ki R 0 fun S=>cx 140 #[.pointer p0,vi S,vs Q.1] fun
 T=>pu ())) fun U=>pu (.inl (wi (n.1+1),()))) (pu (.inr (n.1,())))) (0,())) fun V=>pu ()
theorem B3a(p0:D0p)(p1:yS7):HCs 88 #[.pointer p0,.agg (aS7 p1)] (B5F p0 p1) fun x=>.tuple #[]:=
 cE [] [0,1,3,4,5,6,7,8,9,10,13,36,54,59,81] [0,1,3,4,5,6,7,8,9,10,13,36,54,59,81] func88 ntmps88 (CC call136 (CC call137 (CC call90 (CC call138 (CC call139 (CC call140 CN))))))
def B5D(p0:D0p)(p1:Int):HM (Int×Unit):=
 bn (α:=(Int×Unit)⊕(Int×Unit)) (HM.loop (σ:=Int×Unit) (τ:=(Int×Unit)⊕(Int×Unit)) (fun a=>nn p0 fun b=>kc b 3 fun c=>ie (decide (a.1<(c.len:Int))) (nn p0 fun d=>kc d 3 fun e=>ix e a.1 8 fun f=>ki f
 0 fun g=>ie (g==p1) (pu (.inr (.inr (a.1,())))) (pu (.inl (wi (a.1+1),())))) (pu (.inr (.inl (a.1,()))))) (0,())) (Sum.elim (fun h=>pu ((-1),())) X8)
theorem B28(p0:D0p)(p1:Int):HCs 89 #[.pointer p0,.int .i64 p1] (B5D p0 p1) fun x=>.int .i64 x.1:=
 cE [.one (.int .i64)] [0,1,4,5,12,24] [0,1,5,12,24] func89 ntmps89 CN
def B75(p0:D0p)(p1:Int):HM (D0p×Unit):=
 bn (α:=(Int×Unit)⊕(D0p×Unit)) (HM.loop (σ:=Int×Unit) (τ:=(Int×Unit)⊕(D0p×Unit)) (fun a=>nn p0 fun b=>kc b 1 fun c=>ie (decide (a.1<(c.len:Int))) (nn p0 fun d=>kc d 1 fun e=>ix e
 a.1 1 fun f=>lp f fun g=>nn g fun h=>ki h 0 fun i=>ie (i==p1) (nn p0 fun j=>kc j 1 fun k=>ix k a.1 1 fun l=>lp l fun m=>pu (.inr (.inr (m,())))) (pu (.inl (wi (a.1+1),())))) (pu (.inr (.inl (a.1,()))))) (0,()))
 (Sum.elim (fun n=>pu (none,())) X8)
theorem B4J(p0:D0p)(p1:Int):HCs 90 #[.pointer p0,.int .i64 p1] (B75 p0 p1) fun x=>.pointer x.1:=
 cE [.one .ptr] [0,1,4,5,12,26] [0,1,5,12,26] func90 ntmps90 CN
def B72(p0:D0p)(p1:Int)(p2:D0p)(p3:yS2):HM (Unit):=
 nw (aS2 p3) 70 fun a=>bn (α:=Bool×Unit) (ji a 4 fun b=>ie (decide (1≤(b:Int))) (ji a 4 fun c=>pu (decide (c≤(65535:Int)),())) (pu (false,()))) fun d=>ji a 0 fun e=>bn (α:=Bool×Unit) (ie (e==3) (pu (e
 ==3,())) (pu (e==6,()))) fun f=>ie f.1 (g2 (az a) fun g=>cx 141 #[.pointer p0,vi p1,.pointer p2,.agg (aS2 g)] fun h=>pu ()) (bn (α:=Bool×Unit) (ie (e==4) (pu (e==4,())) (bn (α:=Bool×Unit) (ie (e==
 5) (pu (e==5,())) (pu (e==7,()))) fun i=>pu (i.1,()))) fun j=>ie j.1 (nn p2 fun k=>kp k 4 fun l=>g2 (az a) fun m=>bn (α:=Slc×Int×Unit) (u9 prog [.one .slc,.one (.int .i64)] 142 #[.pointer l,.agg
 (aS2 m)]) fun n=>ie (!(n.2.1==0)) (cx 143 #[.pointer p0,vi p1,vi n.2.1] fun o=>pu ()) (nn p2 fun p=>ki p 0 fun q=>cx 140 #[.pointer p0,vi q,vs n.1] fun r=>pu ())) (bn (α:=(Unit)⊕Unit) (ie (e==8) (bn (α:=
 Bool×Unit) (ie d.1 (jc a 24 fun s=>pu (decide (0<(s.len:Int)),())) (pu (false,()))) fun t=>ie t.1 (g2 (az a) fun u=>cx 144 #[.pointer p0,vi p1,.pointer p2,.agg (aS2 u)] fun v=>pu (.inr ())) (pu (.inl ()))) (bn
 (α:=(Unit)⊕((Unit)⊕Unit)) (ie (e==10) (bn (α:=Bool×Unit) (ie d.1 (jc a 25 fun w=>pu (decide (0<(w.len:Int)),())) (pu (false,()))) fun x=>ie x.1 (g2 (az a) fun y=>cx 145 #[.pointer p0,vi p1,.pointer
 p2,.agg (aS2 y)] fun z=>pu (.inr (.inr ()))) (pu (.inl ()))) (ie (e==12) (cx 146 #[.pointer p0,vi p1,.agg #[vi 13,.bool false,.bool false,vi 0,vi 0,ve,ve,vi 0,vz,vz,ve,.bool false,vi 0,.bool false,ve,
 ve,vi 0,.bool false,vz,.bool false,.bool false,ve,ve,.bool false,vz,vz]] fun A=>pu (.inr (.inr ()))) (ie (e==14) (ji a 7 fun B=>cx 87 #[.pointer p0,vi p1,.bool (B==4)] fun C=>pu (.inr (.inr ()))) (pu
 (.inl ()))))) (Sum.elim (fun D=>pu (.inl ())) X8))) (Sum.elim (fun E=>cx 143 #[.pointer p0,vi p1,vi 130] fun F=>pu ()) X8)))
theorem B4G(p0:D0p)(p1:Int)(p2:D0p)(p3:yS2):HCs 91 #[.pointer p0,.int .i64 p1,.pointer p2,.agg (aS2 p3)] (B72 p0 p1 p2 p3) fun x=>.tuple #[]:=
 cE [] [0,1,2,3,7,8,9,10,20,21,29,43,55,63,69,77,83,89] [0,1,2,3,7,8,9,10,20,21,29,43,55,63,69,77,83,89] func91 ntmps91 (CC call141 (CC call142 (CC call143 (CC call140 (CC call144 (CC call145 (CC call146 (CC call87 CN))))))))
def B0q(p0:D0p)(p1:Int)(p2:yS2):HM (Unit):=
 nw (aS2 p2) 70 fun a=>g2 (az a) fun b=>ci 147 #[.pointer p0,.agg (aS2 b)] fun c=>ie (!(c==0)) (cx 93 #[.pointer p0,vi p1,.agg #[vi 2,.bool false,.bool false,vi 0,vi 0,ve,ve,vi c,vz,vz,ve,.bool false,vi
 0,.bool false,ve,ve,vi 0,.bool false,vz,.bool false,.bool false,ve,ve,.bool false,vz,vz]] fun d=>pu ()) (nn p0 fun e=>kp e 0 fun f=>jt a 10 fun g=>cp 148 #[.pointer f,.string g] fun h=>bn (α:=Int×Unit)
 (ie (!(Option.isNone h)) (nn h fun i=>ki i 0 fun j=>bn (α:=Int×Unit) (HM.loop (σ:=Int×Unit) (τ:=Int×Unit) (fun k=>nn p0 fun l=>kc l 3 fun m=>ie (decide (k.1<(m.len:Int))) (nn p0 fun n=>kc n 3 fun o=>ix o
 k.1 8 fun p=>ki p 1 fun q=>ie (q==j) (nn p0 fun r=>kc r 3 fun s=>ix s k.1 8 fun t=>ki t 0 fun u=>cx 143 #[.pointer p0,vi u,vi 142] fun v=>pu (.inr (k.1,()))) (pu (.inl (wi (k.1+1),())))) (pu (.inr (k.1,()))))
 (0,())) fun w=>pu (j,())) (pu (0,()))) fun x=>jc a 9 fun y=>bn (α:=(yS8)×Bool×Unit) (u9 prog [.agg tS8,.one .bool] 149 #[vs y,vi 17]) fun z=>nw zS8 194 fun A=>sn A (lS8 z.1) fun _=>nn p0 fun B=>kp B
 0 fun C=>jt a 10 fun D=>jb a 11 fun E=>ji A 1 fun F=>bn (α:=Int×Bool×Int×Unit) (u9 prog [.one (.int .i64),.one .bool,.one (.int .i64)] 150 #[.pointer C,.string D,.bool E,.bool (decide (0<(F:
 Int)))]) fun G=>bn (α:=Bool×Unit) (ie (!(x.1==0)) (pu (!(x.1==G.1),())) (pu (false,()))) fun H=>bn (α:=Unit) (ie H.1 (nn p0 fun I=>kp I 1 fun J=>ci 134 #[.pointer J,vi x.1] fun K=>pu ()) (pu ())) fun L=>kt
 (ad a 14) 0 fun M=>kt (ad a 14) 1 fun N=>ki (ad a 14) 2 fun O=>kb (ad a 14) 3 fun P=>nw zS7 143 fun Q=>sn Q [.string M,.string N,vi O,.bool P,ve] fun _=>nn p0 fun R=>kc R 3 fun S=>jb a 13 fun T=>g7 (az Q) fun U=>nw
 #[vi p1,vi G.1,.bool T,.string U.1,.string U.2.1,vi U.2.2.1,.bool U.2.2.2.1,.string U.2.2.2.2.1] 223 fun V=>kc R 3 fun W=>rq (vs W) (vs S)<|bn (α:=Slc) (HM.append 223 8 88 #[vi 0,vi 0,.bool false,ve,ve,vi
 0,.bool false,ve] S 1 (W4 8 (⟨some (az V),1,1⟩))) fun X=>nn p0 fun Y=>sx (Addr.add Y 3) (vs X) fun _=>cx 146 #[.pointer p0,vi p1,.agg #[vi 2,.bool false,.bool false,vi 0,vi 0,ve,ve,vi 0,vz,vz,ve,
 .bool false,vi 0,.bool false,ve,ve,vi 0,.bool false,vz,.bool false,.bool false,ve,ve,.bool G.2.1,vz,vz]] fun Z=>jc a 9 fun oI=>bn (α:=(yS8)×Bool×Unit) (u9 prog [.agg tS8,.one .bool] 149
 #[vs oI,vi 33]) fun kQ=>nw zS8 194 fun ez=>sn ez (lS8 kQ.1) fun _=>bn (α:=Int×Unit) (ie kQ.2.1 (ji ez 1 fun ia=>pu (ia,())) (pu (64,()))) fun fj=>nn p0 fun di=>kp di 0 fun gi=>cp 90 #[.pointer gi,vi
 G.1] fun fW=>nn fW fun jo=>kp jo 4 fun jH=>cc 151 #[.pointer jH,vi fj.1] fun jG=>cx 140 #[.pointer p0,vi G.1,vs jG] fun kq=>pu ())
theorem A93(p0:D0p)(p1:Int)(p2:yS2):HCs 92 #[.pointer p0,.int .i64 p1,.agg (aS2 p2)] (B0q p0 p1 p2) fun x=>.tuple #[]:=
 cE [] [0,1,2,5,6,7,8,9,10,12,13,15,16,17,18,19,20,25,39,50,62,101,147] [0,1,2,5,6,7,8,9,10,12,13,15,16,17,18,19,20,25,39,50,62,101,147] func92 ntmps92 (CC call147 (CC call93 (CC call148 (CC call143 (CC call149 (CC call150 (CC call134 (CC call146 (CC call90 (CC call151 (CC call140 CN)))))))))))
def B5B(p0:D0p)(p1:Int)(p2:yS2):HM (Unit):=
 nw (aS2 p2) 70 fun a=>nn p0 fun b=>kc b 5 fun c=>g2 (az a) fun d=>nw #[vi p1,vi d.1,.bool d.2.1,.bool d.2.2.1,vi d.2.2.2.1,vi d.2.2.2.2.1,.string (w5 d),.string (w6 d),vi (w7 d),vs (w8 d),vs (w9 d),.string
 (w10 d),.bool (w11 d),vi (w12 d),.bool (w13 d),.string (w14 d),.string (w15 d),vi (w16 d),.bool (w17 d),vs (w18 d),.bool (w19 d),.bool (w20 d),.string (w21 d),.string (w22 d),.bool (w23 d),vs (w24 d),vs
 (w25 d),.bool true] 229 fun e=>kc b 5 fun f=>rq (vs f) (vs c)<|bn (α:=Slc) (HM.append 229 28 344 #[vi 0,vi 0,.bool false,.bool false,vi 0,vi 0,ve,ve,vi 0,vz,vz,ve,.bool false,vi 0,.bool false,ve,ve,
 vi 0,.bool false,vz,.bool false,.bool false,ve,ve,.bool false,vz,vz,.bool false] c 1 (W4 28 (⟨some (az e),1,1⟩))) fun g=>nn p0 fun h=>sx (Addr.add h 5) (vs g) fun _=>pu ()
theorem B26(p0:D0p)(p1:Int)(p2:yS2):HCs 93 #[.pointer p0,.int .i64 p1,.agg (aS2 p2)] (B5B p0 p1 p2) fun x=>.tuple #[]:=
 cE [] [0,1,2,5] [0,1,2,5] func93 ntmps93 CN
def A6b(p0:Slc)(p1:Slc):HM (Bool×Unit):=
 ie (!((p0.len:Int)==(p1.len:Int))) (pu (false,())) (bn (α:=(Int×Unit)⊕(Bool×Unit)) (HM.loop (σ:=Int×Unit) (τ:=(Int×Unit)⊕(Bool×Unit)) (fun a=>ie (decide (a.1<(p0.len:Int))) (ix p0 a.1 26
 fun b=>A1h b fun c=>ix p1 a.1 26 fun d=>g2 d fun e=>A0R (nw zS3 45 fun f=>g2 d fun g=>rq (.agg (aS2 g)) (.agg (aS2 e))<|A1h b fun h=>rq (.agg (aS3 h)) (.agg (aS3 c))<|nw zS2 70 fun i=>g2 d fun j=>rq (.agg (aS2
 j)) (.agg (aS2 e))<|A1h b fun k=>rq (.agg (aS3 k)) (.agg (aS3 c))<|sn f (lS3 c) fun _=>g2 d fun l=>rq (.agg (aS2 l)) (.agg (aS2 e))<|sn i (lS2 e) fun _=>bn (α:=Bool×Unit) (ji f 0 fun m=>ji i 0 fun n=>ie (!(m==
 n)) (pu (true,())) (jb f 1 fun o=>jb i 1 fun p=>ie (!(o==p)) (pu (true,())) (jb f 2 fun q=>jb i 2 fun r=>ie (!(q==r)) (pu (true,())) (ji f 3 fun s=>ji i 3 fun t=>ie (!(s==t)) (pu (true,())) (ji f 4 fun u=>ji i
 4 fun v=>ie (!(u==v)) (pu (true,())) (jt f 5 fun w=>jt i 5 fun x=>ie (!(decide (w=x))) (pu (true,())) (jt f 6 fun y=>jt i 6 fun z=>ie (!(decide (y=z))) (pu (true,())) (ju f 7 fun A=>ji i 7 fun B=>ie (!((wi A)==
 B)) (pu (true,())) (jc f 9 fun C=>jc i 9 fun D=>ie (!((C.len:Int)==(D.len:Int))) (pu (true,())) (jc f 8 fun E=>jc i 8 fun F=>ie (!((E.len:Int)==(F.len:Int))) (pu (true,())) (jb f 23 fun G=>jb i 23 fun
 H=>pu (!(G==H),())))))))))))) fun I=>ie I.1 (pu (.inr (.inr (false,())))) (jc f 9 fun J=>bn (α:=(Int×Unit)⊕((Int×Unit)⊕((Int×Unit)⊕(Bool×Unit)))) (HM.loop (σ:=Int×Unit) (τ:=(Int×Unit)⊕((Int
 ×Unit)⊕((Int×Unit)⊕(Bool×Unit)))) (fun K=>ie (decide (K.1<(J.len:Int))) (jc f 9 fun L=>ix L K.1 4 fun M=>g8 M fun N=>jc i 9 fun O=>ix O K.1 4 fun P=>g8 P fun Q=>ie (!((N.1==Q.1)&&((N.2.1==Q.2.1)&&
 ((decide (N.2.2.1=Q.2.2.1))&&((decide (N.2.2.2.1=Q.2.2.2.1))&&true))))) (pu (.inr (.inr (.inr (.inr (false,())))))) (pu (.inl (wi (K.1+1),())))) (pu (.inr (.inl (K.1,()))))) (0,())) (Sum.elim (fun R=>jc f 8
 fun S=>bn (α:=(Int×Unit)⊕((Int×Unit)⊕((Int×Unit)⊕(Bool×Unit)))) (HM.loop (σ:=Int×Unit) (τ:=(Int×Unit)⊕((Int×Unit)⊕((Int×Unit)⊕(Bool×Unit)))) (fun T=>ie (decide (T.1<(S.len:Int)))
 (jc f 8 fun U=>ix U T.1 1 fun V=>lu V fun W=>jc i 8 fun X=>ix X T.1 1 fun Y=>li Y fun Z=>ie (!((wi W)==Z)) (pu (.inr (.inr (.inr (.inr (false,())))))) (pu (.inl (wi (T.1+1),())))) (pu (.inr (.inl (T.1,()))))) (0,
 ())) (Sum.elim (fun yt=>pu (.inl (wi (a.1+1),()))) X8)) X8))) (nw zS2 70 fun ez=>g2 d fun fj=>rq (.agg (aS2 fj)) (.agg (aS2 e))<|A1h b fun ia=>rq (.agg (aS3 ia)) (.agg (aS3 c))<|nw zS3 45 fun
 di=>g2 d fun gi=>rq (.agg (aS2 gi)) (.agg (aS2 e))<|A1h b fun fW=>rq (.agg (aS3 fW)) (.agg (aS3 c))<|sn di (lS3 c) fun _=>g2 d fun jo=>rq (.agg (aS2 jo)) (.agg (aS2 e))<|sn ez (lS2 e) fun _=>bn (α:=Bool×
 Unit) (ji di 0 fun jH=>ji ez 0 fun jG=>ie (!(jH==jG)) (pu (true,())) (jb di 1 fun kq=>jb ez 1 fun gM=>ie (!(kq==gM)) (pu (true,())) (jb di 2 fun kP=>jb ez 2 fun iU=>ie (!(kP==iU)) (pu (true,
 ())) (ji di 3 fun lP=>ji ez 3 fun kO=>ie (!(lP==kO)) (pu (true,())) (ji di 4 fun lO=>ji ez 4 fun kN=>ie (!(lO==kN)) (pu (true,())) (jt di 5 fun kL=>jt ez 5 fun iT=>ie (!(decide (kL=iT))) (pu
 (true,())) (jt di 6 fun iS=>jt ez 6 fun kK=>ie (!(decide (iS=kK))) (pu (true,())) (ju di 7 fun oH=>ji ez 7 fun my=>ie (!((wi oH)==my)) (pu (true,())) (jc di 9 fun mw=>jc ez 9 fun oG=>ie (!((mw.len
 :Int)==(oG.len:Int))) (pu (true,())) (jc di 8 fun pG=>jc ez 8 fun pF=>ie (!((pG.len:Int)==(pF.len:Int))) (pu (true,())) (jb di 23 fun lN=>jb ez 23 fun pE=>pu (!(lN==pE),())))))))))))) fun
 pD=>ie pD.1 (pu (.inr (.inr (false,())))) (jc di 9 fun pC=>bn (α:=(Int×Unit)⊕((Int×Unit)⊕((Int×Unit)⊕(Bool×Unit)))) (HM.loop (σ:=Int×Unit) (τ:=(Int×Unit)⊕((Int×Unit)⊕((Int×Unit)⊕
 (Bool×Unit)))) (fun ko=>ie (decide (ko.1<(pC.len:Int))) (jc di 9 fun pB=>ix pB ko.1 4 fun iR=>g8 iR fun mv=>jc ez 9 fun pA=>ix pA ko.1 4 fun gh=>g8 gh fun il=>ie (!((mv.1==il.1)&&((mv.2.1==
 il.2.1)&&((decide (mv.2.2.1=il.2.2.1))&&((decide (mv.2.2.2.1=il.2.2.2.1))&&true))))) (pu (.inr (.inr (.inr (.inr (false,())))))) (pu (.inl (wi (ko.1+1),())))) (pu (.inr (.inl (ko.1,()))))) (0,()))
 (Sum.elim (fun rH=>jc di 8 fun kJ=>bn (α:=(Int×Unit)⊕((Int×Unit)⊕((Int×Unit)⊕(Bool×Unit)))) (HM.loop (σ:=Int×Unit) (τ:=(Int×Unit)⊕((Int×Unit)⊕((Int×Unit)⊕(Bool×Unit)))) (fun hZ=>ie
 (decide (hZ.1<(kJ.len:Int))) (jc di 8 fun oF=>ix oF hZ.1 1 fun pz=>lu pz fun rG=>jc ez 8 fun fX=>ix fX hZ.1 1 fun jJ=>li jJ fun jI=>ie (!((wi rG)==jI)) (pu (.inr (.inr (.inr (.inr (false,
 ())))))) (pu (.inl (wi (hZ.1+1),())))) (pu (.inr (.inl (hZ.1,()))))) (0,())) (Sum.elim (fun ik=>pu (.inl (wi (a.1+1),()))) X8)) X8)))) (pu (.inr (.inl (a.1,()))))) (0,())) (Sum.elim (fun x1=>pu
 (true,())) X8))
theorem A7e(p0:Slc)(p1:Slc):HCs 94 #[.slice p0.a p0.len p0.cap,.slice p1.a p1.len p1.cap] (A6b p0 p1) fun x=>.bool x.1:=
 cE [.one .bool] [0,1,4,5,6,7,8,9,14,16,17,18,107,110,111,112,124,128,129,130,143] [0,1,5,6,7,8,9,14,16,17,18,107,110,111,112,124,128,129,130,143] func94 ntmps94 CN
def A5Z(p0:D0p)(p1:Int):HM (Bool×Unit):=
 cp 99 #[.pointer p0,vi p1] fun a=>bn (α:=Bool×Unit) (ie (Option.isNone a) (pu (true,())) (nn a fun b=>kb (Addr.add b 0) 3 fun c=>pu (!c,()))) fun d=>ie d.1 (pu (false,())) (nn a fun e=>sx (Addr.add (Addr.add e
 0) 3) (.bool false) fun _=>nn a fun f=>kp f 4 fun g=>cx 152 #[.pointer g] fun h=>nn a fun i=>kb (Addr.add i 0) 2 fun j=>bn (α:=Unit) (ie (!j) (nn p0 fun k=>km k 1 fun l=>bn (α:=Unit) (A6q (Instr.sameNow (.int
 .i64)) l (vi p1)) fun _=>pu ()) (pu ())) fun m=>nn a fun n=>kb (Addr.add n 0) 2 fun o=>pu (!o,()))
theorem A6Z(p0:D0p)(p1:Int):HCs 95 #[.pointer p0,.int .i64 p1] (A5Z p0 p1) fun x=>.bool x.1:=
 cE [.one .bool] [0,1,4,5,18,33] [0,1,5,18,33] func95 ntmps95 (CC call99 (CC call152 CN))
def A4L(p0:D0p)(p1:yS7):HM (Unit):=
 nw (aS7 p1) 83 fun a=>g7 (az a) fun b=>cx 43 #[.pointer p0,.agg (aS7 b)] fun c=>nn p0 fun d=>kc (Addr.add d 2) 1 fun e=>g7 (az a) fun f=>nw (aS7 f) 83 fun g=>kc (Addr.add d 2) 1 fun h=>rq (vs h) (vs e)<|bn (α:=Slc)
 (HM.append 83 5 64 zS7 e 1 (W4 5 (⟨some (az g),1,1⟩))) fun i=>nn p0 fun j=>sx (Addr.add (Addr.add j 2) 1) (vs i) fun _=>pu ()
theorem A5Q(p0:D0p)(p1:yS7):HCs 96 #[.pointer p0,.agg (aS7 p1)] (A4L p0 p1) fun x=>.tuple #[]:=
 cE [] [0,1,3] [0,1,3] func96 ntmps96 (CC call43 CN)
def A7G(p0:D0p):HM ((yS9)×Bool×Unit):=
 nw zS9 79 fun a=>ie (Option.isNone p0) (sn a [vi 0,ve,.bool false,.bool false] fun _=>g9 (az a) fun b=>pu ((b.1,b.2.1,b.2.2.1,b.2.2.2.1,()),false,())) (nn p0 fun c=>g9 (Addr.add c 0) fun d=>sn a (lS9 d) fun
 _=>g9 (az a) fun e=>pu ((e.1,e.2.1,e.2.2.1,e.2.2.2.1,()),true,()))
theorem A5e(p0:D0p):HCs 97 #[.pointer p0] (A7G p0) fun x=>.tuple #[.agg (aS9 x.1),.bool x.2.1]:=
 cE [.agg tS9,.one .bool] [0,2,3,5] [0,2,5] func97 ntmps97 CN
def A6V(p0:D0p)(p1:B4p):HM (D0p×Unit):=
 bn (α:=(Unit)⊕(D0p×Unit)) (ie (!(Option.isNone p0)) (nn p0 fun a=>km a 1 fun b=>bn (α:=Nat) (B0H b) fun c=>bn (α:=(Unit)⊕((Unit)⊕(D0p×Unit))) (HM.loop (σ:=Unit) (τ:=(Unit)⊕
 ((Unit)⊕(D0p×Unit))) (fun d=>bn (α:=Option (Value×Value)) (A8G c) fun e=>A2Q e (ie false (bn (α:=Value×D0p) (A4O (.one .any) (.one .ptr) c) fun f=>nn f.2 fun g=>kt (Addr.add g 0)
 1 fun h=>ie (decide (h=p1)) (pu (.inr (.inr (.inr (f.2,()))))) (pu (.inl ()))) (pu (.inr (.inl ())))) fun(i:Value×Value)=>ie true (bn (α:=Value×D0p) (A4O (.one .any) (.one .ptr) c) fun j=>nn j.2
 fun k=>kt (Addr.add k 0) 1 fun l=>ie (decide (l=p1)) (pu (.inr (.inr (.inr (j.2,()))))) (pu (.inl ()))) (pu (.inr (.inl ())))) ()) (Sum.elim (fun m=>pu (.inl ())) X8)) (pu (.inl ()))) (Sum.elim (fun n=>pu (none,
 ())) X8)
theorem A7H(p0:D0p)(p1:B4p):HCs 98 #[.pointer p0,.string p1] (A6V p0 p1) fun x=>.pointer x.1:=
 cE [.one .ptr] [0,1,4,6,8,13,15,24] [0,1,6,8,13,15,24] func98 ntmps98 CN
def A6W(p0:D0p)(p1:Int):HM (D0p×Unit):=
 ie (Option.isNone p0) (pu (none,())) (nn p0 fun a=>km a 1 fun b=>bn (α:=D0p×Bool) (HM.lookup (Instr.sameNow (.int .i64)) (.pointer none) (.one .ptr) b (vi p1)) fun c=>pu (c.1,()))
theorem A7I(p0:D0p)(p1:Int):HCs 99 #[.pointer p0,.int .i64 p1] (A6W p0 p1) fun x=>.pointer x.1:=
 cE [.one .ptr] [0,1,4,6] [0,1,6] func99 ntmps99 CN
def A4G(p0:Slc):HM (Slc×Unit):=
 ie (Option.isNone p0.a) (pu (⟨none,0,0⟩,())) (nw #[] 162 fun a=>bn (α:=Slc) (HM.append 162 7 80 zS5 (⟨some (az a),0,0⟩) p0.len (W4 7 p0)) fun b=>pu (b,()))
theorem A5K(p0:Slc):HCs 100 #[.slice p0.a p0.len p0.cap] (A4G p0) fun x=>.slice x.1.a x.1.len x.1.cap:=
 cE [.one .slc] [0,2,4] [0,4] func100 ntmps100 CN
def A4a(p0:Slc):HM (Slc×Unit):=
 ie (Option.isNone p0.a) (pu (⟨none,0,0⟩,())) (nw #[] 83 fun a=>bn (α:=Slc) (HM.append 83 5 64 zS7 (⟨some (az a),0,0⟩) p0.len (W4 5 p0)) fun b=>pu (b,()))
theorem A5d(p0:Slc):HCs 101 #[.slice p0.a p0.len p0.cap] (A4a p0) fun x=>.slice x.1.a x.1.len x.1.cap:=
 cE [.one .slc] [0,2,4] [0,4] func101 ntmps101 CN
def B7S(p0:B4p):HM (Int×Unit):=
 bn (α:=Int×Int×Unit) (u9 prog [.one (.int .i32),.one (.int .i64)] 153 #[.string p0]) fun a=>bn (α:=Bool×Unit) (ie (a.1==0) (pu (true,())) (ie (a.1==65533) (pu (decide (a.2.1<(2:Int)),()))
 (pu (false,())))) fun b=>ie b.1 (pu (0,())) (pu (a.2.1,()))
theorem B4C(p0:B4p):HCs 102 #[.string p0] (B7S p0) fun x=>.int .i64 x.1:=
 cE [.one (.int .i64)] [0,2,3,4,19] [0,3,4,19] func102 ntmps102 (CC call153 CN)
def A6Y(p0:D0p)(p1:Int):HM (D0p×Unit):=
 cp 99 #[.pointer p0,vi p1] fun a=>ie (!(Option.isNone a)) (nn a fun b=>kp b 5 fun c=>pu (c,())) (pu (none,()))
theorem A7J(p0:D0p)(p1:Int):HCs 106 #[.pointer p0,.int .i64 p1] (A6Y p0 p1) fun x=>.pointer x.1:=
 cE [.one .ptr] [0,1,4,5,10] [0,1,5,10] func106 ntmps106 (CC call99 CN)
def A7h(p0:D0p)(p1:yS2)(p2:Int):HM (Bool×Slc×Int×Unit):=
 nw (aS3 p1) 45 fun a=>ie (Option.isNone p0) (pu (false,⟨none,0,0⟩,128,())) (bn (α:=Bool×Unit) (ji a 0 fun b=>ie (b==3) (ji a 3 fun c=>pu (c==0,())) (pu (false,()))) fun d=>bn (α:=Bool×Unit) (ji a 0
 fun e=>ie (!(e==3)) (ji a 0 fun f=>ie (!(f==6)) (pu (true,())) (ji a 0 fun g=>ie (g==3) (ji a 3 fun h=>ie (decide (h<(0:Int))) (pu (true,())) (ji a 3 fun i=>ie (decide (2<(i:Int))) (pu (true,())) (ie
 (!d.1) (ji a 4 fun j=>ie (decide (j<(1:Int))) (pu (true,())) (ji a 4 fun k=>pu (decide (65535<(k:Int)),()))) (pu (false,()))))) (ie (!d.1) (ji a 4 fun l=>ie (decide (l<(1:Int))) (pu (true,())) (ji a 4 fun
 m=>pu (decide (65535<(m:Int)),()))) (pu (false,()))))) (ji a 0 fun n=>ie (n==3) (ji a 3 fun o=>ie (decide (o<(0:Int))) (pu (true,())) (ji a 3 fun p=>ie (decide (2<(p:Int))) (pu (true,())) (ie (!d.1) (ji
 a 4 fun q=>ie (decide (q<(1:Int))) (pu (true,())) (ji a 4 fun r=>pu (decide (65535<(r:Int)),()))) (pu (false,()))))) (ie (!d.1) (ji a 4 fun s=>ie (decide (s<(1:Int))) (pu (true,())) (ji a 4 fun t=>pu
 (decide (65535<(t:Int)),()))) (pu (false,()))))) fun u=>ie u.1 (pu (false,⟨none,0,0⟩,130,())) (ie d.1 (pu (true,⟨none,0,0⟩,0,())) (bn (α:=Bool×Unit) (ji a 0 fun v=>ie (v==6) (nn p0 fun w=>kp w 0 fun
 x=>ji a 4 fun y=>cb 158 #[.pointer x,vi y] fun z=>pu (z,())) (pu (false,()))) fun A=>ie A.1 (ji a 4 fun B=>cc 159 #[vi 7,vi B,.int .u8 0] fun C=>pu (false,C,0,())) (ji a 0 fun D=>ie (D==6) (ji a 4 fun E=>cc 159
 #[vi 7,vi E,.int .u8 146] fun F=>pu (false,F,0,())) (ji a 3 fun G=>ie (G==1) (ji a 4 fun H=>cc 159 #[vi 4,vi H,.int .u8 p2] fun I=>pu (true,I,0,())) (ji a 4 fun J=>bn (α:=Bool×Slc×Int×Unit) (u9
 prog [.one .bool,.one .slc,.one (.int .u8)] 160 #[.pointer p0,vi J,.int .u8 p2]) fun K=>pu (K.1,K.2.1,K.2.2.1,())))))))
theorem A72(p0:D0p)(p1:yS2)(p2:Int):HCs 107 #[.pointer p0,.agg (aS3 p1),.int .u8 p2] (A7h p0 p1 p2) fun x=>.tuple #[.bool x.1,.slice x.2.1.a x.2.1.len x.2.1.cap,.int .u8 x.2.2.1]:=
 cE [.one .bool,.one .slc,.one (.int .u8)] [0,1,2,4,6,7,8,9,11,56,57,59,75,82] [0,1,2,4,9,11,56,57,59,75,82] func107 ntmps107 (CC call158 (CC call159 (CC call160 CN)))
def A4J(p0:D0p)(p1:yS2):HM (Slc×Int×Unit):=
 nw (aS3 p1) 45 fun a=>ie (Option.isNone p0) (pu (⟨none,0,0⟩,128,())) (bn (α:=Bool×Unit) (nn p0 fun b=>kb b 2 fun c=>ie (!c) (pu (true,())) (ji a 0 fun d=>ie (!(d==4)) (ji a 0 fun e=>ie (!(e==5)) (ji a 0 fun
 f=>pu (!(f==7),())) (pu (false,()))) (pu (false,())))) fun g=>ie g.1 (pu (⟨none,0,0⟩,130,())) (nn p0 fun h=>kc h 3 fun i=>ci 161 #[vs i,.func (.func 162) #[] #[.pointer (some (az a))]] fun j=>ie (decide (j<(0
 :Int))) (pu (⟨none,0,0⟩,146,())) (nn p0 fun k=>kc k 3 fun l=>ix l j 7 fun m=>ji a 0 fun n=>bn (α:=(Slc×Unit)⊕(Slc×Int×Unit)) (ie (n==4) (nn (some m) fun o=>ki (Addr.add o 1) 2 fun p=>ie (!(p==1)) (pu
 (.inr (⟨none,0,0⟩,130,()))) (cx 163 #[.pointer p0,vi j] fun q=>pu (.inl (⟨none,0,0⟩,())))) (bn (α:=(Slc×Unit)⊕((Slc×Unit)⊕(Slc×Int×Unit))) (ie (n==5) (nn (some m) fun r=>ki (Addr.add r 1) 2 fun
 s=>bn (α:=Bool×Unit) (ie (!(s==2)) (pu (!(s==2),())) (bn (α:=Bool×Unit) (ju a 7 fun t=>ie (decide (128≤(t:Int))) (nn (some m) fun u=>kb u 6 fun v=>pu (v,())) (pu (false,()))) fun w=>pu (w.1,()))) fun
 x=>ie x.1 (pu (.inr (.inr (⟨none,0,0⟩,130,())))) (ju a 7 fun y=>bn (α:=Slc×Unit) (ie (decide (128≤(y:Int))) (cx 163 #[.pointer p0,vi j] fun z=>pu (⟨none,0,0⟩,())) (nn (some m) fun A=>sx (Addr.add A 6)
 (.bool true) fun _=>ji a 4 fun B=>nw #[vi 6,.bool false,.bool false,vi 0,vi B,ve,ve,.int .u8 0,vz,vz,ve,.bool false,vi 0,.bool false,ve,ve,vi 0,.bool false,vz,.bool false,.bool false,ve,ve,.bool
 false,vz,vz] 45 fun C=>bn (α:=Slc) (HM.append 45 26 328 zS3 ⟨none,0,0⟩ 1 (W4 26 (⟨some (az C),1,1⟩))) fun D=>pu (D,()))) fun E=>pu (.inl (E.1,())))) (nn (some m) fun F=>kb F 6 fun G=>ie (!G) (pu (.inr (.inr
 (⟨none,0,0⟩,130,())))) (cx 163 #[.pointer p0,vi j] fun H=>pu (.inl (⟨none,0,0⟩,()))))) (Sum.elim (fun I=>pu (.inl (I.1,()))) X8))) (Sum.elim (fun J=>cc 119 #[.pointer p0,vs J.1] fun K=>pu (K,0,()))
 X8))))
theorem A5M(p0:D0p)(p1:yS2):HCs 108 #[.pointer p0,.agg (aS3 p1)] (A4J p0 p1) fun x=>.tuple #[.slice x.1.a x.1.len x.1.cap,.int .u8 x.2.1]:=
 cE [.one .slc,.one (.int .u8)] [0,1,3,4,5,6,7,8,10,30,38,46,51,55,62,66,77,93] [0,1,3,6,7,8,10,30,38,46,51,55,62,66,77,93] func108 ntmps108 (CC call161 (CC call163 (CC call119 CN)))
def B0m(p0:D0p)(p1:Int×B4p×Int×Unit):HM (Int×Unit):=
 nw #[vi p1.1,.string p1.2.1,vi p1.2.2.1] 208 fun a=>ie (Option.isNone p0) (pu (128,())) (jt a 1 fun b=>cu 35 #[.string b] fun c=>ie (!(c==0)) (pu (143,())) (bn (α:=Bool×Unit) (ji a 2 fun d=>ie (decide (d<(0
 :Int))) (pu (true,())) (ji a 2 fun e=>pu (decide (2<(e:Int)),()))) fun f=>ie f.1 (pu (155,())) (jt a 1 fun g=>cp 164 #[.pointer p0,.string g] fun h=>bn (α:=(Unit)⊕(Int×Unit)) (ie (!(Option.isNone h)) (nn h
 fun i=>km i 0 fun j=>ji a 0 fun k=>bn (α:=Int×Bool) (HM.lookup (Instr.sameNow (.int .i64)) (vi 0) (.one (.int .i64)) j (vi k)) fun l=>ie l.2 (nn h fun m=>km m 0 fun n=>ji a 0 fun o=>ji a 2 fun p=>bn (α:=Unit)
 (A3J (Instr.sameNow (.int .i64)) n (vi o) (vi p)) fun _=>pu (.inr (0,()))) (pu (.inl ()))) (pu (.inl ()))) (Sum.elim (fun q=>nn p0 fun r=>km r 1 fun s=>ji a 0 fun t=>bn (α:=Int×Bool) (HM.lookup (Instr.sameNow
 (.int .i64)) (vi 0) (.one (.int .i64)) s (vi t)) fun u=>ie (decide (64≤(u.1:Int))) (pu (151,())) (nn p0 fun v=>kp v 0 fun w=>jt a 1 fun x=>cc 36 #[.string x] fun y=>bn (α:=D0p×Int×Unit) (HM.loop (σ:=
 D0p×Int×Unit) (τ:=D0p×Int×Unit) (fun z=>ie (decide (z.2.1<(y.len:Int))) (ix y z.2.1 1 fun A=>lt A fun B=>nn z.1 fun C=>km C 1 fun D=>bn (α:=D0p×Bool) (HM.lookup (Instr.sameNow
 .string) (.pointer none) (.one .ptr) D (.string B)) fun E=>bn (α:=Unit) (ie (Option.isNone E.1) (nn z.1 fun F=>km F 1 fun G=>cp 59 #[] fun H=>km F 1 fun I=>rq (.map I) (.map G)<|bn (α:=Unit) (A3J
 (Instr.sameNow .string) G (.string B) (.pointer H)) fun _=>pu ()) (pu ())) fun J=>nn z.1 fun K=>km K 1 fun L=>bn (α:=D0p×Bool) (HM.lookup (Instr.sameNow .string) (.pointer none) (.one .ptr) L (.string B)) fun
 M=>pu (.inl (M.1,wi (z.2.1+1),()))) (pu (.inr (z.1,z.2.1,())))) (w,0,())) fun N=>nn N.1 fun O=>km O 0 fun P=>ji a 0 fun Q=>ji a 2 fun R=>bn (α:=Unit) (A3J (Instr.sameNow (.int .i64)) P (vi Q) (vi R)) fun
 _=>nn p0 fun S=>km S 1 fun T=>ji a 0 fun U=>bn (α:=Int×Bool) (HM.lookup (Instr.sameNow (.int .i64)) (vi 0) (.one (.int .i64)) T (vi U)) fun V=>bn (α:=Unit) (A3J (Instr.sameNow (.int .i64)) T (vi U) (vi (wi
 (V.1+1)))) fun _=>pu (0,()))) X8))))
theorem A9Z(p0:D0p)(p1:Int×B4p×Int×Unit):HCs 109 #[.pointer p0,.agg #[.int .i64 p1.1,.string p1.2.1,.int .i64 p1.2.2.1]] (B0m p0 p1) fun x=>.int .u8 x.1:=
 cE [.one (.int .u8)] [0,1,3,4,5,7,8,10,11,14,19,33,44,60,67,68,69,70,79] [0,1,3,5,7,8,10,11,14,19,33,44,60,67,68,69,70,79] func109 ntmps109 (CC call35 (CC call164 (CC call36 (CC call59 CN))))
def A5m(p0:D0p)(p1:B4p):HM (Slc×Unit):=
 ie (Option.isNone p0) (pu (⟨none,0,0⟩,())) (nn p0 fun a=>km a 1 fun b=>bn (α:=Value) (A1C prog (.one .any) 165 #[.map b]) fun c=>cc 84 #[c] fun d=>bn (α:=Slc×Int×Unit) (HM.loop (σ:=Slc×Int×
 Unit) (τ:=Slc×Int×Unit) (fun e=>ie (decide (e.2.1<(d.len:Int))) (ix d e.2.1 1 fun f=>lt f fun g=>cb 14 #[.string p1,.string g] fun h=>bn (α:=Slc×Unit) (ie h (nn p0 fun i=>km i 1 fun j=>bn (α:=(B4p
 ×B4p×Int×Unit)×Bool) (HM.lookup (Instr.sameNow .string) (.agg #[ve,ve,vi 0]) (.agg [.str,.str,.int .i64]) j (.string g)) fun k=>nw #[.string k.1.1,.string k.1.2.1,vi k.1.2.2.1] 204 fun l=>bn (α:=Slc)
 (HM.append 204 3 40 #[ve,ve,vi 0] e.1 1 (W4 3 (⟨some (az l),1,1⟩))) fun m=>pu (m,())) (pu (e.1,()))) fun n=>pu (.inl (n.1,wi (e.2.1+1),()))) (pu (.inr (e.1,e.2.1,())))) (⟨none,0,0⟩,0,())) fun o=>pu
 (o.1,()))
theorem A6u(p0:D0p)(p1:B4p):HCs 110 #[.pointer p0,.string p1] (A5m p0 p1) fun x=>.slice x.1.a x.1.len x.1.cap:=
 cE [.one .slc] [0,1,4,5,7,9,15,16,17,18,23] [0,1,5,7,9,15,16,17,18,23] func110 ntmps110 (CC call165 (CC call84 (CC call14 CN)))
def A6O(p0:D0p)(p1:Int)(p2:B4p):HM (Bool×Unit):=
 ie (Option.isNone p0) (pu (false,())) (cp 164 #[.pointer p0,.string p2] fun a=>ie (Option.isNone a) (pu (false,())) (nn a fun b=>km b 0 fun c=>bn (α:=Int×Bool) (HM.lookup (Instr.sameNow (.int .i64)) (vi 0) (.one
 (.int .i64)) c (vi p1)) fun d=>ie (!d.2) (pu (false,())) (nn p0 fun e=>kp e 0 fun f=>cc 36 #[.string p2] fun g=>kp e 0 fun h=>rq (.pointer h) (.pointer f)<|cb 166 #[.pointer f,vi p1,vs g] fun i=>nn p0 fun j=>km j 1
 fun k=>bn (α:=Int×Bool) (HM.lookup (Instr.sameNow (.int .i64)) (vi 0) (.one (.int .i64)) k (vi p1)) fun l=>bn (α:=Unit) (A3J (Instr.sameNow (.int .i64)) k (vi p1) (vi (wi (l.1-1)))) fun _=>nn p0 fun m=>km m
 1 fun n=>bn (α:=Int×Bool) (HM.lookup (Instr.sameNow (.int .i64)) (vi 0) (.one (.int .i64)) n (vi p1)) fun o=>bn (α:=Unit) (ie (o.1==0) (nn p0 fun p=>km p 1 fun q=>bn (α:=Unit) (A6q (Instr.sameNow (.int
 .i64)) q (vi p1)) fun _=>pu ()) (pu ())) fun r=>pu (true,()))))
theorem A7y(p0:D0p)(p1:Int)(p2:B4p):HCs 111 #[.pointer p0,.int .i64 p1,.string p2] (A6O p0 p1 p2) fun x=>.bool x.1:=
 cE [.one .bool] [0,1,2,6,7,9,11,16,27,49] [0,1,2,7,9,11,16,27,49] func111 ntmps111 (CC call164 (CC call36 (CC call166 CN)))
def B4h(p0:Int):HM (D0p×Unit):=
 cp 167 #[vi 64] fun a=>ci 117 #[vi p0] fun b=>nw #[.pointer a,vi b,.bool false,vz,vz] 239 fun c=>pu (some (az c),())
theorem B19(p0:Int):HCs 112 #[.int .i64 p0] (B4h p0) fun x=>.pointer x.1:=
 cE [.one .ptr] [0,2] [0] func112 ntmps112 (CC call167 (CC call117 CN))
def B6l(p0:Int):HM (D0p×Unit):=
 cp 167 #[vi p0] fun a=>nw #[.pointer a] 292 fun b=>pu (some (az b),())
theorem B3z(p0:Int):HCs 113 #[.int .i64 p0] (B6l p0) fun x=>.pointer x.1:=
 cE [.one .ptr] [0,2] [0] func113 ntmps113 (CC call167 CN)
def A2w(p0:Slc)(p1:Value):HM (Int×Unit):=
 bn (α:=(Int×Unit)⊕(Int×Unit)) (HM.loop (σ:=Int×Unit) (τ:=(Int×Unit)⊕(Int×Unit)) (fun a=>ie (decide (a.1<(p0.len:Int))) (ix p0 a.1 4 fun b=>g8 b fun c=>bn (α:=Bool) (B8T prog (.one
 .bool) p1 #[.agg (aS8 c)]) fun d=>ie d (pu (.inr (.inr (a.1,())))) (pu (.inl (wi (a.1+1),())))) (pu (.inr (.inl (a.1,()))))) (0,())) (Sum.elim (fun e=>pu ((-1),())) X8)
theorem A3B(p0:Slc)(p1:Value):HCs 114 #[.slice p0.a p0.len p0.cap,p1] (A2w p0 p1) fun x=>.int .i64 x.1:=
 cE [.one (.int .i64)] [0,1,4,5,7,8,9,16] [0,1,5,7,8,9,16] func114 ntmps114 CN
def B15(p0:yS8)(p1:Addr):HM (Bool×Unit):=
 nw (aS8 p0) 106 fun a=>ji a 0 fun b=>li p1 fun c=>pu (b==c,())
theorem B05(p0:yS8)(p1:Addr):HCs 115 #[.agg (aS8 p0),.pointer (some p1)] (B15 p0 p1) fun x=>.bool x.1:=
 cE [.one .bool] [0,1,2,3] [0,1,2] func115 ntmps115 CN
def B0l(p0:D0p)(p1:Int):HM (Slc×Unit):=
 nw #[vi p1] 3 fun a=>ie (Option.isNone p0) (pu (⟨none,0,0⟩,())) (nw #[vz] 205 fun b=>nn p0 fun c=>kp c 0 fun d=>cx 82 #[.pointer d,vz,.func (.func 168) #[] #[.pointer (some (az a)),.pointer (some (az b))]] fun
 e=>lc (az b) fun f=>cx 126 #[vs f,.func (.func 127) #[] #[]] fun g=>lc (az b) fun h=>pu (h,()))
theorem A9Y(p0:D0p)(p1:Int):HCs 116 #[.pointer p0,.int .i64 p1] (B0l p0 p1) fun x=>.slice x.1.a x.1.len x.1.cap:=
 cE [.one .slc] [0,1,3,4,5,7] [0,1,3,5,7] func116 ntmps116 (CC call82 (CC call126 CN))
def A8y(p0:Int):HM (Int×Unit):=
 pu (if 1<((if 64<(p0:Int) then 64 else p0):Int) then(if 64<(p0:Int) then 64 else p0) else 1,())
theorem A3D(p0:Int):HCs 117 #[.int .i64 p0] (A8y p0) fun x=>.int .i64 x.1:=
 cE [.one (.int .i64)] [0,2] [0] func117 ntmps117 CN
def A3n(p0:yS7)(p1:Int)(p2:Bool):HM ((yS2)×Unit):=
 nw (aS7 p0) 83 fun a=>nw zS3 45 fun b=>ji a 2 fun c=>jb a 3 fun d=>jt a 0 fun e=>jt a 1 fun f=>nw zS3 45 fun g=>sn g [vi 3,.bool p2,.bool d,vi c,vi p1,.string e,.string f,.int .u8 0,vz,vz,ve,.bool false,vi
 0,.bool false,ve,ve,vi 0,.bool false,vz,.bool false,.bool false,ve,ve,.bool false,vz,vz] fun _=>jt a 4 fun h=>bn (α:=Unit) (ie (!(decide (h=es))) (jt a 4 fun i=>nw #[vi 38,vi 0,.string (ByteArray.mk
 #[116,97,103]),.string i] 106 fun j=>sw g 9 (.slice (some (az j)) 1 1) fun _=>pu ()) (pu ())) fun k=>A1h (az g) fun l=>sn b (lS3 l) fun _=>A1h (az b) fun m=>pu ((m.1,m.2.1,m.2.2.1,m.2.2.2.1,m.2.2.2.2.1,(w5 m),
 (w6 m),(w7 m),(w8 m),(w9 m),(w10 m),(w11 m),(w12 m),(w13 m),(w14 m),(w15 m),(w16 m),(w17 m),(w18 m),(w19 m),(w20 m),(w21 m),(w22 m),(w23 m),(w24 m),(w25 m),()),())
theorem A4B(p0:yS7)(p1:Int)(p2:Bool):HCs 118 #[.agg (aS7 p0),.int .i64 p1,.bool p2] (A3n p0 p1 p2) fun x=>.agg (aS3 x.1):=
 cE [.agg tS3] [0,1,2,3,6,7,21] [0,1,2,3,6,7,21] func118 ntmps118 CN
def A54(p0:D0p)(p1:Slc):HM (Slc×Unit):=
 bn (α:=Slc×Unit) (HM.loop (σ:=Slc×Unit) (τ:=Slc×Unit) (fun a=>bn (α:=Bool×Unit) (nn p0 fun b=>kb b 2 fun c=>ie c (nn p0 fun d=>kc d 4 fun e=>pu (decide (0<(e.len:Int)),())) (pu (false,()))) fun
 f=>ie f.1 (nn p0 fun g=>kc g 4 fun h=>ix h 0 5 fun i=>g7 i fun j=>nw zS7 83 fun k=>sn k (lS7 j) fun _=>bn (α:=Bool×Unit) (ji k 2 fun l=>ie (decide (0<(l:Int))) (nn p0 fun m=>kc m 3 fun n=>nn p0 fun o=>ki o 1 fun
 p=>pu (decide (p≤(n.len:Int)),())) (pu (false,()))) fun q=>ie q.1 (pu (.inr (a.1,()))) (nn p0 fun r=>kc r 4 fun s=>bn (α:=Slc) (HM.slice s (some 1) none none 5) fun t=>nn p0 fun u=>sx (Addr.add u 4) (vs t) fun
 _=>ji k 2 fun v=>bn (α:=Int×Unit) (ie (decide (0<(v:Int))) (nn p0 fun w=>kp w 0 fun x=>bn (α:=Int×Int×Unit) (u9 prog [.one (.int .i64),.one (.int .u8)] 169 #[.pointer x]) fun y=>nn p0 fun z=>kc
 z 3 fun A=>g7 (az k) fun B=>nw #[vi y.1,.string B.1,.string B.2.1,vi B.2.2.1,.bool B.2.2.2.1,.string B.2.2.2.2.1,.bool false] 162 fun C=>kc z 3 fun D=>rq (vs D) (vs A)<|bn (α:=Slc) (HM.append 162 7 80 zS5 A 1
 (W4 7 (⟨some (az C),1,1⟩))) fun E=>nn p0 fun F=>sx (Addr.add F 3) (vs E) fun _=>pu (y.1,())) (pu (0,()))) fun G=>g7 (az k) fun H=>bn (α:=yS2) (A1C prog (.agg tS3) 118 #[.agg (aS7 H),vi G.1,.bool
 false]) fun I=>nw (aS3 I) 45 fun J=>bn (α:=Slc) (HM.append 45 26 328 zS3 a.1 1 (W4 26 (⟨some (az J),1,1⟩))) fun K=>pu (.inl (K,())))) (pu (.inr (a.1,())))) (p1,())) fun L=>pu (L.1,())
theorem A67(p0:D0p)(p1:Slc):HCs 119 #[.pointer p0,.slice p1.a p1.len p1.cap] (A54 p0 p1) fun x=>.slice x.1.a x.1.len x.1.cap:=
 cE [.one .slc] [0,1,4,5,6,18,39,50] [0,1,5,6,18,39,50] func119 ntmps119 (CC call169 (CC call118 CN))
def A5T(p0:D0p)(p1:Slc)(p2:Slc)(p3:Bool)(p4:Slc):HM (Slc×Unit):=
 ie (Option.isNone p0) (pu (p4,())) (cc 128 #[vs p1] fun a=>nn p0 fun b=>km b 1 fun c=>bn (α:=D0p×Bool) (HM.lookup (Instr.sameNow .string) (.pointer none) (.one .ptr) c (.string (ByteArray.mk #[35]))) fun
 d=>bn (α:=Bool×Unit) (ie (!(Option.isNone d.1)) (pu (!p3,())) (pu (false,()))) fun e=>bn (α:=Slc×Unit) (ie e.1 (nw #[.string (ByteArray.mk #[35])] 9 fun f=>bn (α:=Slc) (HM.append 9 1 16 #[ve] a 1 (W4 1
 (⟨some (az f),1,1⟩))) fun g=>cc 129 #[.pointer d.1,vs g,vs p4] fun h=>pu (h,())) (pu (p4,()))) fun i=>ie ((p2.len:Int)==0) (cc 129 #[.pointer p0,vs a,vs i.1] fun j=>pu (j,())) (bn (α:=Slc×Unit) (ie (!p3)
 (nn p0 fun k=>km k 1 fun l=>bn (α:=D0p×Bool) (HM.lookup (Instr.sameNow .string) (.pointer none) (.one .ptr) l (.string (ByteArray.mk #[43]))) fun m=>bn (α:=Slc) (HM.slice p2 (some 1) none none 1) fun n=>nw
 #[.string (ByteArray.mk #[43])] 9 fun o=>bn (α:=D0p×Bool) (HM.lookup (Instr.sameNow .string) (.pointer none) (.one .ptr) l (.string (ByteArray.mk #[43]))) fun p=>rq (.pointer p.1) (.pointer m.1)<|km k 1 fun
 q=>rq (.map q) (.map l)<|bn (α:=Slc) (HM.append 9 1 16 #[ve] a 1 (W4 1 (⟨some (az o),1,1⟩))) fun r=>bn (α:=D0p×Bool) (HM.lookup (Instr.sameNow .string) (.pointer none) (.one .ptr) l (.string
 (ByteArray.mk #[43]))) fun s=>rq (.pointer s.1) (.pointer m.1)<|km k 1 fun t=>rq (.map t) (.map l)<|cc 125 #[.pointer m.1,vs r,vs n,.bool false,vs i.1] fun u=>pu (u,())) (pu (i.1,()))) fun v=>nn p0 fun w=>km w 1
 fun x=>ix p2 0 1 fun y=>lt y fun z=>bn (α:=D0p×Bool) (HM.lookup (Instr.sameNow .string) (.pointer none) (.one .ptr) x (.string z)) fun A=>ix p2 0 1 fun B=>lt B fun C=>bn (α:=Slc) (HM.slice p2 (some 1) none
 none 1) fun D=>nw #[.string C] 9 fun E=>bn (α:=D0p×Bool) (HM.lookup (Instr.sameNow .string) (.pointer none) (.one .ptr) x (.string z)) fun F=>rq (.pointer F.1) (.pointer A.1)<|lt y fun G=>rq (.string G)
 (.string z)<|km w 1 fun H=>rq (.map H) (.map x)<|bn (α:=Slc) (HM.append 9 1 16 #[ve] a 1 (W4 1 (⟨some (az E),1,1⟩))) fun I=>bn (α:=D0p×Bool) (HM.lookup (Instr.sameNow .string) (.pointer none) (.one
 .ptr) x (.string z)) fun J=>rq (.pointer J.1) (.pointer A.1)<|lt y fun K=>rq (.string K) (.string z)<|km w 1 fun L=>rq (.map L) (.map x)<|cc 125 #[.pointer A.1,vs I,vs D,.bool false,vs v.1] fun M=>pu (M,())))
theorem A6N(p0:D0p)(p1:Slc)(p2:Slc)(p3:Bool)(p4:Slc):HCs 125 #[.pointer p0,.slice p1.a p1.len p1.cap,.slice p2.a p2.len p2.cap,.bool p3,.slice p4.a p4.len p4.cap] (A5T p0 p1 p2 p3 p4) fun x=>.slice x.1.a x.1.len x.1.cap:=
 cE [.one .slc] [0,1,2,3,4,10,11,13,27,36,42] [0,1,2,3,4,11,13,27,36,42] func125 ntmps125 (CC call128 (CC call129 (CC call125 CN)))
def B3Y(p0:Slc):HM (Slc×Unit):=
 bn (α:=Slc) (HM.slice p0 none (some (p0.len:Int)) (some (p0.len:Int)) 1) fun a=>pu (a,())
theorem B1B(p0:Slc):HCs 128 #[.slice p0.a p0.len p0.cap] (B3Y p0) fun x=>.slice x.1.a x.1.len x.1.cap:=
 cE [.one .slc] [0,2] [0] func128 ntmps128 CN
def A6M(p0:D0p)(p1:Slc)(p2:Slc):HM (Slc×Unit):=
 nn p0 fun a=>km a 0 fun b=>bn (α:=Nat) (B0H b) fun c=>bn (α:=Slc×Unit) (HM.loop (σ:=Slc×Unit) (τ:=Slc×Unit) (fun d=>bn (α:=Option (Value×Value)) (A8G c) fun e=>A2Q e (ie false (bn (α:=
 Int×Int) (A4O (.one (.int .i64)) (.one (.int .i64)) c) fun f=>ct 186 #[vs p1] fun g=>nw #[vi f.1,.string g,vi f.2] 208 fun h=>bn (α:=Slc) (HM.append 208 3 32 #[vi 0,ve,vi 0] d.1 1 (W4 3 (⟨some (az h),
 1,1⟩))) fun i=>pu (.inl (i,()))) (pu (.inr (d.1,())))) fun(j:Value×Value)=>ie true (bn (α:=Int×Int) (A4O (.one (.int .i64)) (.one (.int .i64)) c) fun k=>ct 186 #[vs p1] fun l=>nw #[vi k.1,.string l,vi
 k.2] 208 fun m=>bn (α:=Slc) (HM.append 208 3 32 #[vi 0,ve,vi 0] d.1 1 (W4 3 (⟨some (az m),1,1⟩))) fun n=>pu (.inl (n,()))) (pu (.inr (d.1,())))) (p2,())) fun o=>pu (o.1,())
theorem A7x(p0:D0p)(p1:Slc)(p2:Slc):HCs 129 #[.pointer p0,.slice p1.a p1.len p1.cap,.slice p2.a p2.len p2.cap] (A6M p0 p1 p2) fun x=>.slice x.1.a x.1.len x.1.cap:=
 cE [.one .slc] [0,1,2,6,7,8,13,15] [0,1,2,7,8,13,15] func129 ntmps129 (CC call186 CN)
def B76(p0:D0p)(p1:Int):HM (Bool×Unit):=
 cp 90 #[.pointer p0,vi p1] fun a=>ie (Option.isNone a) (pu (false,())) (nn a fun b=>kb b 3 fun c=>ie (!c) (pu (false,())) (nn a fun d=>sx (Addr.add d 3) (.bool false) fun _=>nn a fun e=>kp e 4 fun f=>nn f fun g=>sx
 (Addr.add g 2) (.bool false) fun _=>nn a fun h=>kb h 2 fun i=>ie (!i) (cx 189 #[.pointer p0,vi p1] fun j=>pu (true,())) (pu (false,()))))
theorem B4K(p0:D0p)(p1:Int):HCs 133 #[.pointer p0,.int .i64 p1] (B76 p0 p1) fun x=>.bool x.1:=
 cE [.one .bool] [0,1,4,5,10,15,29] [0,1,5,10,15,29] func133 ntmps133 (CC call90 (CC call189 CN))
def B5P(p0:D0p)(p1:Int):HM (Int×Unit):=
 bn (α:=Slc×Int×Unit) (HM.loop (σ:=Slc×Int×Unit) (τ:=Slc×Int×Unit) (fun a=>nn p0 fun b=>kc b 0 fun c=>ie (decide (a.2.1<(c.len:Int))) (nn p0 fun d=>kc d 0 fun e=>ix e a.2.1 3 fun f=>ki f 0 fun g=>bn
 (α:=Slc×Unit) (ie (!(g==p1)) (nn p0 fun h=>kc h 0 fun i=>ix i a.2.1 3 fun j=>bn (α:=Int×B4p×Int×Unit) (o9 [.int .i64,.str,.int .i64] j) fun k=>nw #[vi k.1,.string k.2.1,vi k.2.2.1] 232 fun
 l=>bn (α:=Slc) (HM.append 232 3 32 #[vi 0,ve,vi 0] a.1 1 (W4 3 (⟨some (az l),1,1⟩))) fun m=>pu (m,())) (pu (a.1,()))) fun n=>pu (.inl (n.1,wi (a.2.1+1),()))) (pu (.inr (a.1,a.2.1,())))) (⟨none,0,0⟩,
 0,())) fun o=>nn p0 fun p=>kc p 0 fun q=>nn p0 fun r=>sx (Addr.add r 0) (vs o.1) fun _=>pu (wi ((q.len:Int)-(o.1.len:Int)),())
theorem B3j(p0:D0p)(p1:Int):HCs 134 #[.pointer p0,.int .i64 p1] (B5P p0 p1) fun x=>.int .i64 x.1:=
 cE [.one (.int .i64)] [0,1,4,5,6,7,14,26] [0,1,5,6,7,14,26] func134 ntmps134 CN
def B0p(p0:D0p)(p1:yS7):HM (Unit):=
 nw (aS7 p1) 143 fun a=>g7 (az a) fun b=>cx 88 #[.pointer p0,.agg (aS7 b)] fun c=>nn p0 fun d=>kc d 6 fun e=>g7 (az a) fun f=>nw (aS7 f) 143 fun g=>kc d 6 fun h=>rq (vs h) (vs e)<|bn (α:=Slc) (HM.append 143 5 64 zS7
 e 1 (W4 5 (⟨some (az g),1,1⟩))) fun i=>nn p0 fun j=>sx (Addr.add j 6) (vs i) fun _=>pu ()
theorem A92(p0:D0p)(p1:yS7):HCs 135 #[.pointer p0,.agg (aS7 p1)] (B0p p0 p1) fun x=>.tuple #[]:=
 cE [] [0,1,3] [0,1,3] func135 ntmps135 (CC call88 CN)
def B77(p0:D0p)(p1:B4p×B4p×Int×Unit):HM (Int×Unit):=
 nw #[.string p1.1,.string p1.2.1,vi p1.2.2.1] 274 fun a=>jt a 0 fun b=>ci 190 #[.string b] fun c=>ie (!(c==0)) (pu (144,())) (bn (α:=Bool×Unit) (ji a 2 fun d=>ie (decide (d<(0:Int))) (pu (true,())) (ji a 2
 fun e=>pu (decide (2<(e:Int)),()))) fun f=>ie f.1 (pu (155,())) (nn p0 fun g=>kc g 1 fun h=>jt a 0 fun i=>cc 191 #[vs h,.string i] fun j=>jt a 1 fun k=>ie (((ByteArray.size k:Nat):Int)==0) (nn p0 fun l=>sx
 (Addr.add l 1) (vs j) fun _=>pu (0,())) (bn (α:=Bool×Unit) (nn p0 fun m=>kc m 1 fun n=>ie ((j.len:Int)==(n.len:Int)) (nn p0 fun o=>ki o 0 fun p=>pu (decide (p≤(j.len:Int)),())) (pu (false,()))) fun q=>ie
 q.1 (pu (151,())) (bn (α:=Bool×Slc×Int×Unit) (HM.loop (σ:=Bool×Slc×Int×Unit) (τ:=Bool×Slc×Int×Unit) (fun r=>ie (decide (r.2.2.1<(j.len:Int))) (bn (α:=Bool×Unit) (ie (!r.1) (jt a 0 fun
 s=>ix j r.2.2.1 3 fun t=>kt t 0 fun u=>pu (Op.bytesLess s.toList u.toList,())) (pu (false,()))) fun v=>bn (α:=Slc×Bool×Unit) (ie v.1 (bn (α:=B4p×B4p×Int×Unit) (o9 [.str,.str,.int .i64]
 (az a)) fun w=>nw #[.string w.1,.string w.2.1,vi w.2.2.1] 274 fun x=>bn (α:=Slc) (HM.append 274 3 40 #[ve,ve,vi 0] r.2.1 1 (W4 3 (⟨some (az x),1,1⟩))) fun y=>pu (y,true,())) (pu (r.2.1,r.1,()))) fun z=>ix
 j r.2.2.1 3 fun A=>bn (α:=B4p×B4p×Int×Unit) (o9 [.str,.str,.int .i64] A) fun B=>nw #[.string B.1,.string B.2.1,vi B.2.2.1] 274 fun C=>bn (α:=Slc) (HM.append 274 3 40 #[ve,ve,vi 0] z.1 1
 (W4 3 (⟨some (az C),1,1⟩))) fun D=>pu (.inl (z.2.1,D,wi (r.2.2.1+1),()))) (pu (.inr (r.1,r.2.1,r.2.2.1,())))) (false,⟨none,0,0⟩,0,())) fun E=>bn (α:=Slc×Unit) (ie (!E.1) (bn (α:=B4p×
 B4p×Int×Unit) (o9 [.str,.str,.int .i64] (az a)) fun F=>nw #[.string F.1,.string F.2.1,vi F.2.2.1] 274 fun G=>bn (α:=Slc) (HM.append 274 3 40 #[ve,ve,vi 0] E.2.1 1 (W4 3 (⟨some (az G),1,1⟩)))
 fun H=>pu (H,())) (pu (E.2.1,()))) fun I=>nn p0 fun J=>sx (Addr.add J 1) (vs I.1) fun _=>pu (0,())))))
theorem B4L(p0:D0p)(p1:B4p×B4p×Int×Unit):HCs 136 #[.pointer p0,.agg #[.string p1.1,.string p1.2.1,.int .i64 p1.2.2.1]] (B77 p0 p1) fun x=>.int .i64 x.1:=
 cE [.one (.int .i64)] [0,1,3,4,5,6,7,8,9,14,22,33,54,58,72,85] [0,1,3,5,6,7,8,9,14,22,33,54,58,72,85] func136 ntmps136 (CC call190 (CC call191 CN))
def B4a(p0:D0p)(p1:B4p):HM (Slc×Unit):=
 bn (α:=Slc×Int×Unit) (HM.loop (σ:=Slc×Int×Unit) (τ:=Slc×Int×Unit) (fun a=>nn p0 fun b=>kc b 0 fun c=>ie (decide (a.2.1<(c.len:Int))) (nn p0 fun d=>kc d 0 fun e=>ix e a.2.1 3 fun f=>kt f 1 fun g=>cb
 192 #[.string g,.string p1] fun h=>bn (α:=Slc×Unit) (ie h (nn p0 fun i=>kc i 0 fun j=>ix j a.2.1 3 fun k=>bn (α:=Int×B4p×Int×Unit) (o9 [.int .i64,.str,.int .i64] k) fun l=>nw #[vi l.1,.string
 l.2.1,vi l.2.2.1] 232 fun m=>bn (α:=Slc) (HM.append 232 3 32 #[vi 0,ve,vi 0] a.1 1 (W4 3 (⟨some (az m),1,1⟩))) fun n=>pu (n,())) (pu (a.1,()))) fun o=>pu (.inl (o.1,wi (a.2.1+1),()))) (pu (.inr (a.1,
 a.2.1,())))) (⟨none,0,0⟩,0,())) fun p=>pu (p.1,())
theorem B1U(p0:D0p)(p1:B4p):HCs 137 #[.pointer p0,.string p1] (B4a p0 p1) fun x=>.slice x.1.a x.1.len x.1.cap:=
 cE [.one .slc] [0,1,4,5,6,7,14,27] [0,1,5,6,7,14,27] func137 ntmps137 (CC call192 CN)
def B5C(p0:Int)(p1:Int):HM (Int×Unit):=
 ie (decide (p0<(p1:Int))) (pu (p0,())) (pu (p1,()))
theorem B27(p0:Int)(p1:Int):HCs 138 #[.int .i64 p0,.int .i64 p1] (B5C p0 p1) fun x=>.int .i64 x.1:=
 cE [.one (.int .i64)] [0,1,4,7] [0,1,7] func138 ntmps138 CN
def B5L(p0:D0p)(p1:yS7):HM (Slc×Int×Unit):=
 nw (aS7 p1) 143 fun a=>bn (α:=Bool×Unit) (ji a 2 fun b=>ie (decide (b<(0:Int))) (pu (true,())) (ji a 2 fun c=>pu (decide (2<(c:Int)),()))) fun d=>ie d.1 (pu (⟨none,0,0⟩,155,())) (bn (α:=Bool×Unit)
 (ji a 2 fun e=>ie (e==0) (nn p0 fun f=>kb f 2 fun g=>pu (!g,())) (pu (false,()))) fun h=>ie h.1 (pu (⟨none,0,0⟩,0,())) (nn p0 fun i=>kc i 4 fun j=>ie (decide (256≤(j.len:Int))) (pu (⟨none,0,0⟩,151,()))
 (nn p0 fun k=>kc k 4 fun l=>g7 (az a) fun m=>nw (aS7 m) 143 fun n=>kc k 4 fun o=>rq (vs o) (vs l)<|bn (α:=Slc) (HM.append 143 5 64 zS7 l 1 (W4 5 (⟨some (az n),1,1⟩))) fun p=>nn p0 fun q=>sx (Addr.add q 4) (vs p)
 fun _=>cc 193 #[.pointer p0,vz] fun r=>pu (r,0,()))))
theorem B3g(p0:D0p)(p1:yS7):HCs 139 #[.pointer p0,.agg (aS7 p1)] (B5L p0 p1) fun x=>.tuple #[.slice x.1.a x.1.len x.1.cap,.int .i64 x.2.1]:=
 cE [.one .slc,.one (.int .i64)] [0,1,3,4,5,6,14,24,30] [0,1,3,6,14,24,30] func139 ntmps139 (CC call193 CN)
def B0o(p0:D0p)(p1:Int)(p2:Slc):HM (Unit):=
 bn (α:=Int×Unit) (HM.loop (σ:=Int×Unit) (τ:=Int×Unit) (fun a=>nn p0 fun b=>kc b 3 fun c=>ie (decide (a.1<(c.len:Int))) (bn (α:=Unit) (nn p0 fun d=>kc d 3 fun e=>ix e a.1 8 fun f=>ki f 1 fun g=>ie (!(g
 ==p1)) (pu ()) (bn (α:=Int×Unit) (HM.loop (σ:=Int×Unit) (τ:=Int×Unit) (fun h=>ie (decide (h.1<(p2.len:Int))) (nn p0 fun i=>kc i 3 fun j=>ix j a.1 8 fun k=>ki k 0 fun l=>ix p2 h.1 26 fun m=>g2 m fun n=>cx
 146 #[.pointer p0,vi l,.agg (aS2 n)] fun o=>pu (.inl (wi (h.1+1),()))) (pu (.inr (h.1,())))) (0,())) fun p=>pu ())) fun q=>pu (.inl (wi (a.1+1),()))) (pu (.inr (a.1,())))) (0,())) fun r=>pu ()
theorem A91(p0:D0p)(p1:Int)(p2:Slc):HCs 140 #[.pointer p0,.int .i64 p1,.slice p2.a p2.len p2.cap] (B0o p0 p1 p2) fun x=>.tuple #[]:=
 cE [] [0,1,2,6,7,14,26,30] [0,1,2,6,7,14,26,30] func140 ntmps140 (CC call146 CN)
def B5A(p0:D0p)(p1:Int)(p2:D0p)(p3:yS2):HM (Unit):=
 nw (aS2 p3) 70 fun a=>jt a 5 fun b=>ci 190 #[.string b] fun c=>bn (α:=Bool×Unit) (ji a 0 fun d=>ie (d==3) (pu (!(c==0),())) (pu (false,()))) fun e=>ie e.1 (cx 143 #[.pointer p0,vi p1,vi 144] fun f=>pu ())
 (nn p0 fun g=>kb g 4 fun h=>bn (α:=Int×Unit) (ie h (pu (151,())) (pu (0,()))) fun i=>nn p2 fun j=>kp j 5 fun k=>g2 (az a) fun l=>bn (α:=Bool×Slc×Int×Unit) (u9 prog [.one .bool,.one .slc,.one
 (.int .i64)] 194 #[.pointer k,.agg (aS2 l),vi i.1]) fun m=>ie (!(m.2.2.1==0)) (cx 143 #[.pointer p0,vi p1,vi m.2.2.1] fun n=>pu ()) (nn p2 fun o=>ki o 0 fun p=>cx 140 #[.pointer p0,vi p,vs m.2.1] fun q=>bn (α:=
 Bool×Unit) (ie m.1 (nn p0 fun r=>kb r 4 fun s=>pu (!s,())) (pu (false,()))) fun t=>bn (α:=Unit) (ie t.1 (jt a 5 fun u=>jt a 6 fun v=>ji a 3 fun w=>jb a 2 fun x=>cx 135 #[.pointer p0,.agg #[.string u,.string v,vi
 w,.bool x,ve]] fun y=>pu ()) (pu ())) fun z=>pu ()))
theorem B25(p0:D0p)(p1:Int)(p2:D0p)(p3:yS2):HCs 141 #[.pointer p0,.int .i64 p1,.pointer p2,.agg (aS2 p3)] (B5A p0 p1 p2 p3) fun x=>.tuple #[]:=
 cE [] [0,1,2,3,7,8,9,10,11,12,22,29,42,61] [0,1,2,3,7,8,9,10,11,12,22,29,42,61] func141 ntmps141 (CC call190 (CC call143 (CC call194 (CC call140 (CC call135 CN)))))
def B1Q(p0:D0p)(p1:yS2):HM (Slc×Int×Unit):=
 nw (aS2 p1) 70 fun a=>ji a 0 fun b=>ji a 0 fun c=>ji a 0 fun d=>bn (α:=Bool×Unit) (nn p0 fun e=>kb e 2 fun f=>ie (!f) (pu (true,())) (ie (!(b==4)) (ie (!(c==5)) (pu (!(d==7),())) (pu (false,()))) (pu
 (false,())))) fun g=>ie g.1 (pu (⟨none,0,0⟩,130,())) (bn (α:=Int×Int×Unit) (HM.loop (σ:=Int×Int×Unit) (τ:=Int×Int×Unit) (fun h=>nn p0 fun i=>kc i 3 fun j=>ie (decide (h.2.1<(j.len:Int))) (nn p0
 fun k=>kc k 3 fun l=>ix l h.2.1 7 fun m=>ki m 0 fun n=>ji a 4 fun o=>bn (α:=Int×Unit) (ie (n==o) (pu (h.2.1,())) (pu (h.1,()))) fun p=>pu (.inl (p.1,wi (h.2.1+1),()))) (pu (.inr (h.1,h.2.1,())))) ((-1),0,
 ())) fun q=>ie (decide (q.1<(0:Int))) (pu (⟨none,0,0⟩,146,())) (nn p0 fun r=>kc r 3 fun s=>ix s q.1 7 fun t=>g5 t fun u=>nw zS5 160 fun v=>sn v (lS5 u) fun _=>bn (α:=Bool×Unit) (ie (b==4) (ki (ad v 1) 2 fun
 w=>pu (!(w==1),())) (pu (false,()))) fun x=>ie x.1 (pu (⟨none,0,0⟩,130,())) (bn (α:=Bool×Unit) (ie (c==5) (ki (ad v 1) 2 fun y=>pu (!(y==2),())) (ie (d==7) (ki (ad v 1) 2 fun z=>pu (!(z==2),())) (pu
 (false,())))) fun A=>ie A.1 (pu (⟨none,0,0⟩,130,())) (bn (α:=Bool×Unit) (ie (c==5) (ji a 7 fun B=>ie (decide (128≤(B:Int))) (jb v 6 fun C=>pu (C,())) (pu (false,()))) (pu (false,()))) fun D=>ie D.1 (pu
 (⟨none,0,0⟩,130,())) (bn (α:=Bool×Unit) (ie (d==7) (jb v 6 fun E=>pu (!E,())) (pu (false,()))) fun F=>ie F.1 (pu (⟨none,0,0⟩,130,())) (bn (α:=Bool×Unit) (ie (c==5) (ji a 7 fun G=>pu (decide (G<
 (128:Int)),())) (pu (false,()))) fun H=>bn (α:=Slc×Unit) (ie H.1 (nn p0 fun I=>kc I 3 fun J=>ix J q.1 7 fun K=>sx (Addr.add K 6) (.bool true) fun _=>ji a 4 fun L=>nw #[vi 6,.bool false,.bool false,vi 0,vi L,
 ve,ve,vi 0,vz,vz,ve,.bool false,vi 0,.bool false,ve,ve,vi 0,.bool false,vz,.bool false,.bool false,ve,ve,.bool false,vz,vz] 70 fun M=>bn (α:=Slc) (HM.append 70 26 328 zS2 ⟨none,0,0⟩ 1 (W4 26
 (⟨some (az M),1,1⟩))) fun N=>pu (N,())) (cx 195 #[.pointer p0,vi q.1] fun O=>pu (⟨none,0,0⟩,()))) fun P=>cc 193 #[.pointer p0,vs P.1] fun Q=>pu (Q,0,())))))))
theorem B02(p0:D0p)(p1:yS2):HCs 142 #[.pointer p0,.agg (aS2 p1)] (B1Q p0 p1) fun x=>.tuple #[.slice x.1.a x.1.len x.1.cap,.int .i64 x.2.1]:=
 cE [.one .slc,.one (.int .i64)] [0,1,3,4,5,6,7,8,9,10,11,12,38,45,58,61,75,85,95,101,107] [0,1,3,6,7,8,9,10,11,12,38,45,58,61,75,85,95,101,107] func142 ntmps142 (CC call195 (CC call193 CN))
def B1G(p0:D0p)(p1:Int)(p2:Int):HM (Unit):=
 cx 93 #[.pointer p0,vi p1,.agg #[vi 14,.bool false,.bool false,vi 0,vi 0,ve,ve,vi p2,vz,vz,ve,.bool false,vi 0,.bool false,ve,ve,vi 0,.bool false,vz,.bool false,.bool false,ve,ve,.bool false,
 vz,vz]] fun a=>cx 87 #[.pointer p0,vi p1,.bool true] fun b=>pu ()
theorem B0Y(p0:D0p)(p1:Int)(p2:Int):HCs 143 #[.pointer p0,.int .i64 p1,.int .i64 p2] (B1G p0 p1 p2) fun x=>.tuple #[]:=
 cE [] [0,1,2] [0,1,2] func143 ntmps143 (CC call93 (CC call87 CN))
def A8w(p0:D0p)(p1:Int)(p2:D0p)(p3:yS2):HM (Unit):=
 nw (aS2 p3) 70 fun a=>ji a 4 fun b=>nw zS2 70 fun c=>sn c [vi 9,.bool false,.bool false,vi 0,vi b,ve,ve,vi 0,vz,vz,ve,.bool false,vi 0,.bool false,ve,ve,vi 0,.bool false,vz,.bool false,.bool false,
 ve,ve,.bool false,vz,vz] fun _=>bn (α:=Int×Unit) (HM.loop (σ:=Int×Unit) (τ:=Int×Unit) (fun d=>jc a 24 fun e=>ie (decide (d.1<(e.len:Int))) (jc a 24 fun f=>ix f d.1 5 fun g=>g6 g fun h=>nw zS6 120 fun
 i=>sn i (lS6 h) fun _=>nn p0 fun j=>kp j 1 fun k=>nn p2 fun l=>ki l 0 fun m=>jt i 0 fun n=>ji i 1 fun o=>ci 196 #[.pointer k,.agg #[vi m,.string n,vi o]] fun p=>bn (α:=Int×Unit) (ie (p==0) (ji i 1 fun q=>pu (q,
 ())) (pu (p,()))) fun r=>jc c 8 fun s=>nw #[vi r.1] 3 fun t=>bn (α:=Slc) (HM.append 3 1 8 #[vi 0] s 1 (W4 1 (⟨some (az t),1,1⟩))) fun u=>sw c 8 (vs u) fun _=>pu (.inl (wi (d.1+1),()))) (pu (.inr (d.1,()))))
 (0,())) fun v=>g2 (az c) fun w=>cx 146 #[.pointer p0,vi p1,.agg (aS2 w)] fun x=>bn (α:=Int×Unit) (HM.loop (σ:=Int×Unit) (τ:=Int×Unit) (fun y=>jc a 24 fun z=>ie (decide (y.1<(z.len:Int))) (bn (α:=
 Unit) (jc a 24 fun A=>ix A y.1 5 fun B=>g6 B fun C=>nw zS6 120 fun D=>sn D (lS6 C) fun _=>bn (α:=Bool×Unit) (jc c 8 fun E=>ix E y.1 1 fun F=>li F fun G=>ie (decide (128≤(G:Int))) (pu (true,())) (ji D 4 fun H=>pu
 (H==2,()))) fun I=>ie I.1 (pu ()) (nn p0 fun J=>kp J 2 fun K=>jt D 0 fun L=>cc 197 #[.pointer K,.string L] fun M=>bn (α:=Int×Unit) (HM.loop (σ:=Int×Unit) (τ:=Int×Unit) (fun N=>ie (decide (N.1<(M.len:
 Int))) (ix M N.1 3 fun O=>ki O 2 fun P=>ji D 1 fun Q=>ci 138 #[vi P,vi Q] fun R=>nn p2 fun S=>kp S 4 fun T=>ix M N.1 3 fun U=>kt U 0 fun V=>ix M N.1 3 fun W=>kt W 1 fun X=>bn (α:=Slc×Int×Unit) (u9 prog
 [.one .slc,.one (.int .i64)] 139 #[.pointer T,.agg #[.string V,.string X,vi R,.bool true,ve]]) fun Y=>nn p2 fun Z=>ki Z 0 fun fj=>cx 140 #[.pointer p0,vi fj,vs Y.1] fun ia=>pu (.inl (wi (N.1+1),()))) (pu
 (.inr (N.1,())))) (0,())) fun yw=>pu ())) fun rJ=>pu (.inl (wi (y.1+1),()))) (pu (.inr (y.1,())))) (0,())) fun lQ=>pu ()
theorem A8M(p0:D0p)(p1:Int)(p2:D0p)(p3:yS2):HCs 144 #[.pointer p0,.int .i64 p1,.pointer p2,.agg (aS2 p3)] (A8w p0 p1 p2 p3) fun x=>.tuple #[]:=
 cE [] [0,1,2,3,7,8,9,10,11,12,13,14,15,16,17,26,49,66,84,95] [0,1,2,3,7,8,9,10,11,12,13,14,15,16,17,26,49,66,84,95] func144 ntmps144 (CC call196 (CC call146 (CC call197 (CC call138 (CC call139 (CC call140 CN))))))
def A50(p0:D0p)(p1:Int)(p2:D0p)(p3:yS2):HM (Unit):=
 nw (aS2 p3) 70 fun a=>ji a 4 fun b=>nw zS2 70 fun c=>sn c [vi 11,.bool false,.bool false,vi 0,vi b,ve,ve,vi 0,vz,vz,ve,.bool false,vi 0,.bool false,ve,ve,vi 0,.bool false,vz,.bool false,.bool false,
 ve,ve,.bool false,vz,vz] fun _=>bn (α:=Int×Unit) (HM.loop (σ:=Int×Unit) (τ:=Int×Unit) (fun d=>jc a 25 fun e=>ie (decide (d.1<(e.len:Int))) (nn p0 fun f=>kp f 1 fun g=>nn p2 fun h=>ki h 0 fun i=>jc a
 25 fun j=>ix j d.1 1 fun k=>lt k fun l=>cb 198 #[.pointer g,vi i,.string l] fun m=>bn (α:=Int×Unit) (ie m (pu (0,())) (pu (17,()))) fun n=>jc c 8 fun o=>nw #[vi n.1] 3 fun p=>bn (α:=Slc) (HM.append 3 1 8 #[vi
 0] o 1 (W4 1 (⟨some (az p),1,1⟩))) fun q=>sw c 8 (vs q) fun _=>pu (.inl (wi (d.1+1),()))) (pu (.inr (d.1,())))) (0,())) fun r=>g2 (az c) fun s=>cx 146 #[.pointer p0,vi p1,.agg (aS2 s)] fun t=>pu ()
theorem A62(p0:D0p)(p1:Int)(p2:D0p)(p3:yS2):HCs 145 #[.pointer p0,.int .i64 p1,.pointer p2,.agg (aS2 p3)] (A50 p0 p1 p2 p3) fun x=>.tuple #[]:=
 cE [] [0,1,2,3,7,8,9,10,11,19,36] [0,1,2,3,7,8,9,10,11,19,36] func145 ntmps145 (CC call198 (CC call146 CN))
def B0X(p0:D0p)(p1:Int)(p2:yS2):HM (Unit):=
 nw (aS2 p2) 70 fun a=>nn p0 fun b=>kc b 5 fun c=>g2 (az a) fun d=>nw #[vi p1,vi d.1,.bool d.2.1,.bool d.2.2.1,vi d.2.2.2.1,vi d.2.2.2.2.1,.string (w5 d),.string (w6 d),vi (w7 d),vs (w8 d),vs (w9 d),.string
 (w10 d),.bool (w11 d),vi (w12 d),.bool (w13 d),.string (w14 d),.string (w15 d),vi (w16 d),.bool (w17 d),vs (w18 d),.bool (w19 d),.bool (w20 d),.string (w21 d),.string (w22 d),.bool (w23 d),vs (w24 d),vs
 (w25 d),.bool false] 229 fun e=>kc b 5 fun f=>rq (vs f) (vs c)<|bn (α:=Slc) (HM.append 229 28 344 #[vi 0,vi 0,.bool false,.bool false,vi 0,vi 0,ve,ve,vi 0,vz,vz,ve,.bool false,vi 0,.bool false,ve,ve,
 vi 0,.bool false,vz,.bool false,.bool false,ve,ve,.bool false,vz,vz,.bool false] c 1 (W4 28 (⟨some (az e),1,1⟩))) fun g=>nn p0 fun h=>sx (Addr.add h 5) (vs g) fun _=>pu ()
theorem A63(p0:D0p)(p1:Int)(p2:yS2):HCs 146 #[.pointer p0,.int .i64 p1,.agg (aS2 p2)] (B0X p0 p1 p2) fun x=>.tuple #[]:=
 cE [] [0,1,2,5] [0,1,2,5] func146 ntmps146 CN
def B1I(p0:D0p)(p1:yS2):HM (Int×Unit):=
 nw (aS2 p1) 70 fun a=>kt (ad a 14) 0 fun b=>ci 190 #[.string b] fun c=>bn (α:=Bool×Unit) (jb a 13 fun d=>ie d (pu (!(c==0),())) (pu (false,()))) fun e=>ie e.1 (pu (144,())) (nn p0 fun f=>kc f 3 fun g=>ie
 (decide (64≤(g.len:Int))) (pu (151,())) (nw #[vi 0,vz] 131 fun h=>jt a 10 fun i=>bn (α:=Int×Bool×Int×Unit) (u9 prog [.one (.int .i64),.one .bool,.one (.int .i64)] 150 #[.pointer (some (az h)),
 .string i,.bool false,.bool false]) fun j=>ie (!(j.2.2.1==0)) (pu (133,())) (nn p0 fun k=>kp k 0 fun l=>jt a 10 fun m=>cp 148 #[.pointer l,.string m] fun n=>bn (α:=Bool×Unit) (ie (Option.isNone n) (nn p0 fun
 o=>kp o 0 fun p=>nn p fun q=>kc q 1 fun r=>pu (decide (32≤(r.len:Int)),())) (pu (false,()))) fun s=>ie s.1 (pu (151,())) (pu (0,())))))
theorem B0Z(p0:D0p)(p1:yS2):HCs 147 #[.pointer p0,.agg (aS2 p1)] (B1I p0 p1) fun x=>.int .i64 x.1:=
 cE [.one (.int .i64)] [0,1,3,4,5,6,9,10,20,26,38,58] [0,1,3,5,6,9,10,20,26,38,58] func147 ntmps147 (CC call190 (CC call150 (CC call148 CN)))
def B5H(p0:D0p)(p1:B4p):HM (D0p×Unit):=
 bn (α:=(Int×Unit)⊕(D0p×Unit)) (HM.loop (σ:=Int×Unit) (τ:=(Int×Unit)⊕(D0p×Unit)) (fun a=>nn p0 fun b=>kc b 1 fun c=>ie (decide (a.1<(c.len:Int))) (nn p0 fun d=>kc d 1 fun e=>ix e
 a.1 1 fun f=>lp f fun g=>nn g fun h=>kt h 1 fun i=>ie (decide (i=p1)) (nn p0 fun j=>kc j 1 fun k=>ix k a.1 1 fun l=>lp l fun m=>pu (.inr (.inr (m,())))) (pu (.inl (wi (a.1+1),())))) (pu (.inr (.inl (a.1,())))))
 (0,())) (Sum.elim (fun n=>pu (none,())) X8)
theorem B3c(p0:D0p)(p1:B4p):HCs 148 #[.pointer p0,.string p1] (B5H p0 p1) fun x=>.pointer x.1:=
 cE [.one .ptr] [0,1,4,5,12,26] [0,1,5,12,26] func148 ntmps148 CN
def B5Q(p0:Slc)(p1:Int):HM ((yS8)×Bool×Unit):=
 nw zS8 194 fun a=>bn (α:=(Int×Unit)⊕((yS8)×Bool×Unit)) (HM.loop (σ:=Int×Unit) (τ:=(Int×Unit)⊕((yS8)×Bool×Unit)) (fun b=>ie (decide (b.1<(p0.len:Int))) (ix p0 b.1 4 fun c=>ki c 0 fun d=>ie (d
 ==p1) (ix p0 b.1 4 fun e=>g8 e fun f=>sn a (lS8 f) fun _=>g8 (az a) fun g=>pu (.inr (.inr ((g.1,g.2.1,g.2.2.1,g.2.2.2.1,()),true,())))) (pu (.inl (wi (b.1+1),())))) (pu (.inr (.inl (b.1,()))))) (0,()))
 (Sum.elim (fun h=>sn a [vi 0,vi 0,ve,ve] fun _=>g8 (az a) fun i=>pu ((i.1,i.2.1,i.2.2.1,i.2.2.2.1,()),false,())) X8)
theorem B3k(p0:Slc)(p1:Int):HCs 149 #[.slice p0.a p0.len p0.cap,.int .i64 p1] (B5Q p0 p1) fun x=>.tuple #[.agg (aS8 x.1),.bool x.2.1]:=
 cE [.agg tS8,.one .bool] [0,1,4,5,6,10,19] [0,1,4,6,10,19] func149 ntmps149 CN
def B34(p0:D0p)(p1:B4p)(p2:Bool)(p3:Bool):HM (Int×Bool×Int×Unit):=
 bn (α:=Int×Bool×Unit) (u9 prog [.one (.int .i64),.one .bool] 199 #[.string p1]) fun a=>bn (α:=Bool×Unit) (ie a.2.1 (pu (true,())) (ie (((ByteArray.size p1:Nat):Int)==0) (pu (true,())) (pu
 (decide (64<(((ByteArray.size p1:Nat):Int):Int)),())))) fun b=>ie b.1 (pu (0,false,133,())) (cp 148 #[.pointer p0,.string p1] fun c=>bn (α:=Bool×Unit) (ie (!(Option.isNone c)) (pu (!p2,())) (pu (false,
 ()))) fun d=>ie d.1 (nn c fun e=>sx (Addr.add e 3) (.bool true) fun _=>nn c fun f=>sx (Addr.add f 2) (.bool p3) fun _=>nn c fun g=>ki g 0 fun h=>pu (h,true,0,())) (bn (α:=(Unit)⊕(Int×Bool×Int×Unit)) (ie
 (!(Option.isNone c)) (nn c fun i=>ki i 0 fun j=>cx 189 #[.pointer p0,vi j] fun k=>pu (.inl ())) (nn p0 fun l=>kc l 1 fun m=>ie (decide (32≤(m.len:Int))) (pu (.inr (0,false,151,()))) (pu (.inl ())))) (Sum.elim
 (fun n=>nn p0 fun o=>ki o 0 fun p=>nn p0 fun q=>sx (Addr.add q 0) (vi (wi (p+1))) fun _=>cp 200 #[vi 64] fun r=>cp 201 #[vi 64] fun s=>nn p0 fun t=>kc t 1 fun u=>nn p0 fun v=>ki v 0 fun w=>nw #[vi w,.string p1,.bool
 p3,.bool true,.pointer r,.pointer s] 154 fun x=>kc t 1 fun y=>rq (vs y) (vs u)<|nw #[.pointer (some (az x))] 150 fun z=>kc t 1 fun A=>rq (vs A) (vs u)<|bn (α:=Slc) (HM.append 150 1 8 #[.pointer none] u 1 (W4 1
 (⟨some (az z),1,1⟩))) fun B=>nn p0 fun C=>sx (Addr.add C 1) (vs B) fun _=>nn p0 fun D=>ki D 0 fun E=>pu (E,false,0,())) X8)))
theorem B1L(p0:D0p)(p1:B4p)(p2:Bool)(p3:Bool):HCs 150 #[.pointer p0,.string p1,.bool p2,.bool p3] (B34 p0 p1 p2 p3) fun x=>.tuple #[.int .i64 x.1,.bool x.2.1,.int .i64 x.2.2.1]:=
 cE [.one (.int .i64),.one .bool,.one (.int .i64)] [0,1,2,3,8,9,10,12,13,14,15,31,40,53,65] [0,1,2,3,12,13,14,15,31,40,53,65] func150 ntmps150 (CC call199 (CC call148 (CC call189 (CC call200 (CC call201 CN)))))
def B37(p0:D0p)(p1:Int):HM (Slc×Unit):=
 nn p0 fun a=>sx (Addr.add a 2) (.bool true) fun _=>ci 202 #[vi p1] fun b=>nn p0 fun c=>sx (Addr.add c 1) (vi b) fun _=>bn (α:=Slc×Int×Unit) (HM.loop (σ:=Slc×Int×Unit) (τ:=Slc×Int×Unit) (fun d=>nn p0
 fun e=>kc e 3 fun f=>ie (decide (d.2.1<(f.len:Int))) (bn (α:=Slc×Unit) (nn p0 fun g=>kc g 3 fun h=>ix h d.2.1 7 fun i=>g5 i fun j=>nw zS5 160 fun k=>sn k (lS5 j) fun _=>jb k 6 fun l=>ie l (ji k 0 fun m=>nw #[vi
 6,.bool false,.bool false,vi 0,vi m,ve,ve,vi 0,vz,vz,ve,.bool false,vi 0,.bool false,ve,ve,vi 0,.bool false,vz,.bool false,.bool false,ve,ve,.bool false,vz,vz] 70 fun n=>bn (α:=Slc) (HM.append
 70 26 328 zS2 d.1 1 (W4 26 (⟨some (az n),1,1⟩))) fun o=>pu (o,())) (g7 (ad k 1) fun p=>ji k 0 fun q=>bn (α:=yS2) (A1C prog (.agg tS2) 203 #[.agg (aS7 p),vi q,.bool true]) fun r=>nw zS2 70 fun s=>sn s
 (lS2 r) fun _=>g2 (az s) fun t=>nw (aS2 t) 70 fun u=>bn (α:=Slc) (HM.append 70 26 328 zS2 d.1 1 (W4 26 (⟨some (az u),1,1⟩))) fun v=>pu (v,()))) fun w=>pu (.inl (w.1,wi (d.2.1+1),()))) (pu (.inr (d.1,d.2.1,
 ())))) (⟨none,0,0⟩,0,())) fun x=>cc 193 #[.pointer p0,vs x.1] fun y=>pu (y,())
theorem B1P(p0:D0p)(p1:Int):HCs 151 #[.pointer p0,.int .i64 p1] (B37 p0 p1) fun x=>.slice x.1.a x.1.len x.1.cap:=
 cE [.one .slc] [0,1,4,5,6,7,8,23,34] [0,1,5,6,7,8,23,34] func151 ntmps151 (CC call202 (CC call203 (CC call193 CN)))
def A69(p0:D0p):HM (Unit):=
 bn (α:=Unit) (ie (!(Option.isNone p0)) (nn p0 fun a=>sx (Addr.add a 2) (.bool false) fun _=>pu ()) (pu ())) fun b=>pu ()
theorem A7M(p0:D0p):HCs 152 #[.pointer p0] (A69 p0) fun x=>.tuple #[]:=
 cE [] [0,3] [0,3] func152 ntmps152 CN
def B0D(p0:D0p)(p1:Int):HM (Bool×Unit):=
 bn (α:=Bool×Unit) (ie (Option.isNone p0) (pu (true,())) (nn p0 fun a=>km a 2 fun b=>bn (α:=Bool×Bool) (HM.lookup (Instr.sameNow (.int .i64)) (.bool false) (.one .bool) b (vi p1)) fun c=>pu (!c.1,()))) fun
 d=>ie d.1 (pu (false,())) (nn p0 fun e=>km e 2 fun f=>bn (α:=Unit) (A6q (Instr.sameNow (.int .i64)) f (vi p1)) fun _=>pu (true,()))
theorem B0g(p0:D0p)(p1:Int):HCs 158 #[.pointer p0,.int .i64 p1] (B0D p0 p1) fun x=>.bool x.1:=
 cE [.one .bool] [0,1,4,15] [0,1,15] func158 ntmps158 CN
def B0z(p0:Int)(p1:Int)(p2:Int):HM (Slc×Unit):=
 nw #[vi p0,.bool false,.bool false,vi 0,vi p1,ve,ve,.int .u8 p2,vz,vz,ve,.bool false,vi 0,.bool false,ve,ve,vi 0,.bool false,vz,.bool false,.bool false,ve,ve,.bool false,vz,vz] 45 fun a=>cc 207
 #[.slice (some (az a)) 1 1] fun b=>pu (b,())
theorem B0c(p0:Int)(p1:Int)(p2:Int):HCs 159 #[.int .i64 p0,.int .i64 p1,.int .u8 p2] (B0z p0 p1 p2) fun x=>.slice x.1.a x.1.len x.1.cap:=
 cE [.one .slc] [0,1,2,6] [0,1,2] func159 ntmps159 (CC call207 CN)
def A8B(p0:D0p)(p1:Int)(p2:Int):HM (Bool×Slc×Int×Unit):=
 cb 208 #[.pointer p0,vi p1] fun a=>ie a (cc 159 #[vi 5,vi p1,.int .u8 0] fun b=>pu (false,b,0,())) (nn p0 fun c=>kp c 0 fun d=>ci 209 #[.pointer d] fun e=>ie (e==0) (pu (false,⟨none,0,0⟩,147,())) (bn (α:=
 Unit) (ie (decide (p2<(128:Int))) (nn p0 fun f=>kp f 0 fun g=>cu 210 #[.pointer g,vi p1] fun h=>pu ()) (pu ())) fun i=>cc 159 #[vi 5,vi p1,.int .u8 p2] fun j=>pu (true,j,0,())))
theorem A8P(p0:D0p)(p1:Int)(p2:Int):HCs 160 #[.pointer p0,.int .i64 p1,.int .u8 p2] (A8B p0 p1 p2) fun x=>.tuple #[.bool x.1,.slice x.2.1.a x.2.1.len x.2.1.cap,.int .u8 x.2.2.1]:=
 cE [.one .bool,.one .slc,.one (.int .u8)] [0,1,2,6,7,8,9,15,23] [0,1,2,9,15,23] func160 ntmps160 (CC call208 (CC call159 (CC call209 (CC call210 CN))))
def A2T(p0:Slc)(p1:Value):HM (Int×Unit):=
 bn (α:=(Int×Unit)⊕(Int×Unit)) (HM.loop (σ:=Int×Unit) (τ:=(Int×Unit)⊕(Int×Unit)) (fun a=>ie (decide (a.1<(p0.len:Int))) (ix p0 a.1 7 fun b=>g5 b fun c=>bn (α:=Bool) (B8T prog (.one
 .bool) p1 #[.agg (aS5 c)]) fun d=>ie d (pu (.inr (.inr (a.1,())))) (pu (.inl (wi (a.1+1),())))) (pu (.inr (.inl (a.1,()))))) (0,())) (Sum.elim (fun e=>pu ((-1),())) X8)
theorem A39(p0:Slc)(p1:Value):HCs 161 #[.slice p0.a p0.len p0.cap,p1] (A2T p0 p1) fun x=>.int .i64 x.1:=
 cE [.one (.int .i64)] [0,1,4,5,7,8,9,16] [0,1,5,7,8,9,16] func161 ntmps161 CN
def A3o(p0:yS5)(p1:Addr):HM (Bool×Unit):=
 nw (aS5 p0) 162 fun a=>ji a 0 fun b=>ki p1 4 fun c=>pu (b==c,())
theorem A4C(p0:yS5)(p1:Addr):HCs 162 #[.agg (aS5 p0),.pointer (some p1)] (A3o p0 p1) fun x=>.bool x.1:=
 cE [.one .bool] [0,1,2,3] [0,1,2] func162 ntmps162 CN
def A53(p0:D0p)(p1:Int):HM (Unit):=
 nn p0 fun a=>kp a 0 fun b=>nn p0 fun c=>kc c 3 fun d=>ix d p1 7 fun e=>ki e 0 fun f=>cb 158 #[.pointer b,vi f] fun g=>nn p0 fun h=>kc h 3 fun i=>cc 211 #[vs i,vi p1,vi (wi (p1+1))] fun j=>nn p0 fun k=>sx (Addr.add
 k 3) (vs j) fun _=>pu ()
theorem A66(p0:D0p)(p1:Int):HCs 163 #[.pointer p0,.int .i64 p1] (A53 p0 p1) fun x=>.tuple #[]:=
 cE [] [0,1] [0,1] func163 ntmps163 (CC call158 (CC call211 CN))
def A8V(p0:D0p)(p1:B4p):HM (D0p×Unit):=
 nn p0 fun a=>kp a 0 fun b=>cc 36 #[.string p1] fun c=>bn (α:=(D0p×Int×Unit)⊕(D0p×Unit)) (HM.loop (σ:=D0p×Int×Unit) (τ:=(D0p×Int×Unit)⊕(D0p×Unit)) (fun
 d=>ie (decide (d.2.1<(c.len:Int))) (ix c d.2.1 1 fun e=>lt e fun f=>nn d.1 fun g=>km g 1 fun h=>bn (α:=D0p×Bool) (HM.lookup (Instr.sameNow .string) (.pointer none) (.one .ptr) h (.string f)) fun i=>ie
 (Option.isNone i.1) (pu (.inr (.inr (none,())))) (pu (.inl (i.1,wi (d.2.1+1),())))) (pu (.inr (.inl (d.1,d.2.1,()))))) (b,0,())) (Sum.elim (fun j=>pu (j.1,())) X8)
theorem A8U(p0:D0p)(p1:B4p):HCs 164 #[.pointer p0,.string p1] (A8V p0 p1) fun x=>.pointer x.1:=
 cE [.one .ptr] [0,1,4,5,7,13,14,15,16,26] [0,1,5,7,13,14,15,16,26] func164 ntmps164 (CC call36 CN)
def A3e(p0:D0p)(p1:Int)(p2:Slc):HM (Bool×Unit):=
 bn (α:=Unit) (ie ((p2.len:Int)==0) (nn p0 fun a=>km a 0 fun b=>bn (α:=Unit) (A6q (Instr.sameNow (.int .i64)) b (vi p1)) fun _=>pu ()) (nn p0 fun c=>km c 1 fun d=>ix p2 0 1 fun e=>lt e fun f=>bn (α:=
 D0p×Bool) (HM.lookup (Instr.sameNow .string) (.pointer none) (.one .ptr) d (.string f)) fun g=>bn (α:=Bool×Unit) (ie (!(Option.isNone g.1)) (bn (α:=Slc) (HM.slice p2 (some 1) none none 1) fun h=>cb 166
 #[.pointer g.1,vi p1,vs h] fun i=>pu (i,())) (pu (false,()))) fun j=>bn (α:=Unit) (ie j.1 (nn p0 fun k=>km k 1 fun l=>ix p2 0 1 fun m=>lt m fun n=>bn (α:=Unit) (A6q (Instr.sameNow .string) l (.string n))
 fun _=>pu ()) (pu ())) fun o=>pu ())) fun p=>bn (α:=Bool×Unit) (nn p0 fun q=>km q 0 fun r=>bn (α:=Int) (A7u r) fun s=>ie (s==0) (nn p0 fun t=>km t 1 fun u=>bn (α:=Int) (A7u u) fun v=>pu (v==0,
 ())) (pu (false,()))) fun w=>pu (w.1,())
theorem A2R(p0:D0p)(p1:Int)(p2:Slc):HCs 166 #[.pointer p0,.int .i64 p1,.slice p2.a p2.len p2.cap] (A3e p0 p1 p2) fun x=>.bool x.1:=
 cE [.one .bool] [0,1,2,6,7,10,32] [0,1,2,7,10,32] func166 ntmps166 (CC call166 CN)
def C3M(p0:Int):HM (D0p×Unit):=
 bn (α:=Nat) (HM.new (.map #[] 0)) fun a=>nw #[vi (if 1<((if 64<(p0:Int) then 64 else p0):Int) then(if 64<(p0:Int) then 64 else p0) else 1),vi 0,.map (some a)] 338 fun b=>pu (some (az b),())
theorem B7D(p0:Int):HCs 167 #[.int .i64 p0] (C3M p0) fun x=>.pointer x.1:=
 cE [.one .ptr] [0,2] [0] func167 ntmps167 CN
def A6P(p0:Int×B4p×Int×Unit)(p1:Addr)(p2:Addr):HM (Unit):=
 nw #[vi p0.1,.string p0.2.1,vi p0.2.2.1] 208 fun a=>ji a 0 fun b=>li p1 fun c=>bn (α:=Unit) (ie (b==c) (lc p2 fun d=>bn (α:=Int×B4p×Int×Unit) (o9 [.int .i64,.str,.int .i64] (az a)) fun e=>nw
 #[vi e.1,.string e.2.1,vi e.2.2.1] 208 fun f=>bn (α:=Slc) (HM.append 208 3 32 #[vi 0,ve,vi 0] d 1 (W4 3 (⟨some (az f),1,1⟩))) fun g=>sx p2 (vs g) fun _=>pu ()) (pu ())) fun h=>pu ()
theorem A7z(p0:Int×B4p×Int×Unit)(p1:Addr)(p2:Addr):HCs 168 #[.agg #[.int .i64 p0.1,.string p0.2.1,.int .i64 p0.2.2.1],.pointer (some p1),.pointer (some p2)] (A6P p0 p1 p2) fun x=>.tuple #[]:=
 cE [] [0,1,2,3,7] [0,1,2,3,7] func168 ntmps168 CN
def B0B(p0:D0p):HM (Int×Int×Unit):=
 ie (Option.isNone p0) (pu (0,128,())) (ci 209 #[.pointer p0] fun a=>ie (a==0) (pu (0,147,())) (bn (α:=Unit) (HM.loop (σ:=Unit) (τ:=Unit) (fun b=>nn p0 fun c=>ki c 1 fun d=>A3z (65535≠(0:Int))<|nn p0
 fun e=>sx (Addr.add e 1) (vi (wi ((Int.tmod d 65535)+1))) fun _=>nn p0 fun f=>km f 2 fun g=>nn p0 fun h=>ki h 1 fun i=>bn (α:=Bool×Bool) (HM.lookup (Instr.sameNow (.int .i64)) (.bool false) (.one .bool) g (vi i))
 fun j=>ie (!j.1) (pu (.inr ())) (pu (.inl ()))) ()) fun k=>nn p0 fun l=>km l 2 fun m=>nn p0 fun n=>ki n 1 fun o=>bn (α:=Unit) (A3J (Instr.sameNow (.int .i64)) m (vi o) (.bool true)) fun _=>nn p0 fun p=>ki p 1 fun
 q=>pu (q,0,())))
theorem B0e(p0:D0p):HCs 169 #[.pointer p0] (B0B p0) fun x=>.tuple #[.int .i64 x.1,.int .u8 x.2.1]:=
 cE [.one (.int .i64),.one (.int .u8)] [0,2,3,4,7,29] [0,4,7,29] func169 ntmps169 (CC call209 CN)
def B5j(p0:Slc):HM (B4p×Unit):=
 ct 228 #[vs p0,.string (ByteArray.mk #[47])] fun a=>pu (a,())
theorem B2V(p0:Slc):HCs 186 #[.slice p0.a p0.len p0.cap] (B5j p0) fun x=>.string x.1:=
 cE [.one .str] [0,2] [0] func186 ntmps186 (CC call228 CN)
def B5G(p0:D0p)(p1:Int):HM (Unit):=
 bn (α:=Slc×Int×Unit) (HM.loop (σ:=Slc×Int×Unit) (τ:=Slc×Int×Unit) (fun a=>nn p0 fun b=>kc b 1 fun c=>ie (decide (a.2.1<(c.len:Int))) (nn p0 fun d=>kc d 1 fun e=>ix e a.2.1 1 fun f=>lp f fun g=>nn g
 fun h=>ki h 0 fun i=>bn (α:=Slc×Unit) (ie (!(i==p1)) (nn p0 fun j=>kc j 1 fun k=>ix k a.2.1 1 fun l=>lp l fun m=>nw #[.pointer m] 150 fun n=>bn (α:=Slc) (HM.append 150 1 8 #[.pointer none] a.1 1 (W4 1 (⟨some
 (az n),1,1⟩))) fun o=>pu (o,())) (pu (a.1,()))) fun p=>pu (.inl (p.1,wi (a.2.1+1),()))) (pu (.inr (a.1,a.2.1,())))) (⟨none,0,0⟩,0,())) fun q=>nn p0 fun r=>sx (Addr.add r 1) (vs q.1) fun _=>pu ()
theorem B3b(p0:D0p)(p1:Int):HCs 189 #[.pointer p0,.int .i64 p1] (B5G p0 p1) fun x=>.tuple #[]:=
 cE [] [0,1,4,5,12,26] [0,1,4,5,12,26] func189 ntmps189 CN
def A8x(p0:B4p):HM (Int×Unit):=
 cb 238 #[.string p0] fun a=>cb 239 #[.string p0,.int .u8 43] fun b=>cb 239 #[.string p0,.int .u8 35] fun c=>bn (α:=Bool×Unit) (ie (!a) (pu (true,())) (ie b (pu (true,())) (pu (c,())))) fun d=>ie d.1 (pu (144,
 ())) (pu (0,()))
theorem A8N(p0:B4p):HCs 190 #[.string p0] (A8x p0) fun x=>.int .i64 x.1:=
 cE [.one (.int .i64)] [0,2,3,4,5,19] [0,3,4,5,19] func190 ntmps190 (CC call238 (CC call239 CN))
def B0t(p0:Slc)(p1:B4p):HM (Slc×Unit):=
 bn (α:=Slc×Int×Unit) (HM.loop (σ:=Slc×Int×Unit) (τ:=Slc×Int×Unit) (fun a=>ie (decide (a.2.1<(p0.len:Int))) (ix p0 a.2.1 3 fun b=>kt b 0 fun c=>bn (α:=Slc×Unit) (ie (!(decide (c=p1))) (ix p0
 a.2.1 3 fun d=>bn (α:=B4p×B4p×Int×Unit) (o9 [.str,.str,.int .i64] d) fun e=>nw #[.string e.1,.string e.2.1,vi e.2.2.1] 274 fun f=>bn (α:=Slc) (HM.append 274 3 40 #[ve,ve,vi 0] a.1 1
 (W4 3 (⟨some (az f),1,1⟩))) fun g=>pu (g,())) (pu (a.1,()))) fun h=>pu (.inl (h.1,wi (a.2.1+1),()))) (pu (.inr (a.1,a.2.1,())))) (⟨none,0,0⟩,0,())) fun i=>pu (i.1,())
theorem A96(p0:Slc)(p1:B4p):HCs 191 #[.slice p0.a p0.len p0.cap,.string p1] (B0t p0 p1) fun x=>.slice x.1.a x.1.len x.1.cap:=
 cE [.one .slc] [0,1,4,5,6,10,19] [0,1,5,6,10,19] func191 ntmps191 CN
def B4c(p0:B4p)(p1:B4p):HM (Bool×Unit):=
 ci 240 #[.string p0] fun a=>ci 190 #[.string p1] fun b=>bn (α:=Bool×Unit) (ie (!(a==0)) (pu (true,())) (pu (!(b==0),()))) fun c=>ie c.1 (pu (false,())) (bn (α:=Bool×Unit) (bn (α:=Int) (A5I p1 0)
 fun d=>ie (d==36) (bn (α:=Int) (A5I p0 0) fun e=>ie (e==43) (pu (true,())) (bn (α:=Int) (A5I p0 0) fun f=>pu (f==35,()))) (pu (false,()))) fun g=>ie g.1 (pu (false,())) (cc 241 #[.string p0] fun
 h=>cc 241 #[.string p1] fun i=>bn (α:=(Int×Unit)⊕(Bool×Unit)) (HM.loop (σ:=Int×Unit) (τ:=(Int×Unit)⊕(Bool×Unit)) (fun j=>ie (decide (j.1<(h.len:Int))) (ix h j.1 1 fun k=>lt k fun l=>ie (decide (l
 =(ByteArray.mk #[35]))) (pu (.inr (.inr (true,())))) (ie (decide ((i.len:Int)≤(j.1:Int))) (pu (.inr (.inr (false,())))) (bn (α:=Bool×Unit) (ix h j.1 1 fun m=>lt m fun n=>ie (!(decide (n=(ByteArray.mk
 #[43])))) (ix h j.1 1 fun o=>lt o fun p=>ix i j.1 1 fun q=>lt q fun r=>pu (!(decide (p=r)),())) (pu (false,()))) fun s=>ie s.1 (pu (.inr (.inr (false,())))) (pu (.inl (wi (j.1+1),())))))) (pu (.inr (.inl (j.1,
 ()))))) (0,())) (Sum.elim (fun t=>pu ((h.len:Int)==(i.len:Int),())) X8)))
theorem B1W(p0:B4p)(p1:B4p):HCs 192 #[.string p0,.string p1] (B4c p0 p1) fun x=>.bool x.1:=
 cE [.one .bool] [0,1,4,5,6,7,8,9,19,32,40,47,51,67] [0,1,5,6,7,8,9,19,32,40,47,51,67] func192 ntmps192 (CC call240 (CC call190 (CC call241 CN)))
def B5K(p0:D0p)(p1:Slc):HM (Slc×Unit):=
 nn p0 fun a=>kb a 2 fun b=>ie (!b) (pu (p1,())) (bn (α:=(Slc×Unit)⊕(Slc×Unit)) (HM.loop (σ:=Slc×Unit) (τ:=(Slc×Unit)⊕(Slc×Unit)) (fun c=>nn p0 fun d=>kc d 4 fun e=>ie (decide (0<(e.len:Int)))
 (bn (α:=(Slc×Unit)⊕((Slc×Unit)⊕((Slc×Unit)⊕(Slc×Unit)))) (nn p0 fun f=>kc f 4 fun g=>ix g 0 5 fun h=>g7 h fun i=>nw zS7 143 fun j=>sn j (lS7 i) fun _=>bn (α:=Bool×Unit) (ji j 2 fun k=>ie (decide (0<
 (k:Int))) (nn p0 fun l=>kc l 3 fun m=>nn p0 fun n=>ki n 1 fun o=>pu (decide (o≤(m.len:Int)),())) (pu (false,()))) fun p=>ie p.1 (pu (.inr (.inr (.inr (c.1,()))))) (nn p0 fun q=>kc q 4 fun r=>bn (α:=Slc)
 (HM.slice r (some 1) none none 5) fun s=>nn p0 fun t=>sx (Addr.add t 4) (vs s) fun _=>ji j 2 fun u=>ie (u==0) (g7 (az j) fun v=>bn (α:=yS2) (A1C prog (.agg tS2) 203 #[.agg (aS7 v),vi 0,.bool false]) fun
 w=>nw zS2 70 fun x=>sn x (lS2 w) fun _=>g2 (az x) fun y=>nw (aS2 y) 70 fun z=>bn (α:=Slc) (HM.append 70 26 328 zS2 c.1 1 (W4 26 (⟨some (az z),1,1⟩))) fun A=>pu (.inl (A,()))) (nn p0 fun B=>kp B 0 fun C=>bn (α:=
 Int×Int×Unit) (u9 prog [.one (.int .i64),.one (.int .i64)] 242 #[.pointer C]) fun D=>nn p0 fun E=>kc E 3 fun F=>g7 (az j) fun G=>nw #[vi D.1,.string G.1,.string G.2.1,vi G.2.2.1,.bool G.2.2.2.1,
 .string G.2.2.2.2.1,.bool false] 160 fun H=>kc E 3 fun I=>rq (vs I) (vs F)<|bn (α:=Slc) (HM.append 160 7 80 zS5 F 1 (W4 7 (⟨some (az H),1,1⟩))) fun J=>nn p0 fun K=>sx (Addr.add K 3) (vs J) fun _=>g7 (az j) fun
 L=>bn (α:=yS2) (A1C prog (.agg tS2) 203 #[.agg (aS7 L),vi D.1,.bool false]) fun M=>nw zS2 70 fun N=>sn N (lS2 M) fun _=>g2 (az N) fun O=>nw (aS2 O) 70 fun P=>bn (α:=Slc) (HM.append 70 26 328 zS2 c.1 1
 (W4 26 (⟨some (az P),1,1⟩))) fun Q=>pu (.inl (Q,()))))) (Sum.elim (fun R=>pu (.inl (R.1,()))) X8)) (pu (.inr (.inl (c.1,()))))) (p1,())) (Sum.elim (fun S=>pu (S.1,())) X8))
theorem B3f(p0:D0p)(p1:Slc):HCs 193 #[.pointer p0,.slice p1.a p1.len p1.cap] (B5K p0 p1) fun x=>.slice x.1.a x.1.len x.1.cap:=
 cE [.one .slc] [0,1,4,5,6,7,9,14,21,42,54] [0,1,5,6,7,9,14,21,42,54] func193 ntmps193 (CC call203 (CC call242 CN))
def B5I(p0:D0p)(p1:yS2)(p2:Int):HM (Bool×Slc×Int×Unit):=
 nw (aS2 p1) 70 fun a=>ji a 0 fun b=>ji a 0 fun c=>bn (α:=Bool×Unit) (ie (!(b==3)) (pu (!(c==6),())) (pu (false,()))) fun d=>ie d.1 (pu (false,⟨none,0,0⟩,130,())) (bn (α:=Bool×Unit) (ie (b==3) (ji a
 3 fun e=>ie (decide (e<(0:Int))) (pu (true,())) (ji a 3 fun f=>pu (decide (2<(f:Int)),()))) (pu (false,()))) fun g=>ie g.1 (pu (false,⟨none,0,0⟩,130,())) (bn (α:=Bool×Unit) (ie (b==3) (ji a 3 fun
 h=>pu (h==0,())) (pu (false,()))) fun i=>ie i.1 (pu (true,⟨none,0,0⟩,0,())) (bn (α:=Bool×Unit) (ji a 4 fun j=>ie (decide (j<(1:Int))) (pu (true,())) (ji a 4 fun k=>pu (decide (65535<(k:Int)),())))
 fun l=>ie l.1 (pu (false,⟨none,0,0⟩,130,())) (nn p0 fun m=>kp m 0 fun n=>ji a 4 fun o=>cb 243 #[.pointer n,vi o] fun p=>ie (c==6) (bn (α:=Int×Unit) (ie p (nn p0 fun q=>kp q 0 fun r=>ji a 4 fun s=>cb 244
 #[.pointer r,vi s] fun t=>pu (0,())) (pu (146,()))) fun u=>ji a 4 fun v=>cc 245 #[vi 7,vi v,vi u.1] fun w=>pu (false,w,0,())) (ji a 3 fun x=>ie (x==1) (ji a 4 fun y=>cc 245 #[vi 4,vi y,vi p2] fun z=>pu (true,
 z,0,())) (ie p (ji a 4 fun A=>cc 245 #[vi 5,vi A,vi 0] fun B=>pu (false,B,0,())) (nn p0 fun C=>kp C 0 fun D=>nn D fun E=>kc E 2 fun F=>nn p0 fun G=>kp G 0 fun H=>nn H fun I=>ki I 0 fun J=>ie (decide (J≤(F.len:
 Int))) (pu (false,⟨none,0,0⟩,147,())) (bn (α:=Unit) (ie (decide (p2<(128:Int))) (nn p0 fun K=>kp K 0 fun L=>ji a 4 fun M=>ci 246 #[.pointer L,vi M] fun N=>pu ()) (pu ())) fun O=>ji a 4 fun P=>cc 245 #[vi 5,
 vi P,vi p2] fun Q=>pu (true,Q,0,())))))))))
theorem B3d(p0:D0p)(p1:yS2)(p2:Int):HCs 194 #[.pointer p0,.agg (aS2 p1),.int .i64 p2] (B5I p0 p1 p2) fun x=>.tuple #[.bool x.1,.slice x.2.1.a x.2.1.len x.2.1.cap,.int .i64 x.2.2.1]:=
 cE [.one .bool,.one .slc,.one (.int .i64)] [0,1,2,4,6,7,8,9,10,11,12,13,14,15,16,28,39,45,53,61,62,77,83,103,105] [0,1,2,4,9,10,11,12,13,14,15,16,28,39,45,53,61,62,77,83,103,105] func194 ntmps194 (CC call243 (CC call244 (CC call245 (CC call246 CN))))
def B5J(p0:D0p)(p1:Int):HM (Unit):=
 nn p0 fun a=>kp a 0 fun b=>nn p0 fun c=>kc c 3 fun d=>ix d p1 7 fun e=>ki e 0 fun f=>cb 244 #[.pointer b,vi f] fun g=>bn (α:=Slc×Int×Unit) (HM.loop (σ:=Slc×Int×Unit) (τ:=Slc×Int×Unit) (fun h=>nn p0
 fun i=>kc i 3 fun j=>ie (decide (h.2.1<(j.len:Int))) (bn (α:=Slc×Unit) (ie (!(h.2.1==p1)) (nn p0 fun k=>kc k 3 fun l=>ix l h.2.1 7 fun m=>g5 m fun n=>nw (aS5 n) 160 fun o=>bn (α:=Slc) (HM.append 160 7 80 zS5
 h.1 1 (W4 7 (⟨some (az o),1,1⟩))) fun p=>pu (p,())) (pu (h.1,()))) fun q=>pu (.inl (q.1,wi (h.2.1+1),()))) (pu (.inr (h.1,h.2.1,())))) (⟨none,0,0⟩,0,())) fun r=>nn p0 fun s=>sx (Addr.add s 3) (vs r.1)
 fun _=>pu ()
theorem B3e(p0:D0p)(p1:Int):HCs 195 #[.pointer p0,.int .i64 p1] (B5J p0 p1) fun x=>.tuple #[]:=
 cE [] [0,1,4,5,25,30] [0,1,4,5,25,30] func195 ntmps195 (CC call244 CN)
def B8d(p0:D0p)(p1:Int×B4p×Int×Unit):HM (Int×Unit):=
 nw #[vi p1.1,.string p1.2.1,vi p1.2.2.1] 232 fun a=>jt a 1 fun b=>ci 240 #[.string b] fun c=>ie (!(c==0)) (pu (143,())) (bn (α:=Bool×Unit) (ji a 2 fun d=>ie (decide (d<(0:Int))) (pu (true,())) (ji a 2 fun
 e=>pu (decide (2<(e:Int)),()))) fun f=>ie f.1 (pu (155,())) (bn (α:=(Int×Int×Unit)⊕(Int×Unit)) (HM.loop (σ:=Int×Int×Unit) (τ:=(Int×Int×Unit)⊕(Int×Unit)) (fun g=>nn p0 fun h=>kc h 0 fun
 i=>ie (decide (g.2.1<(i.len:Int))) (bn (α:=(Int×Unit)⊕((Int×Int×Unit)⊕((Int×Int×Unit)⊕(Int×Unit)))) (nn p0 fun j=>kc j 0 fun k=>ix k g.2.1 3 fun l=>ki l 0 fun m=>ji a 0 fun n=>ie (!(m==n)) (pu
 (.inl (g.1,()))) (nn p0 fun o=>kc o 0 fun p=>ix p g.2.1 3 fun q=>kt q 1 fun r=>jt a 1 fun s=>ie (decide (r=s)) (nn p0 fun t=>kc t 0 fun u=>ji a 2 fun v=>ix u g.2.1 3 fun w=>sx (Addr.add w 2) (vi v) fun _=>pu (.inr
 (.inr (.inr (0,()))))) (pu (.inl (wi (g.1+1),()))))) (Sum.elim (fun x=>pu (.inl (x.1,wi (g.2.1+1),()))) X8)) (pu (.inr (.inl (g.1,g.2.1,()))))) (0,0,())) (Sum.elim (fun y=>ie (decide (64≤(y.1:Int)))
 (pu (151,())) (bn (α:=Bool×Slc×Int×Unit) (HM.loop (σ:=Bool×Slc×Int×Unit) (τ:=Bool×Slc×Int×Unit) (fun z=>nn p0 fun A=>kc A 0 fun B=>ie (decide (z.2.2.1<(B.len:Int))) (bn (α:=Int×B4p
 ×Int×Unit) (o9 [.int .i64,.str,.int .i64] (az a)) fun C=>nn p0 fun D=>kc D 0 fun E=>ix E z.2.2.1 3 fun F=>bn (α:=Int×B4p×Int×Unit) (o9 [.int .i64,.str,.int .i64] F) fun G=>cb 247 #[.agg
 #[vi C.1,.string C.2.1,vi C.2.2.1],.agg #[vi G.1,.string G.2.1,vi G.2.2.1]] fun H=>bn (α:=Bool×Unit) (ie H (pu (!z.1,())) (pu (false,()))) fun I=>bn (α:=Slc×Bool×Unit) (ie I.1 (bn (α:=Int×B4p×
 Int×Unit) (o9 [.int .i64,.str,.int .i64] (az a)) fun J=>nw #[vi J.1,.string J.2.1,vi J.2.2.1] 232 fun K=>bn (α:=Slc) (HM.append 232 3 32 #[vi 0,ve,vi 0] z.2.1 1 (W4 3 (⟨some (az K),1,1⟩))) fun L=>pu
 (L,true,())) (pu (z.2.1,z.1,()))) fun M=>nn p0 fun N=>kc N 0 fun O=>ix O z.2.2.1 3 fun P=>bn (α:=Int×B4p×Int×Unit) (o9 [.int .i64,.str,.int .i64] P) fun Q=>nw #[vi Q.1,.string Q.2.1,vi
 Q.2.2.1] 232 fun R=>bn (α:=Slc) (HM.append 232 3 32 #[vi 0,ve,vi 0] M.1 1 (W4 3 (⟨some (az R),1,1⟩))) fun S=>pu (.inl (M.2.1,S,wi (z.2.2.1+1),()))) (pu (.inr (z.1,z.2.1,z.2.2.1,())))) (false,⟨none,0,
 0⟩,0,())) fun T=>bn (α:=Slc×Unit) (ie (!T.1) (bn (α:=Int×B4p×Int×Unit) (o9 [.int .i64,.str,.int .i64] (az a)) fun U=>nw #[vi U.1,.string U.2.1,vi U.2.2.1] 232 fun V=>bn (α:=Slc) (HM.append
 232 3 32 #[vi 0,ve,vi 0] T.2.1 1 (W4 3 (⟨some (az V),1,1⟩))) fun W=>pu (W,())) (pu (T.2.1,()))) fun X=>nn p0 fun Y=>sx (Addr.add Y 0) (vs X.1) fun _=>pu (0,()))) X8)))
theorem B4R(p0:D0p)(p1:Int×B4p×Int×Unit):HCs 196 #[.pointer p0,.agg #[.int .i64 p1.1,.string p1.2.1,.int .i64 p1.2.2.1]] (B8d p0 p1) fun x=>.int .i64 x.1:=
 cE [.one (.int .i64)] [0,1,3,4,5,6,7,8,9,10,11,16,24,31,44,57,68,75,91,107] [0,1,3,5,6,7,8,9,10,11,16,24,31,44,57,68,75,91,107] func196 ntmps196 (CC call240 (CC call247 CN))
def B35(p0:D0p)(p1:B4p):HM (Slc×Unit):=
 bn (α:=Slc×Int×Unit) (HM.loop (σ:=Slc×Int×Unit) (τ:=Slc×Int×Unit) (fun a=>nn p0 fun b=>kc b 1 fun c=>ie (decide (a.2.1<(c.len:Int))) (nn p0 fun d=>kc d 1 fun e=>ix e a.2.1 3 fun f=>kt f 0 fun g=>cb
 192 #[.string p1,.string g] fun h=>bn (α:=Slc×Unit) (ie h (nn p0 fun i=>kc i 1 fun j=>ix j a.2.1 3 fun k=>bn (α:=B4p×B4p×Int×Unit) (o9 [.str,.str,.int .i64] k) fun l=>nw #[.string l.1,
 .string l.2.1,vi l.2.2.1] 274 fun m=>bn (α:=Slc) (HM.append 274 3 40 #[ve,ve,vi 0] a.1 1 (W4 3 (⟨some (az m),1,1⟩))) fun n=>pu (n,())) (pu (a.1,()))) fun o=>pu (.inl (o.1,wi (a.2.1+1),()))) (pu (.inr
 (a.1,a.2.1,())))) (⟨none,0,0⟩,0,())) fun p=>pu (p.1,())
theorem B1M(p0:D0p)(p1:B4p):HCs 197 #[.pointer p0,.string p1] (B35 p0 p1) fun x=>.slice x.1.a x.1.len x.1.cap:=
 cE [.one .slc] [0,1,4,5,6,7,14,27] [0,1,5,6,7,14,27] func197 ntmps197 (CC call192 CN)
def B1T(p0:D0p)(p1:Int)(p2:B4p):HM (Bool×Unit):=
 bn (α:=Slc×Int×Unit) (HM.loop (σ:=Slc×Int×Unit) (τ:=Slc×Int×Unit) (fun a=>nn p0 fun b=>kc b 0 fun c=>ie (decide (a.2.1<(c.len:Int))) (bn (α:=Bool×Unit) (nn p0 fun d=>kc d 0 fun e=>ix e a.2.1 3
 fun f=>ki f 0 fun g=>ie (!(g==p1)) (pu (true,())) (nn p0 fun h=>kc h 0 fun i=>ix i a.2.1 3 fun j=>kt j 1 fun k=>pu (!(decide (k=p2)),()))) fun l=>bn (α:=Slc×Unit) (ie l.1 (nn p0 fun m=>kc m 0 fun n=>ix n a.2.1
 3 fun o=>bn (α:=Int×B4p×Int×Unit) (o9 [.int .i64,.str,.int .i64] o) fun p=>nw #[vi p.1,.string p.2.1,vi p.2.2.1] 232 fun q=>bn (α:=Slc) (HM.append 232 3 32 #[vi 0,ve,vi 0] a.1 1 (W4 3
 (⟨some (az q),1,1⟩))) fun r=>pu (r,())) (pu (a.1,()))) fun s=>pu (.inl (s.1,wi (a.2.1+1),()))) (pu (.inr (a.1,a.2.1,())))) (⟨none,0,0⟩,0,())) fun t=>nn p0 fun u=>kc u 0 fun v=>nn p0 fun w=>sx (Addr.add w 0)
 (vs t.1) fun _=>pu (decide ((t.1.len:Int)<(v.len:Int)),())
theorem B03(p0:D0p)(p1:Int)(p2:B4p):HCs 198 #[.pointer p0,.int .i64 p1,.string p2] (B1T p0 p1 p2) fun x=>.bool x.1:=
 cE [.one .bool] [0,1,2,6,7,8,9,16,40] [0,1,2,7,8,9,16,40] func198 ntmps198 CN
def B4d(p0:B4p):HM (Int×Bool×Unit):=
 bn (α:=(Int×Unit)⊕(Int×Bool×Unit)) (HM.loop (σ:=Int×Unit) (τ:=(Int×Unit)⊕(Int×Bool×Unit)) (fun a=>ie (decide (a.1<(((ByteArray.size p0:Nat):Int):Int))) (ci 248 #[.string p0,vi a.1] fun
 b=>ie (b==0) (pu (.inr (.inr (a.1,true,())))) (pu (.inl (wi (a.1+b),())))) (pu (.inr (.inl (a.1,()))))) (0,())) (Sum.elim (fun c=>pu (0,false,())) X8)
theorem B1Y(p0:B4p):HCs 199 #[.string p0] (B4d p0) fun x=>.tuple #[.int .i64 x.1,.bool x.2.1]:=
 cE [.one (.int .i64),.one .bool] [0,2,3,4,5,9,14] [0,4,5,9,14] func199 ntmps199 (CC call248 CN)
def B8a(p0:Int):HM (D0p×Unit):=
 cp 249 #[vi 64] fun a=>ci 202 #[vi p0] fun b=>nw #[.pointer a,vi b,.bool false,vz,vz] 158 fun c=>pu (some (az c),())
theorem B4O(p0:Int):HCs 200 #[.int .i64 p0] (B8a p0) fun x=>.pointer x.1:=
 cE [.one .ptr] [0,2,3,4] [0,3,4] func200 ntmps200 (CC call249 (CC call202 CN))
def B79(p0:Int):HM (D0p×Unit):=
 cp 249 #[vi p0] fun a=>nw #[.pointer a] 365 fun b=>pu (some (az b),())
theorem B4N(p0:Int):HCs 201 #[.int .i64 p0] (B79 p0) fun x=>.pointer x.1:=
 cE [.one .ptr] [0,2,3] [0,3] func201 ntmps201 (CC call249 CN)
def B36(p0:Int):HM (Int×Unit):=
 cp 249 #[vi p0] fun a=>nn a fun b=>ki b 0 fun c=>pu (c,())
theorem B1O(p0:Int):HCs 202 #[.int .i64 p0] (B36 p0) fun x=>.int .i64 x.1:=
 cE [.one (.int .i64)] [0,2,3] [0,3] func202 ntmps202 (CC call249 CN)
def B0u(p0:yS7)(p1:Int)(p2:Bool):HM ((yS2)×Unit):=
 nw (aS7 p0) 143 fun a=>nw zS2 70 fun b=>ji a 2 fun c=>jb a 3 fun d=>jt a 0 fun e=>jt a 1 fun f=>nw zS2 70 fun g=>sn g [vi 3,.bool p2,.bool d,vi c,vi p1,.string e,.string f,vi 0,vz,vz,ve,.bool false,vi 0,
 .bool false,ve,ve,vi 0,.bool false,vz,.bool false,.bool false,ve,ve,.bool false,vz,vz] fun _=>jt a 4 fun h=>bn (α:=Unit) (ie (decide (0<(((ByteArray.size h:Nat):Int):Int))) (jt a 4 fun i=>nw #[vi
 38,vi 0,.string (ByteArray.mk #[116,97,103]),.string i] 194 fun j=>sw g 9 (.slice (some (az j)) 1 1) fun _=>pu ()) (pu ())) fun k=>g2 (az g) fun l=>sn b (lS2 l) fun _=>g2 (az b) fun m=>pu ((m.1,m.2.1,m.2.2.1,
 m.2.2.2.1,m.2.2.2.2.1,(w5 m),(w6 m),(w7 m),(w8 m),(w9 m),(w10 m),(w11 m),(w12 m),(w13 m),(w14 m),(w15 m),(w16 m),(w17 m),(w18 m),(w19 m),(w20 m),(w21 m),(w22 m),(w23 m),(w24 m),(w25 m),()),())
theorem A97(p0:yS7)(p1:Int)(p2:Bool):HCs 203 #[.agg (aS7 p0),.int .i64 p1,.bool p2] (B0u p0 p1 p2) fun x=>.agg (aS2 x.1):=
 cE [.agg tS2] [0,1,2,3,6,7,22] [0,1,2,3,6,7,22] func203 ntmps203 CN
def B6k(p0:Slc):HM (Slc×Unit):=
 pu (p0,())
theorem B3y(p0:Slc):HCs 207 #[.slice p0.a p0.len p0.cap] (B6k p0) fun x=>.slice x.1.a x.1.len x.1.cap:=
 cE [.one .slc] [0,2] [0] func207 ntmps207 CN
def A8C(p0:D0p)(p1:Int):HM (Bool×Unit):=
 nn p0 fun a=>kp a 0 fun b=>cc 251 #[.pointer b] fun c=>cb 250 #[vs c,vi p1] fun d=>pu (d,())
theorem A8Q(p0:D0p)(p1:Int):HCs 208 #[.pointer p0,.int .i64 p1] (A8C p0 p1) fun x=>.bool x.1:=
 cE [.one .bool] [0,1,4] [0,1] func208 ntmps208 (CC call251 (CC call250 CN))
def B0C(p0:D0p):HM (Int×Unit):=
 ie (Option.isNone p0) (pu (0,())) (nn p0 fun a=>ki a 0 fun b=>nn p0 fun c=>km c 2 fun d=>bn (α:=Int) (A7u d) fun e=>pu (wi (b-e),()))
theorem B0f(p0:D0p):HCs 209 #[.pointer p0] (B0C p0) fun x=>.int .i64 x.1:=
 cE [.one (.int .i64)] [0,2,4] [0,4] func209 ntmps209 CN
def A9h(p0:D0p)(p1:Int):HM (Int×Unit):=
 ie (Option.isNone p0) (pu (128,())) (bn (α:=Bool×Unit) (ie (decide (p1<(1:Int))) (pu (true,())) (pu (decide (65535<(p1:Int)),()))) fun a=>ie a.1 (pu (129,())) (nn p0 fun b=>km b 2 fun c=>bn (α:=Bool×
 Bool) (HM.lookup (Instr.sameNow (.int .i64)) (.bool false) (.one .bool) c (vi p1)) fun d=>ie d.1 (pu (145,())) (ci 209 #[.pointer p0] fun e=>ie (e==0) (pu (147,())) (nn p0 fun f=>km f 2 fun g=>bn (α:=Unit)
 (A3J (Instr.sameNow (.int .i64)) g (vi p1) (.bool true)) fun _=>pu (0,())))))
theorem A9g(p0:D0p)(p1:Int):HCs 210 #[.pointer p0,.int .i64 p1] (A9h p0 p1) fun x=>.int .u8 x.1:=
 cE [.one (.int .u8)] [0,1,4,5,8,15,22] [0,1,5,8,15,22] func210 ntmps210 (CC call209 CN)
def B7v(p0:Slc)(p1:Int)(p2:Int):HM (Slc×Unit):=
 bn (α:=Slc) (HM.slice p0 (some p1) (some p2) (some (p0.len:Int)) 7) fun a=>ie (p1==p2) (pu (p0,())) (bn (α:=Slc) (HM.slice p0 none (some p1) none 7) fun b=>bn (α:=Slc) (HM.slice p0 (some p2) none none 7) fun
 c=>bn (α:=Slc) (HM.append 162 7 80 zS5 b c.len (W4 7 c)) fun d=>bn (α:=Slc) (HM.slice d (some (d.len:Int)) (some (p0.len:Int)) none 7) fun e=>bn (α:=Unit) (B8S zS5 e) fun _=>pu (d,()))
theorem A90(p0:Slc)(p1:Int)(p2:Int):HCs 211 #[.slice p0.a p0.len p0.cap,.int .i64 p1,.int .i64 p2] (B7v p0 p1 p2) fun x=>.slice x.1.a x.1.len x.1.cap:=
 cE [.one .slc] [0,1,2,6,7,16] [0,1,2,7,16] func211 ntmps211 CN
def B4b(p0:B4p):HM (Bool×Unit):=
 bn (α:=Int×Bool×Unit) (u9 prog [.one (.int .i64),.one .bool] 199 #[.string p0]) fun a=>bn (α:=Bool×Unit) (ie a.2.1 (pu (true,())) (ie (((ByteArray.size p0:Nat):Int)==0) (pu (true,())) (pu
 (decide (256<(((ByteArray.size p0:Nat):Int):Int)),())))) fun b=>ie b.1 (pu (false,())) (cc 241 #[.string p0] fun c=>pu (decide ((c.len:Int)≤(32:Int)),()))
theorem B1V(p0:B4p):HCs 238 #[.string p0] (B4b p0) fun x=>.bool x.1:=
 cE [.one .bool] [0,2,4,5,21] [0,4,5,21] func238 ntmps238 (CC call199 (CC call241 CN))
def B8e(p0:B4p)(p1:Int):HM (Bool×Unit):=
 bn (α:=(Int×Unit)⊕(Bool×Unit)) (HM.loop (σ:=Int×Unit) (τ:=(Int×Unit)⊕(Bool×Unit)) (fun a=>ie (decide (a.1<(((ByteArray.size p0:Nat):Int):Int))) (bn (α:=Int) (A5I p0 a.1) fun b=>ie (b
 ==p1) (pu (.inr (.inr (true,())))) (pu (.inl (wi (a.1+1),())))) (pu (.inr (.inl (a.1,()))))) (0,())) (Sum.elim (fun c=>pu (false,())) X8)
theorem B4S(p0:B4p)(p1:Int):HCs 239 #[.string p0,.int .u8 p1] (B8e p0 p1) fun x=>.bool x.1:=
 cE [.one .bool] [0,1,4,5,9,16] [0,1,5,9,16] func239 ntmps239 CN
def A51(p0:B4p):HM (Int×Unit):=
 cb 238 #[.string p0] fun a=>ie (!a) (pu (143,())) (cc 241 #[.string p0] fun b=>bn (α:=(Int×Unit)⊕(Int×Unit)) (HM.loop (σ:=Int×Unit) (τ:=(Int×Unit)⊕(Int×Unit)) (fun c=>ie (decide (c.1<(b.len:
 Int))) (ix b c.1 1 fun d=>lt d fun e=>cb 239 #[.string e,.int .u8 43] fun f=>ix b c.1 1 fun g=>lt g fun h=>cb 239 #[.string h,.int .u8 35] fun i=>bn (α:=Bool×Unit) (ie f (ix b c.1 1 fun j=>lt j fun k=>pu (!(decide
 (k=(ByteArray.mk #[43]))),())) (pu (false,()))) fun l=>ie l.1 (pu (.inr (.inr (143,())))) (bn (α:=Bool×Unit) (ie i (ix b c.1 1 fun m=>lt m fun n=>ie (!(decide (n=(ByteArray.mk #[35])))) (pu (true,())) (pu
 (decide (c.1<((wi ((b.len:Int)-1)):Int)),()))) (pu (false,()))) fun o=>ie o.1 (pu (.inr (.inr (143,())))) (pu (.inl (wi (c.1+1),()))))) (pu (.inr (.inl (c.1,()))))) (0,())) (Sum.elim (fun p=>pu (0,()))
 X8))
theorem A64(p0:B4p):HCs 240 #[.string p0] (A51 p0) fun x=>.int .i64 x.1:=
 cE [.one (.int .i64)] [0,2,3,4,5,6,7,11,17,37,52] [0,3,4,5,6,7,11,17,37,52] func240 ntmps240 (CC call238 (CC call241 (CC call239 CN)))
def B1X(p0:B4p):HM (Slc×Unit):=
 bn (α:=Slc×B4p×Int×Unit) (HM.loop (σ:=Slc×B4p×Int×Unit) (τ:=Slc×B4p×Int×Unit) (fun a=>ie (decide (a.2.2.1<(((ByteArray.size p0:Nat):Int):Int))) (bn (α:=Slc×B4p
 ×Unit) (bn (α:=Int) (A5I p0 a.2.2.1) fun b=>ie (b==47) (nw #[.string a.2.1] 9 fun c=>bn (α:=Slc) (HM.append 9 1 16 #[ve] a.1 1 (W4 1 (⟨some (az c),1,1⟩))) fun d=>pu (d,ByteArray.mk #[],())) (bn (α:=
 B4p) (A47 p0 (some a.2.2.1) (some (wi (a.2.2.1+1)))) fun e=>A3z (ByteArray.size a.2.1+ByteArray.size e≤9223372036854775807)<|pu (a.1,a.2.1++e,()))) fun f=>pu (.inl (f.1,f.2.1,wi (a.2.2.1+1),
 ()))) (pu (.inr (a.1,a.2.1,a.2.2.1,())))) (⟨none,0,0⟩,ByteArray.mk #[],0,())) fun g=>nw #[.string g.2.1] 9 fun h=>bn (α:=Slc) (HM.append 9 1 16 #[ve] g.1 1 (W4 1 (⟨some (az h),1,1⟩))) fun i=>pu (i,())
theorem B04(p0:B4p):HCs 241 #[.string p0] (B1X p0) fun x=>.slice x.1.a x.1.len x.1.cap:=
 cE [.one .slc] [0,2,3,4,5,9,15] [0,3,4,5,9,15] func241 ntmps241 CN
def B5M(p0:D0p):HM (Int×Int×Unit):=
 nn p0 fun a=>kc a 2 fun b=>nn p0 fun c=>ki c 0 fun d=>ie (decide (d≤(b.len:Int))) (pu (0,147,())) (nn p0 fun e=>ki e 1 fun f=>bn (α:=Int×Int×Unit) (HM.loop (σ:=Int×Int×Unit) (τ:=Int×Int×Unit)
 (fun g=>ie (decide (g.2.1≤(64:Int))) (bn (α:=Int×Unit) (ie (decide (65535<((wi (g.1+1)):Int))) (pu (1,())) (pu (wi (g.1+1),()))) fun h=>cb 243 #[.pointer p0,vi h.1] fun i=>ie (!i) (pu (.inr (h.1,
 g.2.1,()))) (pu (.inl (h.1,wi (g.2.1+1),())))) (pu (.inr (g.1,g.2.1,())))) (f,0,())) fun j=>nn p0 fun k=>sx (Addr.add k 1) (vi j.1) fun _=>cx 264 #[.pointer p0,vi j.1] fun l=>pu (j.1,0,()))
theorem B3h(p0:D0p):HCs 242 #[.pointer p0] (B5M p0) fun x=>.tuple #[.int .i64 x.1,.int .i64 x.2.1]:=
 cE [.one (.int .i64),.one (.int .i64)] [0,2,3,4,5,6,16,22,28,33] [0,4,5,6,16,22,28,33] func242 ntmps242 (CC call243 (CC call264 CN))
def C0u(p0:D0p)(p1:Int):HM (Bool×Unit):=
 bn (α:=(Int×Unit)⊕(Bool×Unit)) (HM.loop (σ:=Int×Unit) (τ:=(Int×Unit)⊕(Bool×Unit)) (fun a=>nn p0 fun b=>kc b 2 fun c=>ie (decide (a.1<(c.len:Int))) (nn p0 fun d=>kc d 2 fun e=>ix e a.1 1 fun f=>li
 f fun g=>ie (g==p1) (pu (.inr (.inr (true,())))) (pu (.inl (wi (a.1+1),())))) (pu (.inr (.inl (a.1,()))))) (0,())) (Sum.elim (fun h=>pu (false,())) X8)
theorem B5N(p0:D0p)(p1:Int):HCs 243 #[.pointer p0,.int .i64 p1] (C0u p0 p1) fun x=>.bool x.1:=
 cE [.one .bool] [0,1,4,5,12,23] [0,1,5,12,23] func243 ntmps243 CN
def B5O(p0:D0p)(p1:Int):HM (Bool×Unit):=
 bn (α:=Slc×Int×Unit) (HM.loop (σ:=Slc×Int×Unit) (τ:=Slc×Int×Unit) (fun a=>nn p0 fun b=>kc b 2 fun c=>ie (decide (a.2.1<(c.len:Int))) (nn p0 fun d=>kc d 2 fun e=>ix e a.2.1 1 fun f=>li f fun g=>bn
 (α:=Slc×Unit) (ie (!(g==p1)) (nn p0 fun h=>kc h 2 fun i=>ix i a.2.1 1 fun j=>li j fun k=>nw #[vi k] 3 fun l=>bn (α:=Slc) (HM.append 3 1 8 #[vi 0] a.1 1 (W4 1 (⟨some (az l),1,1⟩))) fun m=>pu (m,())) (pu
 (a.1,()))) fun n=>pu (.inl (n.1,wi (a.2.1+1),()))) (pu (.inr (a.1,a.2.1,())))) (⟨none,0,0⟩,0,())) fun o=>nn p0 fun p=>kc p 2 fun q=>nn p0 fun r=>sx (Addr.add r 2) (vs o.1) fun _=>pu (decide ((o.1.len:Int)<
 (q.len:Int)),())
theorem B3i(p0:D0p)(p1:Int):HCs 244 #[.pointer p0,.int .i64 p1] (B5O p0 p1) fun x=>.bool x.1:=
 cE [.one .bool] [0,1,4,5,6,7,14,25] [0,1,5,6,7,14,25] func244 ntmps244 CN
def B1N(p0:Int)(p1:Int)(p2:Int):HM (Slc×Unit):=
 nw #[vi p0,.bool false,.bool false,vi 0,vi p1,ve,ve,vi p2,vz,vz,ve,.bool false,vi 0,.bool false,ve,ve,vi 0,.bool false,vz,.bool false,.bool false,ve,ve,.bool false,vz,vz] 70 fun a=>pu (⟨some (az
 a),1,1⟩,())
theorem B01(p0:Int)(p1:Int)(p2:Int):HCs 245 #[.int .i64 p0,.int .i64 p1,.int .i64 p2] (B1N p0 p1 p2) fun x=>.slice x.1.a x.1.len x.1.cap:=
 cE [.one .slc] [0,1,2,6] [0,1,2] func245 ntmps245 CN
def B38(p0:D0p)(p1:Int):HM (Int×Unit):=
 bn (α:=Bool×Unit) (ie (decide (p1<(1:Int))) (pu (true,())) (pu (decide (65535<(p1:Int)),()))) fun a=>ie a.1 (pu (129,())) (cb 243 #[.pointer p0,vi p1] fun b=>ie b (pu (145,())) (nn p0 fun c=>kc c 2 fun
 d=>nn p0 fun e=>ki e 0 fun f=>ie (decide (f≤(d.len:Int))) (pu (147,())) (cx 264 #[.pointer p0,vi p1] fun g=>pu (0,()))))
theorem B1R(p0:D0p)(p1:Int):HCs 246 #[.pointer p0,.int .i64 p1] (B38 p0 p1) fun x=>.int .i64 x.1:=
 cE [.one (.int .i64)] [0,1,4,5,11,15,25] [0,1,5,11,15,25] func246 ntmps246 (CC call243 (CC call264 CN))
def B39(p0:Int×B4p×Int×Unit)(p1:Int×B4p×Int×Unit):HM (Bool×Unit):=
 nw #[vi p0.1,.string p0.2.1,vi p0.2.2.1] 232 fun a=>nw #[vi p1.1,.string p1.2.1,vi p1.2.2.1] 232 fun b=>bn (α:=Bool×Unit) (ji a 0 fun c=>ji b 0 fun d=>ie (decide (c<(d:Int))) (pu (true,())) (ji a 0 fun
 e=>ji b 0 fun f=>ie (e==f) (jt a 1 fun g=>jt b 1 fun h=>pu (Op.bytesLess g.toList h.toList,())) (pu (false,())))) fun i=>pu (i.1,())
theorem B1S(p0:Int×B4p×Int×Unit)(p1:Int×B4p×Int×Unit):HCs 247 #[.agg #[.int .i64 p0.1,.string p0.2.1,.int .i64 p0.2.2.1],.agg #[.int .i64 p1.1,.string p1.2.1,.int .i64 p1.2.2.1]] (B39 p0 p1) fun x=>.bool x.1:=
 cE [.one .bool] [0,1,2,3,4] [0,1,2,3] func247 ntmps247 CN
def B5S(p0:B4p)(p1:Int):HM (Int×Unit):=
 bn (α:=Int) (A5I p0 p1) fun a=>bn (α:=Bool×Unit) (ie (decide (1≤((wi a):Int))) (pu (decide ((wi a)≤(127:Int)),())) (pu (false,()))) fun b=>ie b.1 (pu (1,())) (cb 265 #[.string p0,vi (wi (p1+
 1)),vi 128,vi 191] fun c=>cb 265 #[.string p0,vi (wi (p1+2)),vi 128,vi 191] fun d=>cb 265 #[.string p0,vi (wi (p1+3)),vi 128,vi 191] fun e=>bn (α:=Bool×Unit) (ie (decide (194≤((wi a):Int))) (ie
 (decide ((wi a)≤(223:Int))) (pu (c,())) (pu (false,()))) (pu (false,()))) fun f=>ie f.1 (pu (2,())) (bn (α:=Bool×Unit) (ie (decide (224≤((wi a):Int))) (ie (decide ((wi a)≤(239:Int))) (ie c (pu (d,
 ())) (pu (false,()))) (pu (false,()))) (pu (false,()))) fun g=>ie g.1 (cb 265 #[.string p0,vi (wi (p1+1)),vi 160,vi 191] fun h=>cb 265 #[.string p0,vi (wi (p1+1)),vi 128,vi 159] fun i=>bn (α:=Bool×Unit)
 (ie ((wi a)==224) (ie (!h) (pu (true,())) (ie ((wi a)==237) (pu (!i,())) (pu (false,())))) (ie ((wi a)==237) (pu (!i,())) (pu (false,())))) fun j=>ie j.1 (pu (0,())) (pu (3,()))) (bn (α:=Bool×Unit) (ie
 (decide (240≤((wi a):Int))) (ie (decide ((wi a)≤(244:Int))) (ie c (ie d (pu (e,())) (pu (false,()))) (pu (false,()))) (pu (false,()))) (pu (false,()))) fun k=>ie k.1 (cb 265 #[.string p0,vi (wi (p1+1)),
 vi 144,vi 191] fun l=>cb 265 #[.string p0,vi (wi (p1+1)),vi 128,vi 143] fun m=>bn (α:=Bool×Unit) (ie ((wi a)==240) (ie (!l) (pu (true,())) (ie ((wi a)==244) (pu (!m,())) (pu (false,())))) (ie ((wi a)==
 244) (pu (!m,())) (pu (false,())))) fun n=>ie n.1 (pu (0,())) (pu (4,()))) (pu (0,())))))
theorem B3m(p0:B4p)(p1:Int):HCs 248 #[.string p0,.int .i64 p1] (B5S p0 p1) fun x=>.int .i64 x.1:=
 cE [.one (.int .i64)] [0,1,4,5,6,7,8,9,10,11,12,22,43,55,77,92,114] [0,1,5,6,7,8,9,10,11,12,22,43,55,77,92,114] func248 ntmps248 (CC call265 CN)
def B8c(p0:Int):HM (D0p×Unit):=
 bn (α:=Int×Unit) (ie (decide (p0<(1:Int))) (pu (1,())) (pu (p0,()))) fun a=>bn (α:=Int×Unit) (ie (decide (64<(a.1:Int))) (pu (64,())) (pu (a.1,()))) fun b=>nw #[vi b.1,vi 0,vz] 368 fun c=>pu (some
 (az c),())
theorem B4Q(p0:Int):HCs 249 #[.int .i64 p0] (B8c p0) fun x=>.pointer x.1:=
 cE [.one .ptr] [0,2,4,6] [0,4,6] func249 ntmps249 CN
def A8u(p0:Slc)(p1:Int):HM (Bool×Unit):=
 ci 266 #[vs p0,vi p1] fun a=>pu (decide (0≤(a:Int)),())
theorem A8L(p0:Slc)(p1:Int):HCs 250 #[.slice p0.a p0.len p0.cap,.int .i64 p1] (A8u p0 p1) fun x=>.bool x.1:=
 cE [.one .bool] [0,1,4] [0,1] func250 ntmps250 (CC call266 CN)
def B0A(p0:D0p):HM (Slc×Unit):=
 ie (Option.isNone p0) (pu (⟨none,0,0⟩,())) (nn p0 fun a=>km a 2 fun b=>bn (α:=Value) (A1C prog (.one .any) 267 #[.map b]) fun c=>cc 40 #[c] fun d=>pu (d,()))
theorem B0d(p0:D0p):HCs 251 #[.pointer p0] (B0A p0) fun x=>.slice x.1.a x.1.len x.1.cap:=
 cE [.one .slc] [0,2,4] [0,4] func251 ntmps251 (CC call267 (CC call40 CN))
def B8b(p0:D0p)(p1:Int):HM (Unit):=
 bn (α:=Bool×Slc×Int×Unit) (HM.loop (σ:=Bool×Slc×Int×Unit) (τ:=Bool×Slc×Int×Unit) (fun a=>nn p0 fun b=>kc b 2 fun c=>ie (decide (a.2.2.1<(c.len:Int))) (bn (α:=Bool×Unit) (ie (!a.1) (nn p0
 fun d=>kc d 2 fun e=>ix e a.2.2.1 1 fun f=>li f fun g=>pu (decide (p1<(g:Int)),())) (pu (false,()))) fun h=>bn (α:=Slc×Bool×Unit) (ie h.1 (nw #[vi p1] 3 fun i=>bn (α:=Slc) (HM.append 3 1 8 #[vi 0] a.2.1 1
 (W4 1 (⟨some (az i),1,1⟩))) fun j=>pu (j,true,())) (pu (a.2.1,a.1,()))) fun k=>nn p0 fun l=>kc l 2 fun m=>ix m a.2.2.1 1 fun n=>li n fun o=>nw #[vi o] 3 fun p=>bn (α:=Slc) (HM.append 3 1 8 #[vi 0] k.1 1
 (W4 1 (⟨some (az p),1,1⟩))) fun q=>pu (.inl (k.2.1,q,wi (a.2.2.1+1),()))) (pu (.inr (a.1,a.2.1,a.2.2.1,())))) (false,⟨none,0,0⟩,0,())) fun r=>bn (α:=Slc×Unit) (ie (!r.1) (nw #[vi p1] 3 fun s=>bn (α
 :=Slc) (HM.append 3 1 8 #[vi 0] r.2.1 1 (W4 1 (⟨some (az s),1,1⟩))) fun t=>pu (t,())) (pu (r.2.1,()))) fun u=>nn p0 fun v=>sx (Addr.add v 2) (vs u.1) fun _=>pu ()
theorem B4P(p0:D0p)(p1:Int):HCs 264 #[.pointer p0,.int .i64 p1] (B8b p0 p1) fun x=>.tuple #[]:=
 cE [] [0,1,4,5,6,13,28,44] [0,1,4,5,6,13,28,44] func264 ntmps264 CN
def B5R(p0:B4p)(p1:Int)(p2:Int)(p3:Int):HM (Bool×Unit):=
 bn (α:=Bool×Unit) (ie (decide (p1<(((ByteArray.size p0:Nat):Int):Int))) (bn (α:=Int) (A5I p0 p1) fun a=>ie (decide (p2≤((wi a):Int))) (bn (α:=Int) (A5I p0 p1) fun b=>pu (decide ((wi b)≤
 (p3:Int)),())) (pu (false,()))) (pu (false,()))) fun c=>pu (c.1,())
theorem B3l(p0:B4p)(p1:Int)(p2:Int)(p3:Int):HCs 265 #[.string p0,.int .i64 p1,.int .i64 p2,.int .i64 p3] (B5R p0 p1 p2 p3) fun x=>.bool x.1:=
 cE [.one .bool] [0,1,2,3,8] [0,1,2,3] func265 ntmps265 CN
def B1A(p0:Slc)(p1:Int):HM (Int×Unit):=
 bn (α:=(Int×Unit)⊕(Int×Unit)) (HM.loop (σ:=Int×Unit) (τ:=(Int×Unit)⊕(Int×Unit)) (fun a=>ie (decide (a.1<(p0.len:Int))) (ix p0 a.1 1 fun b=>li b fun c=>ie (p1==c) (pu (.inr (.inr (a.1,()))))
 (pu (.inl (wi (a.1+1),())))) (pu (.inr (.inl (a.1,()))))) (0,())) (Sum.elim (fun d=>pu ((-1),())) X8)
theorem B0P(p0:Slc)(p1:Int):HCs 266 #[.slice p0.a p0.len p0.cap,.int .i64 p1] (B1A p0 p1) fun x=>.int .i64 x.1:=
 cE [.one (.int .i64)] [0,1,4,5,7,8,9,16] [0,1,5,7,8,9,16] func266 ntmps266 CN
open Go.Proofs Go.Shelf
def B0K:Go.Shelf.Ren:=⟨fun n=>match n with|197=>153|260=>204|n=>n,fun n=>match n with|9=>9|21=>21|3=>3|4=>4|5=>5|105=>289|119=>373|0=>0|46=>263|139=>376|138=>375|n=>n,fun n=>match n with|3=>1|4=>2|n=>n⟩
theorem u8:Lays.n197 prog B0K where
 mixed:=by kernel_rfl
 f197:=func153.trans (congrArg some (by kernel_rfl))
 f260:=func204.trans (congrArg some (by kernel_rfl))
 t0:=underlying0
 a0:=isAgg0
 z0:=sizeOf0
 v0:=zeroValue0
 t3:=underlying3
 a3:=isAgg3
 z3:=sizeOf3
 v3:=zeroValue3
 t4:=underlying4
 a4:=isAgg4
 z4:=sizeOf4
 v4:=zeroValue4
 t5:=underlying5
 a5:=isAgg5
 z5:=sizeOf5
 v5:=zeroValue5
 t9:=underlying9
 a9:=isAgg9
 z9:=sizeOf9
 v9:=zeroValue9
 t21:=underlying21
 a21:=isAgg21
 z21:=sizeOf21
 v21:=zeroValue21
 t46:=underlying263
 a46:=isAgg263
 z46:=sizeOf263
 v46:=zeroValue263
 t105:=underlying289
 a105:=isAgg289
 z105:=sizeOf289
 v105:=zeroValue289
 t119:=underlying373
 a119:=isAgg373
 z119:=sizeOf373
 t138:=underlying375
 a138:=isAgg375
 z138:=sizeOf375
 v138:=zeroValue375
 t139:=underlying376
 a139:=isAgg376
 z139:=sizeOf376
 v139:=zeroValue376
 g3:=by kernel_rfl
 g4:=by kernel_rfl
def U8(h0:Heap):Prop:=
 (∀c,c<256→W8 h0 ⟨B0K.g 3,c,none⟩=some (.int .u8 (Lib.firstT c)))∧
 (∀i,i<16→W8 h0 ⟨B0K.g 4,2*i,none⟩=some (.int .u8 (Lib.accLo i))∧W8 h0 ⟨B0K.g 4,2*i+1,none⟩=some (.int .u8 (Lib.accHi i)))
theorem U8.tabs{h h0:Heap}{R:List Asn}(ht:U8 h0)(hs:sat h (old h0::R)){w:World}(hw:w.heap=h):Lib.Utf8Tabs (B0K.g 3) (B0K.g 4) w:=by
 subst hw
 exact⟨fun c hc=>hs.bY (ht.1 c hc),fun i hi=>⟨hs.bY (ht.2 i hi).1,hs.bY (ht.2 i hi).2⟩⟩
theorem C1N{h h0:Heap}{R:List Asn}(hs:sat h (old h0::R))(ht:U8 h0)(s:B4p){Q:Value→Heap→Prop}
  (hq:∀h',sat h' (old h0::R)→Q (.tuple #[.int .i32 (Lib.decodeGo s).1,.int .i64 (Lib.decodeGo s).2]) h'):V9 prog 153 #[.string s] h Q:=
 B4z hs (fun w hw=>Any.utf8_DecodeRuneInString u8 s w (ht.tabs hs hw)) hq
def A2q(s:B4p):Nat:=if(Lib.decodeGo s).1=0∨((Lib.decodeGo s).1=65533∧(Lib.decodeGo s).2<2) then 0 else(Lib.decodeGo s).2
theorem B5Z(s:B4p):A2q s≤s.size:=by
 unfold A2q
 split
 ·exact C9 _
 ·exact Lib.decodeGo_le_size s
theorem C4C{h h0:Heap}{R:List Asn}(hs:sat h (old h0::R))(ht:U8 h0)(s:B4p){Q:Value→Heap→Prop}
  (hq:∀h',sat h' (old h0::R)→Q (.int .i64 (A2q s)) h'):V9 prog 102 #[.string s] h Q:=by
 refine B4C s h Q ?_
 delta B7S bn ie pu
 simp
 refine C1N hs ht s fun h' af=>?_
 have:=hq h' af
 unfold A2q at this
 by_cases g1:(Lib.decodeGo s).1=0
 ·simpa[g1] using this
 ·by_cases g2:(Lib.decodeGo s).1=65533
  ·by_cases g3:(Lib.decodeGo s).2<2
   ·have uE:((Lib.decodeGo s).2:Int)<2:=by omega
    simpa[g1,g2,g3,uE] using this
   ·have uE:¬((Lib.decodeGo s).2:Int)<2:=by omega
    simpa[g1,g2,g3,uE] using this
  ·have ym:¬((Lib.decodeGo s).1:Int)=65533:=by omega
   simpa[g1,g2,ym] using this
def A6f(s:B4p):Nat→Nat→Option Nat
 |0,_=>none
 |f+1,at'=>if at'<s.size then(if A2q (s.extract at' s.size)=0 then some at' else A6f s f (at'+A2q (s.extract at' s.size))) else none
def r9(s:B4p):Option Nat:=A6f s (s.size+1) 0
def B9L:Option Nat→Value
 |some n=>.tuple #[.int .i64 n,.bool true]
 |none=>.tuple #[.int .i64 0,.bool false]
theorem B7n{h h0:Heap}{R:List Asn}(hs:sat h (old h0::R))(ht:U8 h0)(s:B4p)(hsz:s.size≤9223372036854775807){Q:Value→Heap→Prop}
  (hq:∀h',sat h' (old h0::R)→Q (B9L (r9 s)) h'):V9 prog 60 #[.string s] h Q:=by
 refine B2W s h Q ?_
 delta B5k bn ci ie pu wi
 simp only[U7]
 refine o7 (γ:=Nat×Nat) (fun g c h'=>c.1=(g.2:Int)∧g.2≤s.size∧s.size-g.2<g.1∧A6f s g.1 g.2=r9 s∧sat h' (old h0::R)) (fun g=>g.1) (s.size+1,0) ⟨rfl,C9 _,by simp,rfl,hs⟩ ?_
 rintro⟨f,at'⟩ ⟨c,⟨⟩⟩ h1 ⟨hc,hle,hf,hg,aa⟩
 simp only at hc hle hf hg
 subst hc
 cases f with
 |zero=>omega
 |succ f=>
 simp only[A6f] at hg
 by_cases ah:at'<s.size
 ·rw[if_pos ah] at hg
  have bf:(at':Int)<(s.size:Int):=by omega
  simp[bf]
  refine⟨at',s.size,rfl,⟨rfl,by omega⟩,?_⟩
  refine C4C aa ht _ fun h2 ae=>?_
  have hn:=B5Z (s.extract at' s.size)
  generalize A2q (s.extract at' s.size)=n at hg hn⊢
  have gQ:(s.extract at' s.size).size=s.size-at':=by simp
  rw[gQ] at hn
  by_cases h0:n=0
  ·rw[if_pos h0] at hg
   have:=hq h2 ae
   rw[←hg] at this
   simpa[h0,B9L] using this
  ·rw[if_neg h0] at hg
   simp[h0]
   exact .mk (f,at'+n) (by simp) ⟨by simp only[];rw[W6 (by omega) (by omega)];rfl,by simp only[];omega,by simp only[];omega,hg,ae⟩
 ·rw[if_neg ah] at hg
  have bf:¬(at':Int)<(s.size:Int):=by omega
  have:=hq h1 aa
  rw[←hg] at this
  simpa[bf,B9L] using this
end Go.Proofs.YtidlldnlphdhcaaGreatDoor