/-
  Our texts, packed by program.
-/
import Derived.Test.YtidlldnlphdhcaaGreatDoorQBrokerPlays5
import Derived.Deep.DeepHandedRow
import Derived.Deep.DeepWitnessRowRef
import Derived.Test.YtidlldnlphdhcaaGreatDoorCards
import Derived.Test.YtidlldnlphdhcaaGreatDoorTie
import Derived.ShutString
import Derived.ChangeOld
import Derived.Carry
import Derived.SevenTiedAt
set_option linter.unusedSimpArgs false
set_option linter.unusedVariables false
set_option maxHeartbeats 16000000
set_option maxRecDepth 100000
namespace Go.Proofs.YtidlldnlphdhcaaGreatDoor
open Go.H
open Go.Proofs.Tryz
section
open Go.H Go.Proofs
variable {h:Heap} {R:List Asn}
theorem C0o{b:Nat}{o:b7}{m:MsT}(hs:sat h (a7 b o::R))(ag:X5 o){Q:Value→Heap→Prop}
  (hq:∀S h',sat h' (a7 b (Z1 o m).1.1::r6 .i64 S (Z1 o m).1.2::R)→Q (.tuple #[.slice S.a S.len S.cap,.int .i64 (Z1 o m).2]) h'):
  V9 prog 139 #[at0 b,vMs m] h Q:=by
 refine B3g (some ⟨b,0,none⟩) (toU m) h Q ?_
 obtain⟨pb,fl,wt,dW⟩:=j6.1 hs
 have eY:wt.len=o.waiting.length:=(dW.re [3,0,1,2]).aW
 delta B5L az bn cc g7 ie ji kb kc nn nw pu rq sx vs vz
 refine W5 dW fun mb h1 bx=>?_
 have aa:sat h1 (cells mb (Z5 m).toArray::cells b #[at0 pb,.int .i64 o.most,.bool o.on,.slice fl.a fl.len fl.cap,.slice wt.a wt.len wt.cap]::A0K pb o.aU::V1 u4 7 fl o.aF::V1 Z5 5 wt o.waiting::R):=bx
 clear bx dW hs
 have hM:W8 h1 ⟨mb,2,none⟩=some (.int .i64 m.2.2.1):=aa.cell 2
 have stay:∀{c:Int},Z1 o m=((o,[]),c)→Q (.tuple #[.slice none 0 0,.int .i64 c]) h1:=fun{c} he=>by
  have:=hq ⟨none,0,0⟩ h1
  rw[he] at this
  exact this ((A1X (j6.2 ⟨pb,fl,wt,aa.drop⟩)).p1)
 refine cut (fun x h'=>h'=h1∧x.1=decide (m.2.2.1<0∨2<m.2.2.1)) ?_ ?_
 ·intro K hK
  refine⟨m.2.2.1,by rw[V0];exact hM,?_⟩
  (try dsimp only);rw[V4]
  by_cases h0:m.2.2.1<0
  ·rw[if_pos (by simpa using h0)]
   exact hK _ _ ⟨rfl,by simp[h0]⟩
  ·rw[if_neg (by simpa using h0)]
   exact⟨m.2.2.1,by rw[V0];exact hM,hK _ _ ⟨rfl,by simp[h0]⟩⟩
 rintro⟨x,⟨⟩⟩ h2 ⟨rfl,hx⟩
 simp only at hx
 subst hx
 (try dsimp only);rw[V4]
 by_cases al:m.2.2.1<0∨2<m.2.2.1
 ·rw[if_pos (by simpa using al)]
  exact stay (by unfold Z1;rw[if_pos al])
 rw[if_neg (by simpa using al)]
 refine cut (fun x h'=>h'=h2∧x.1=decide (m.2.2.1=0∧o.on=false)) ?_ ?_
 ·intro K hK
  refine⟨m.2.2.1,by rw[V0];exact hM,?_⟩
  (try dsimp only);rw[V4]
  by_cases h0:m.2.2.1=0
  ·rw[if_pos (by simpa using h0)]
   refine⟨_,rfl,o.on,by rw[V0];exact aa.p1.cell 2,hK _ _ ⟨rfl,?_⟩⟩
   cases o.on<;>simp[h0]
  ·rw[if_neg (by simpa using h0)]
   exact hK _ _ ⟨rfl,by simp[h0]⟩
 rintro⟨x,⟨⟩⟩ h3 ⟨rfl,hx⟩
 simp only at hx
 subst hx
 (try dsimp only);rw[V4]
 by_cases dL:m.2.2.1=0∧o.on=false
 ·rw[if_pos (by simpa using dL)]
  exact stay (by unfold Z1;rw[if_neg al,if_pos dL])
 rw[if_neg (by simpa using dL)]
 refine⟨_,rfl,wt,by rw[V0];exact aa.p1.cell 4,?_⟩
 (try dsimp only);rw[V4]
 by_cases ax:256≤o.waiting.length
 ·rw[if_pos (by rw[eY];simp only[decide_eq_true_eq];omega)]
  exact stay (by unfold Z1;rw[if_neg al,if_neg dL,if_pos ax])
 rw[if_neg (by rw[eY];simp only[decide_eq_true_eq];omega)]
 refine⟨_,rfl,wt,by rw[V0];exact aa.p1.cell 4,?_⟩
 refine Z3 (ts:=[.str,.str,.int .i64,.bool,.str]) (toU m) aa rfl ?_
 refine W5 aa fun pO h4 ba=>?_
 have ae:sat h4 (cells pO (Z5 m).toArray::cells mb (Z5 m).toArray::cells b #[at0 pb,.int .i64 o.most,.bool o.on,.slice fl.a fl.len fl.cap,.slice wt.a wt.len wt.cap]::A0K pb o.aU::V1 u4 7 fl o.aF::V1 Z5 5 wt o.waiting::R):=ba
 clear ba
 refine⟨wt,by rw[V0];exact ae.p2.cell 4,rfl,?_⟩
 (try dsimp only);rw[U7]
 refine A0d (enc:=Z5) (ys:=[m]) A6i B2F rfl ae.p5 rfl ?_ (by decide) (by decide) (by omega) fun wt' h5 ai=>?_
 ·simp only[W4,N5,D8,I1,C1]
  exact ae.reads rfl
 refine⟨_,rfl,?_⟩
 (try dsimp only);rw[U7,V0]
 refine X3 ai.p3 (by simp) rfl fun h6 ak=>?_
 have aj:sat h6 (a7 b {o with waiting:=o.waiting++[m]}::r6 .i64 ⟨none,0,0⟩ []::R):=by
  refine(A1X (j6.2 ⟨pb,fl,wt',?_⟩)).p1
  exact(ak.re [0,4,5,1,2,3]).p4.p5.drop.drop
 have hw:=ag.wait (m:=m) ⟨by omega,by omega⟩ ax
 have he:Z1 o m=(Z6 {o with waiting:=o.waiting++[m]},0):=by unfold Z1;rw[if_neg al,if_neg dL,if_neg ax]
 rw[he] at hq
 refine V3 (B0V aj hw (by simp) fun h7 S aw=>⟨S,rfl,?_⟩)
 exact hq S h7 aw
theorem B9g{b:Nat}{o:b7}{most:Int}(hs:sat h (a7 b o::R))(ag:X5 o){Q:Value→Heap→Prop}
  (hq:∀S h',sat h' (a7 b (A0z o most).1::r6 .i64 S (A0z o most).2::R)→Q (.slice S.a S.len S.cap) h'):
  V9 prog 151 #[at0 b,.int .i64 most] h Q:=by
 refine B1P (some ⟨b,0,none⟩) most h Q ?_
 obtain⟨pb,fl,wt,dW⟩:=j6.1 hs
 delta B37 ad az bn cc ci g2 g5 g7 ie ix jb ji kc nn nw pu sn sx ve vi vs vz wi
 refine⟨_,rfl,?_⟩
 (try dsimp only);rw[U7,V0]
 refine X3 dW (by simp) rfl fun h0 tp=>?_
 refine V3 (B8g tp fun h1 aa=>⟨_,rfl,?_⟩)
 refine⟨_,rfl,?_⟩
 (try dsimp only);rw[U7,V0]
 refine X3 aa (by simp) rfl fun h2 ba=>?_
 have ae:sat h2 (cells b #[at0 pb,.int .i64 (max 1 (min most 64)),.bool true,.slice fl.a fl.len fl.cap,.slice wt.a wt.len wt.cap]::A0K pb o.aU::V1 u4 7 fl o.aF::V1 Z5 5 wt o.waiting::R):=ba
 clear ba aa dW hs
 have bZ:fl.len=o.aF.length:=ae.p2.aW
 have gF:=ag.f64
 (try dsimp only);rw[U7]
 refine A6x (γ:=Nat) (fun i x h'=>i≤o.aF.length∧x.2.1=(i:Int)∧sat h' (cells b #[at0 pb,.int .i64 (max 1 (min most 64)),.bool true,.slice fl.a fl.len fl.cap,.slice wt.a wt.len wt.cap]::A0K pb o.aU::V1 u4 7 fl o.aF::V1 Z5 5 wt o.waiting::r6 .i64 x.1 ((o.aF.take i).map A1E)::R))
  (fun i=>o.aF.length-i) 0 ⟨C9 _,rfl,by simpa using(A1X (k:=.i64) ae).re [1,2,3,4,0]⟩ ?_
 rintro i ⟨out,ci,⟨⟩⟩ h ⟨hi,hx,ai⟩ K bh hd
 simp only at hx ai
 subst hx
 refine⟨_,rfl,fl,by rw[V0];exact ai.cell 3,?_⟩
 (try dsimp only);rw[V4]
 by_cases ah:i<o.aF.length
 case neg=>
  rw[if_neg (by rw[bZ];simp only[decide_eq_true_eq];omega)]
  rw[D1 (by omega)] at ai
  refine hd _ _ ?_
  have ak:sat h (a7 b {o with on:=true,most:=max 1 (min most 64)}::r6 .i64 out (o.aF.map A1E)::R):=j6.2 ⟨pb,fl,wt,ai⟩
  have h1:X5 {o with on:=true,most:=max 1 (min most 64)}:=⟨ag.pm,ag.pk,by simp only;omega,by simp only;omega,ag.ids,ag.wl,ag.fq,ag.wq⟩
  refine V3 (B0V ak h1 (by rw[C0];omega) fun h7 S aw=>⟨S,rfl,?_⟩)
  exact hq S h7 aw
 case pos=>
  rw[if_pos (by rw[bZ];simp only[decide_eq_true_eq];omega)]
  have hy:=B0 ah
  have aR:(o.aF.take (i+1)).map A1E=(o.aF.take i).map A1E++[A1E o.aF[i]]:=by rw[H5,hy,B8];rfl
  generalize o.aF[i]=f at hy aR
  refine cut (fun z h'=>sat h' (r6 .i64 z.1 ((o.aF.take (i+1)).map A1E)::cells b #[at0 pb,.int .i64 (max 1 (min most 64)),.bool true,.slice fl.a fl.len fl.cap,.slice wt.a wt.len wt.cap]::A0K pb o.aU::V1 u4 7 fl o.aF::V1 Z5 5 wt o.waiting::R)) ?_ ?_
  rotate_left
  ·rintro⟨out',⟨⟩⟩ h6 aw
   exact bh (i+1) _ _ (by omega) ⟨by omega,by rw[W6 (by omega) (by omega)];rfl,aw.re [1,2,3,4,0]⟩
  intro K2 aQ
  refine⟨_,rfl,fl,by rw[V0];exact ai.cell 3,?_⟩
  (try dsimp only);rw[U7]
  refine Y0 (ai.p2.aN A2A) hy fun a ha=>?_
  refine A0A (ts:=[.int .i64,.str,.str,.int .i64,.bool,.str,.bool]) (C39 f) ha ?_
  refine W5 ai fun lR h4 ak=>?_
  (try dsimp only);rw[U7]
  refine o4 ak rfl rfl fun h5 fv=>?_
  have aj:sat h5 (cells lR (u4 f).toArray::cells b #[at0 pb,.int .i64 (max 1 (min most 64)),.bool true,.slice fl.a fl.len fl.cap,.slice wt.a wt.len wt.cap]::A0K pb o.aU::V1 u4 7 fl o.aF::V1 Z5 5 wt o.waiting::r6 .i64 out ((o.aF.take i).map A1E)::R):=fv
  clear fv ak
  refine⟨f.2.2,by rw[V0];exact aj.cell 6,?_⟩
  have mm:((o.aF.take i).map A1E).length≤64:=by rw[C0,D6];omega
  rw[aR] at aQ
  (try dsimp only);rw[V4]
  unfold A1E at aQ
  by_cases hr:f.2.2=true
  ·rw[if_pos hr]
   rw[if_pos hr] at aQ
   refine⟨f.1,by rw[V0];exact aj.cell 0,?_⟩
   have aw:=A3j (k:=.i64) (o:=l6 6 f.1 0) rfl rfl aj
   refine A5o (t:=(⟨none,0,0⟩,⟨none,0,0⟩,l6 6 f.1 0)) (aw.re [6,0,1,2,3,4,5]) rfl (by decide) (by omega) fun s' h6 aC=>?_
   exact aQ _ _ aC.p1.drop
  ·rw[if_neg hr]
   rw[if_neg hr] at aQ
   refine A0A (ts:=[.str,.str,.int .i64,.bool,.str]) (toU f.2.1) (fun j v hv=>?_) ?_
   ·rw[V0,Addr.bL,aj.cell]
    match j,hv with
    |0,hv=>exact hv
    |1,hv=>exact hv
    |2,hv=>exact hv
    |3,hv=>exact hv
    |4,hv=>exact hv
    |n+5,hv=>exact absurd hv (by show ¬(Z5 f.2.1)[n+5]? =some v;simp)
   refine⟨f.1,by rw[V0];exact aj.cell 0,?_⟩
   refine V3 (B9c (m:=f.2.1) (id:=f.1) (dup:=true) aj fun c p h6 aw=>⟨pkT (A0G f.2.1 f.1 true) c p,rfl,?_⟩)
   refine B5U (t:=(c,p,A0G f.2.1 f.1 true)) (aw.re [6,0,1,2,3,4,5]) rfl rfl (by omega) fun s' h7 aC=>?_
   exact aQ _ _ aC.p1.drop
theorem C0p{b:Nat}{o:b7}{i:Nat}{f:FlT}(hs:sat h (a7 b o::R))(ag:X5 o)(hf:o.aF[i]? =some f){Q:Value→Heap→Prop}
  (hq:∀h',sat h' (a7 b (A3l o f.1)::R)→Q (.tuple #[]) h'):V9 prog 195 #[at0 b,.int .i64 i] h Q:=by
 refine B3e (some ⟨b,0,none⟩) i h Q ?_
 obtain⟨pb,fl,wt,aa⟩:=j6.1 hs
 delta B5J az bn cb g5 ie ix kc ki kp nn nw pu sx vi vs wi
 have cF:=(D4.1 hf).1
 have gF:=ag.f64
 refine⟨_,rfl,some ⟨pb,0,none⟩,by rw[V0];exact aa.cell 0,_,rfl,fl,by rw[V0];exact aa.cell 3,?_⟩
 (try dsimp only);rw[U7]
 refine Y0 (aa.p2.aN A2A) hf fun a ha=>?_
 refine⟨f.1,ha 0 _ rfl,?_⟩
 refine V3 (B31 aa.p1 ag.pk fun h2 ba=>⟨_,rfl,?_⟩)
 have ae:sat h2 (cells b #[at0 pb,.int .i64 o.most,.bool o.on,.slice fl.a fl.len fl.cap,.slice wt.a wt.len wt.cap]::A0K pb ⟨o.aU.most,o.aU.taken,o.aU.used.erase f.1⟩::V1 u4 7 fl o.aF::V1 Z5 5 wt o.waiting::R):=ba.p1
 clear ba
 have bZ:fl.len=o.aF.length:=ae.p2.aW
 (try dsimp only);rw[U7]
 refine A6x (γ:=Nat) (fun j x h'=>j≤o.aF.length∧x.2.1=(j:Int)∧sat h' (V1 u4 7 x.1 (if j≤i then o.aF.take j else o.aF.take i++(o.aF.take j).drop (i+1))::cells b #[at0 pb,.int .i64 o.most,.bool o.on,.slice fl.a fl.len fl.cap,.slice wt.a wt.len wt.cap]::A0K pb ⟨o.aU.most,o.aU.taken,o.aU.used.erase f.1⟩::V1 u4 7 fl o.aF::V1 Z5 5 wt o.waiting::R))
  (fun j=>o.aF.length-j) 0 ⟨C9 _,rfl,by rw[if_pos (C9 _),T5];exact Z2 ae⟩ ?_
 rintro j ⟨out,ci,⟨⟩⟩ h ⟨hi,hx,ai⟩ K bh hd
 simp only at hx ai
 subst hx
 refine⟨_,rfl,fl,by rw[V0];exact ai.p1.cell 3,?_⟩
 (try dsimp only);rw[V4]
 by_cases ah:j<o.aF.length
 case neg=>
  rw[if_neg (by rw[bZ];simp only[decide_eq_true_eq];omega)]
  have hj:j=o.aF.length:=by omega
  have e:o.aF.take j=o.aF:=D1 (by omega)
  rw[if_neg (by omega),e,←List.eraseIdx_eq_take_drop_succ,B8G ag.nd hf] at ai
  refine hd _ _ ⟨_,rfl,?_⟩
  (try dsimp only);rw[U7,V0]
  refine X3 ai.p1 (by simp) rfl fun h4 ak=>?_
  exact hq h4 (j6.2 ⟨pb,out,wt,(ak.re [0,2,1,4,3]).re [0,1,2,3,4]|>fun hh=>(hh.re [4,0,1,2,3]).drop⟩)
 rw[if_pos (by rw[bZ];simp only[decide_eq_true_eq];omega)]
 have hy:=B0 ah
 have aR:o.aF.take (j+1)=o.aF.take j++[o.aF[j]]:=by rw[H5,hy];rfl
 generalize o.aF[j]=g at hy aR
 refine cut (fun z h'=>sat h' (V1 u4 7 z.1 (if j+1≤i then o.aF.take (j+1) else o.aF.take i++(o.aF.take (j+1)).drop (i+1))::cells b #[at0 pb,.int .i64 o.most,.bool o.on,.slice fl.a fl.len fl.cap,.slice wt.a wt.len wt.cap]::A0K pb ⟨o.aU.most,o.aU.taken,o.aU.used.erase f.1⟩::V1 u4 7 fl o.aF::V1 Z5 5 wt o.waiting::R)) ?_ ?_
 rotate_left
 ·rintro⟨out',⟨⟩⟩ h6 aw
  exact bh (j+1) _ _ (by omega) ⟨by omega,by rw[W6 (by omega) (by omega)];rfl,aw⟩
 intro K2 aQ
 (try dsimp only);rw[V4]
 by_cases vF:j=i
 ·rw[if_neg (by simp[vF])]
  refine aQ _ _ ?_
  subst vF
  rw[if_pos (D9 _)] at ai
  rw[if_neg (by omega),N0 (by rw[D6];omega),C1]
  exact ai
 ·rw[if_pos (by simp;omega)]
  refine⟨_,rfl,fl,by rw[V0];exact ai.p1.cell 3,?_⟩
  (try dsimp only);rw[U7]
  refine Y0 (ai.p3.aN A2A) hy fun a ha=>?_
  refine A0A (ts:=[.int .i64,.str,.str,.int .i64,.bool,.str,.bool]) (C39 g) ha ?_
  refine A0H (x:=g) A2A A9S rfl ai (by decide) (by decide) ?_ fun out' h4 ak=>?_
  ·have:(if j≤i then o.aF.take j else o.aF.take i++(o.aF.take j).drop (i+1)).length≤130:=by
    split
    ·rw[D6];omega
    ·rw[B3,R3,D6,D6];omega
   omega
  refine aQ _ _ ?_
  by_cases h1:j≤i
  ·rw[if_pos h1] at ak
   rw[if_pos (by omega),aR]
   exact ak
  ·rw[if_neg h1] at ak
   rw[if_neg (by omega),aR,P1 (by rw[D6];omega),←D7]
   exact ak
theorem C17{b:Nat}{o:b7}{p:Pk}(hs:sat h (a7 b o::R))(ag:X5 o){Q:Value→Heap→Prop}
  (hq:∀S h',sat h' (a7 b (A09 o p.1 p.2.2.2.2.1 p.2.2.2.2.2.2.2.1).1.1::r6 .i64 S (A09 o p.1 p.2.2.2.2.1 p.2.2.2.2.2.2.2.1).1.2::R)→Q (.tuple #[.slice S.a S.len S.cap,.int .i64 (A09 o p.1 p.2.2.2.2.1 p.2.2.2.2.2.2.2.1).2]) h'):
  V9 prog 142 #[at0 b,A2B .i64 p] h Q:=by
 refine B02 (some ⟨b,0,none⟩) p h Q ?_
 delta B1Q ad az bn cc cx g5 ie ix jb ji kb kc ki nn nw pu sn sx ve vi vs vz wi
 refine W5 hs fun cb h1 bx=>?_
 have aa:sat h1 (cells cb (X4 .i64 p).toArray::a7 b o::R):=bx
 clear bx hs
 have k0:∀{h':Heap} {R':List Asn},sat h' (cells cb (X4 .i64 p).toArray::R')→W8 h' ⟨cb,0,none⟩=some (.int .i64 p.1):=fun hs=>hs.cell 0
 have k4:∀{h':Heap} {R':List Asn},sat h' (cells cb (X4 .i64 p).toArray::R')→W8 h' ⟨cb,4,none⟩=some (.int .i64 p.2.2.2.2.1):=fun hs=>hs.cell 4
 have k7:∀{h':Heap} {R':List Asn},sat h' (cells cb (X4 .i64 p).toArray::R')→W8 h' ⟨cb,7,none⟩=some (.int .i64 p.2.2.2.2.2.2.2.1):=fun hs=>hs.cell 7
 generalize hk:p.1=k at*
 generalize hid:p.2.2.2.2.1=id at*
 generalize pg:p.2.2.2.2.2.2.2.1=c at*
 generalize(X4 .i64 p).toArray=cs at*
 have stay:∀{cc:Int} {h':Heap},sat h' (cells cb cs::a7 b o::R)→A09 o k id c=((o,[]),cc)→Q (.tuple #[.slice none 0 0,.int .i64 cc]) h':=fun{cc h'} hs he=>by
  have:=hq ⟨none,0,0⟩ h'
  rw[he] at this
  exact this ((A1X hs.drop).p1)
 refine⟨k,by rw[V0];exact k0 aa,k,by rw[V0];exact k0 aa,k,by rw[V0];exact k0 aa,?_⟩
 refine cut (fun x h'=>h'=h1∧x.1=decide (o.on=false∨(k≠4∧k≠5∧k≠7))) ?_ ?_
 ·intro K hK
  obtain⟨pb,fl,wt,ae⟩:=j6.1 aa.p1
  refine⟨_,rfl,o.on,by rw[V0];exact ae.cell 2,?_⟩
  (try dsimp only);rw[V4]
  cases aV:o.on with
  |false=>rw[if_pos (by rfl)];exact hK _ _ ⟨rfl,by simp[aV]⟩
  |true=>
   rw[if_neg (by simp)]
   (try dsimp only);rw[V4]
   by_cases h4:k=4
   ·rw[if_neg (by simp[h4])];exact hK _ _ ⟨rfl,by simp[h4,aV]⟩
   ·rw[if_pos (by simp[h4])]
    (try dsimp only);rw[V4]
    by_cases h5:k=5
    ·rw[if_neg (by simp[h5])];exact hK _ _ ⟨rfl,by simp[h5,aV]⟩
    ·rw[if_pos (by simp[h5])]
     refine hK _ _ ⟨rfl,?_⟩
     by_cases h7:k=7<;>simp[h4,h5,h7,aV]
 rintro⟨x,⟨⟩⟩ h2 ⟨rfl,hx⟩
 simp only at hx
 subst hx
 (try dsimp only);rw[V4]
 by_cases al:o.on=false∨(k≠4∧k≠5∧k≠7)
 ·rw[if_pos (by simpa using al)]
  exact stay aa (by unfold A09;rw[if_pos al])
 rw[if_neg (by simpa using al)]
 have gF:=ag.f64
 obtain⟨pb,fl,wt,ba⟩:=j6.1 aa.p1
 have ae:sat h2 (cells b #[at0 pb,.int .i64 o.most,.bool o.on,.slice fl.a fl.len fl.cap,.slice wt.a wt.len wt.cap]::cells cb cs::A0K pb o.aU::V1 u4 7 fl o.aF::V1 Z5 5 wt o.waiting::R):=ba.re [0,4,1,2,3]
 clear ba
 have bZ:fl.len=o.aF.length:=ae.p3.aW
 refine cut (fun z h'=>h'=h2∧((z.1= -1∧∀f∈o.aF,f.1≠id)∨∃(i:Nat) (f:FlT),z.1=(i:Int)∧o.aF[i]? =some f∧f.1=id)) ?_ ?_
 ·intro K hK
  refine A6x (γ:=Nat) (fun j x h'=>h'=h2∧j≤o.aF.length∧x.2.1=(j:Int)∧((x.1= -1∧∀f∈o.aF.take j,f.1≠id)∨∃(i:Nat) (f:FlT),x.1=(i:Int)∧o.aF[i]? =some f∧f.1=id))
   (fun j=>o.aF.length-j) 0 ⟨rfl,C9 _,rfl,.inl ⟨rfl,by simp⟩⟩ ?_
  rintro j ⟨z,ci,⟨⟩⟩ h ⟨rfl,hi,hx,hz⟩ K1 bh hd
  simp only at hx hz
  subst hx
  refine⟨_,rfl,fl,by rw[V0];exact ae.cell 3,?_⟩
  (try dsimp only);rw[V4]
  by_cases ah:j<o.aF.length
  case neg=>
   rw[if_neg (by rw[bZ];simp only[decide_eq_true_eq];omega)]
   rw[D1 (by omega)] at hz
   exact hd _ _ (hK _ _ ⟨rfl,hz⟩)
  rw[if_pos (by rw[bZ];simp only[decide_eq_true_eq];omega)]
  refine⟨_,rfl,fl,by rw[V0];exact ae.cell 3,?_⟩
  have hy:=B0 ah
  have aR:o.aF.take (j+1)=o.aF.take j++[o.aF[j]]:=by rw[H5,hy];rfl
  generalize o.aF[j]=g at hy aR
  (try dsimp only);rw[U7]
  refine Y0 (ae.p3.aN A2A) hy fun a ha=>?_
  refine⟨g.1,ha 0 _ rfl,id,by rw[V0];exact k4 ae.p1,?_⟩
  have nx:∀z':Int,((z'= -1∧∀f∈o.aF.take (j+1),f.1≠id)∨∃(i:Nat) (f:FlT),z'=(i:Int)∧o.aF[i]? =some f∧f.1=id)→K1 (.inl (z',IntKind.wrap .i64 ((j:Int)+1),())) h:=fun z' oK=>
   bh (j+1) _ _ (by omega) ⟨rfl,by omega,by rw[W6 (by omega) (by omega)];rfl,oK⟩
  (try dsimp only);rw[U7,V4]
  by_cases e:g.1=id
  ·rw[if_pos (by simpa using e)]
   exact nx _ (.inr ⟨j,g,rfl,hy,e⟩)
  ·rw[if_neg (by simpa using e)]
   refine nx _ ?_
   rcases hz with⟨hz,hn⟩|hz
   ·refine .inl ⟨hz,fun f hf=>?_⟩
    rw[aR] at hf
    rcases C7.1 hf with hf|hf
    ·exact hn f hf
    ·rw[B9.1 hf];exact e
   ·exact .inr hz
 rintro⟨z,cj,⟨⟩⟩ h3 ⟨rfl,hz⟩
 simp only at hz
 (try dsimp only);rw[V4]
 rcases hz with⟨rfl,ay⟩|⟨i,f,rfl,hf,he⟩
 ·rw[if_pos (by rfl)]
  refine stay aa ?_
  unfold A09
  rw[if_neg al,B8F ay]
 rw[if_neg (by simp)]
 have gX:=C1d ag.nd hf he
 have oZ:=E9 hf
 have aJ:A09 o k id c=(if k=4 then(if f.2.1.2.2.1≠1 then((o,[]),130) else(Z6 (A3l o id),0))
   else if k=5 then
    (if f.2.1.2.2.1≠2∨(128≤c∧f.2.2=true) then((o,[]),130)
    else if 128≤c then(Z6 (A3l o id),0)
    else(((Z6 (B24 o id)).1,l6 6 id 0::(Z6 (B24 o id)).2),0))
   else(if f.2.2=false then((o,[]),130) else(Z6 (A3l o id),0))):=by
  unfold A09
  rw[if_neg al,gX]
 have xK:=ag.fq f oZ
 refine⟨_,rfl,fl,by rw[V0];exact ae.cell 3,?_⟩
 (try dsimp only);rw[U7]
 refine Y0 (ae.p3.aN A2A) hf fun a ha=>?_
 refine A0A (ts:=[.int .i64,.str,.str,.int .i64,.bool,.str,.bool]) (C39 f) ha ?_
 refine W5 ae fun mA h4 ak=>?_
 (try dsimp only);rw[U7]
 refine o4 ak rfl rfl fun h5 fv=>?_
 have aj:sat h5 (cells mA (u4 f).toArray::cells b #[at0 pb,.int .i64 o.most,.bool o.on,.slice fl.a fl.len fl.cap,.slice wt.a wt.len wt.cap]::cells cb cs::A0K pb o.aU::V1 u4 7 fl o.aF::V1 Z5 5 wt o.waiting::R):=fv
 clear fv ak
 have bV:sat h5 (cells cb cs::a7 b o::R):=sat.p1 (j6.2 ⟨pb,fl,wt,(aj.drop.re [0,2,3,4,1])⟩)
 have aq:W8 h5 ((Addr.add ⟨mA,0,none⟩ 1).add 2)=some (.int .i64 f.2.1.2.2.1):=by rw[B2R,V0];exact aj.cell 3
 have ar:W8 h5 (Addr.add ⟨mA,0,none⟩ 6)=some (.bool f.2.2):=by rw[V0];exact aj.cell 6
 refine cut (fun z h'=>h'=h5∧z.1=decide (k=4∧f.2.1.2.2.1≠1)) ?_ ?_
 ·intro K hK
  (try dsimp only);rw[V4]
  by_cases e:k=4
  ·rw[if_pos (by simpa using e)]
   exact⟨_,aq,hK _ _ ⟨rfl,by simp[e];rfl⟩⟩
  ·rw[if_neg (by simpa using e)]
   exact hK _ _ ⟨rfl,by simp[e]⟩
 rintro⟨z,⟨⟩⟩ h6 ⟨rfl,hz⟩
 simp only at hz
 subst hz
 (try dsimp only);rw[V4]
 by_cases t1:k=4∧f.2.1.2.2.1≠1
 ·rw[if_pos (by simpa using t1)]
  rw[if_pos t1.1,if_pos t1.2] at aJ
  exact stay bV aJ
 rw[if_neg (by simpa using t1)]
 refine cut (fun z h'=>h'=h6∧z.1=decide ((k=5∨k=7)∧f.2.1.2.2.1≠2)) ?_ ?_
 ·intro K hK
  (try dsimp only);rw[V4]
  by_cases e:k=5
  ·rw[if_pos (by simpa using e)]
   exact⟨_,aq,hK _ _ ⟨rfl,by simp[e];rfl⟩⟩
  ·rw[if_neg (by simpa using e)]
   (try dsimp only);rw[V4]
   by_cases e7:k=7
   ·rw[if_pos (by simpa using e7)]
    exact⟨_,aq,hK _ _ ⟨rfl,by simp[e7];rfl⟩⟩
   ·rw[if_neg (by simpa using e7)]
    exact hK _ _ ⟨rfl,by simp[e,e7]⟩
 rintro⟨z,⟨⟩⟩ h7 ⟨rfl,hz⟩
 simp only at hz
 subst hz
 (try dsimp only);rw[V4]
 have hk:k=4∨k=5∨k=7:=by
  refine O4 fun e=>al (.inr ⟨fun x=>e (.inl x),fun x=>e (.inr (.inl x)),fun x=>e (.inr (.inr x))⟩)
 by_cases t2:(k=5∨k=7)∧f.2.1.2.2.1≠2
 ·rw[if_pos (by simpa using t2)]
  refine stay bV ?_
  rcases t2 with⟨rfl|rfl,t2⟩
  ·rw[if_neg (by decide),if_pos rfl,if_pos (.inl t2)] at aJ
   exact aJ
  ·have hr:f.2.2=false:=by
    cases hr:f.2.2 with
    |false=>rfl
    |true=>exact absurd (xK.2.2 hr) t2
   rw[if_neg (by decide),if_neg (by decide),if_pos hr] at aJ
   exact aJ
 rw[if_neg (by simpa using t2)]
 refine cut (fun z h'=>h'=h7∧z.1=decide (k=5∧128≤c∧f.2.2=true)) ?_ ?_
 ·intro K hK
  (try dsimp only);rw[V4]
  by_cases e:k=5
  ·rw[if_pos (by simpa using e)]
   refine⟨c,by rw[V0];exact k7 aj.p2,?_⟩
   (try dsimp only);rw[V4]
   by_cases hc:128≤c
   ·rw[if_pos (by simpa using hc)]
    refine⟨_,ar,hK _ _ ⟨rfl,?_⟩⟩
    simp[e,hc]
   ·rw[if_neg (by simpa using hc)]
    exact hK _ _ ⟨rfl,by simp[hc]⟩
  ·rw[if_neg (by simpa using e)]
   exact hK _ _ ⟨rfl,by simp[e]⟩
 rintro⟨z,⟨⟩⟩ h8 ⟨rfl,hz⟩
 simp only at hz
 subst hz
 (try dsimp only);rw[V4]
 by_cases t3:k=5∧128≤c∧f.2.2=true
 ·rw[if_pos (decide_eq_true t3)]
  rw[if_neg (by rw[t3.1];decide),if_pos t3.1,if_pos (.inr t3.2)] at aJ
  exact stay bV aJ
 rw[if_neg (by rw[decide_eq_true_eq];exact t3)]
 refine cut (fun z h'=>h'=h8∧z.1=decide (k=7∧f.2.2=false)) ?_ ?_
 ·intro K hK
  (try dsimp only);rw[V4]
  by_cases e:k=7
  ·rw[if_pos (by simpa using e)]
   refine⟨_,ar,hK _ _ ⟨rfl,?_⟩⟩
   cases f.2.2<;>simp[e]
  ·rw[if_neg (by simpa using e)]
   exact hK _ _ ⟨rfl,by simp[e]⟩
 rintro⟨z,⟨⟩⟩ h9 ⟨rfl,hz⟩
 simp only at hz
 subst hz
 (try dsimp only);rw[V4]
 by_cases t4:k=7∧f.2.2=false
 ·rw[if_pos (decide_eq_true t4)]
  rw[if_neg (by rw[t4.1];decide),if_neg (by rw[t4.1];decide),if_pos t4.2] at aJ
  exact stay bV aJ
 rw[if_neg (by rw[decide_eq_true_eq];exact t4)]
 refine cut (fun z h'=>h'=h9∧z.1=decide (k=5∧c<128)) ?_ ?_
 ·intro K hK
  (try dsimp only);rw[V4]
  by_cases e:k=5
  ·rw[if_pos (by simpa using e)]
   refine⟨c,by rw[V0];exact k7 aj.p2,hK _ _ ⟨rfl,?_⟩⟩
   simp[e]
  ·rw[if_neg (by simpa using e)]
   exact hK _ _ ⟨rfl,by simp[e]⟩
 rintro⟨z,⟨⟩⟩ gm ⟨rfl,hz⟩
 simp only at hz
 subst hz
 refine cut (fun z h'=>∃(o':b7) (os:List PkO),X5 o'∧os.length≤10∧A09 o k id c=(((Z6 o').1,os++(Z6 o').2),0)∧sat h' (a7 b o'::r6 .i64 z.1 os::R)) ?_ ?_
 rotate_left
 ·rintro⟨z,⟨⟩⟩ h4 ⟨o',os,g1,g2,g3,g4⟩
  refine V3 (B0V g4 g1 (by omega) fun h7 S aw=>⟨S,rfl,?_⟩)
  have:=hq S h7
  rw[g3] at this
  exact this aw
 intro K hK
 (try dsimp only);rw[V4]
 by_cases t5:k=5∧c<128
 ·rw[if_pos (decide_eq_true t5)]
  have fc:f.2.1.2.2.1=2:=Classical.not_not.1 fun e=>t2 ⟨.inl t5.1,e⟩
  rw[if_neg (by rw[t5.1];decide),if_pos t5.1,if_neg (by rintro(e|⟨e,-⟩);exact e fc;omega),if_neg (by omega)] at aJ
  refine⟨_,rfl,fl,by rw[V0];exact aj.p1.cell 3,?_⟩
  (try dsimp only);rw[U7]
  refine B9F A2A aj.p4 hf fun a ha bF=>?_
  refine bF 6 (.bool true) (f.1,f.2.1,true) _ (by decide) rfl rfl fun rD fa=>?_
  rw[C3p ag.nd hf,he] at fa
  have aw:sat rD (cells cb cs::a7 b (B24 o id)::R):=sat.p1 (j6.2 ⟨pb,fl,wt,(fa.re [2,4,0,5,3,1])|>fun hh=>(hh.re [5,0,1,2,3,4]).drop⟩)
  refine⟨id,by rw[V0];exact k4 aw,?_⟩
  have aC:=A1X (k:=.i64) (A3j (k:=.i64) (o:=l6 6 id 0) rfl rfl aw)
  refine A5o (t:=(⟨none,0,0⟩,⟨none,0,0⟩,l6 6 id 0)) aC rfl (by decide) (by decide) fun s' h6 bq=>?_
  have hrel:X5 (B24 o id):=ag.rel fun g hg e=>by rw[ag.one hg oZ (e.trans he.symm)];exact fc
  exact hK _ _ ⟨B24 o id,[l6 6 id 0],hrel,by simp,aJ,bq.p1.drop.re [1,0]⟩
 ·rw[if_neg (by rw[decide_eq_true_eq];exact t5)]
  refine u6 (C0p bV.p1 ag hf fun h' af=>⟨(),rfl,?_⟩)
  rw[he] at af
  refine hK _ _ ⟨A3l o id,[],ag.over id,by simp,?_,(A1X af.p1.drop).p1⟩
  rcases hk with e|e|e
  ·rw[if_pos e,if_neg (by rintro e1;exact t1 ⟨e,e1⟩)] at aJ
   exact aJ
  ·rw[if_neg (by rw[e];decide),if_pos e,if_neg (by rintro(e1|e1);exact t2 ⟨.inl e,e1⟩;exact t3 ⟨e,e1⟩),if_pos (by omega)] at aJ
   exact aJ
  ·rw[if_neg (by rw[e];decide),if_neg (by rw[e];decide),if_neg (fun e1=>t4 ⟨e,e1⟩)] at aJ
   exact aJ
end
section
open Go.H Go.Proofs
variable {h h0:Heap} {L L' L1 L2 L3 L4 R:List Asn} {Q:Value→Heap→Prop}
abbrev eQ(x:Nat):D0r:=[at0 x]
instance:Enc eQ 1:=⟨fun _=>rfl,fun x v hv=>by rw[B9.1 hv];rfl,by decide⟩
def A05(ib:Nat)(i:y9):Asn:=exA fun qb:Nat=>star (cells ib #[at0 qb]) (A0K qb i)
theorem A3h{ib:Nat}{i:y9}:sat h (A05 ib i::R)↔∃qb:Nat,sat h (cells ib #[at0 qb]::A0K qb i::R):=by
 unfold A05
 rw[sat.aZ]
 simp only[sat.aI]
abbrev rqC(s:W7)(ob ib:Nat):D0q:=#[.int .i64 s.id,.string s.aD,.bool s.aO,.bool s.on,at0 ob,at0 ib]
def rsA(b:Nat)(s:W7):Asn:=exA fun x:Nat×Nat=>A00 [cells b (rqC s x.1 x.2),a7 x.1 s.out,A05 x.2 s.bA]
theorem B1E{b:Nat}{s:W7}:sat h (rsA b s::R)↔∃ob ib:Nat,sat h (cells b (rqC s ob ib)::a7 ob s.out::A05 ib s.bA::R):=by
 unfold rsA
 rw[sat.aZ]
 simp only[sat.bW]
 exact⟨fun⟨x,hh⟩=>⟨x.1,x.2,hh⟩,fun⟨a,b,hh⟩=>⟨(a,b),hh⟩⟩
def A0x(b:Nat)(last:Int)(A:List W7):Asn:=exA fun x:Slc×List (Nat×W7)=>A00 [pr (x.2.map (·.2)=A),cells b #[.int .i64 last,.slice x.1.a x.1.len x.1.cap],V1 eQ 1 x.1 (x.2.map (·.1)),b8 (fun p=>rsA p.1 p.2) x.2]
theorem A0W{b:Nat}{last:Int}{A:List W7}:sat h (A0x b last A::R)↔∃(S:Slc) (M:List (Nat×W7)),M.map (·.2)=A∧sat h (cells b #[.int .i64 last,.slice S.a S.len S.cap]::V1 eQ 1 S (M.map (·.1))::b8 (fun p=>rsA p.1 p.2) M::R):=by
 unfold A0x
 rw[sat.aZ]
 simp only[sat.bW,G7,F0,sat.bB]
 exact⟨fun⟨x,hh⟩=>⟨x.1,x.2,hh⟩,fun⟨a,b,hh⟩=>⟨(a,b),hh⟩⟩
def A2K(b:Nat)(last:Int)(A:List W7)(s:W7)(nb:Nat):Asn:=exA fun x:Slc×List (Nat×W7)×List (Nat×W7)=>A00 [pr ((x.2.1++(nb,s)::x.2.2).map (·.2)=A),
 cells b #[.int .i64 last,.slice x.1.a x.1.len x.1.cap],V1 eQ 1 x.1 ((x.2.1++(nb,s)::x.2.2).map (·.1)),b8 (fun p=>rsA p.1 p.2) (x.2.1++x.2.2)]
theorem A85{b nb:Nat}{last:Int}{A:List W7}{s:W7}:sat h (A2K b last A s nb::R)↔∃(S:Slc) (l1 l2:List (Nat×W7)),(l1++(nb,s)::l2).map (·.2)=A∧
  sat h (cells b #[.int .i64 last,.slice S.a S.len S.cap]::V1 eQ 1 S ((l1++(nb,s)::l2).map (·.1))::b8 (fun p=>rsA p.1 p.2) (l1++l2)::R):=by
 unfold A2K
 rw[sat.aZ]
 simp only[sat.bW,G7,F0,sat.bB]
 exact⟨fun⟨x,hh⟩=>⟨x.1,x.2.1,x.2.2,hh⟩,fun⟨a,b,c,hh⟩=>⟨(a,b,c),hh⟩⟩
theorem B5v{b:Nat}{last:Int}{S:Slc}{l1 l2:List (Nat×W7)}{p:Nat×W7}(hs:sat h (cells b #[.int .i64 last,.slice S.a S.len S.cap]::V1 eQ 1 S ((l1++p::l2).map (·.1))::b8 (fun p=>rsA p.1 p.2) (l1++p::l2)::R)):
  ∃ob ib:Nat,sat h (cells p.1 (rqC p.2 ob ib)::a7 ob p.2.out::A05 ib p.2.bA::A2K b last ((l1++p::l2).map (·.2)) p.2 p.1::R):=by
 have h1:=k8.1 (hs.re [2,0,1])
 obtain⟨ob,ib,h2⟩:=B1E.1 h1
 refine⟨ob,ib,?_⟩
 have h3:sat h (A2K b last ((l1++p::l2).map (·.2)) p.2 p.1::cells p.1 (rqC p.2 ob ib)::a7 ob p.2.out::A05 ib p.2.bA::R):=A85.2 ⟨S,l1,l2,rfl,h2.re [4,5,3,0,1,2]⟩
 exact h3.re [1,2,3,0]
theorem C4l{b nb ob ib:Nat}{last:Int}{A:List W7}{s s':W7}{f:W7→W7}(hn:(A.map (·.id)).Nodup)(hf:f s=s'):∀h,sat h (cells nb (rqC s' ob ib)::a7 ob s'.out::A05 ib s'.bA::A2K b last A s nb::R)→sat h (A0x b last (Y4 s.id f A)::R):=by
 intro h hs
 obtain⟨S,l1,l2,rfl,h1⟩:=A85.1 (hs.re [3,0,1,2])
 rw[B8,B5] at hn⊢
 rw[A82 hn,hf]
 refine A0W.2 ⟨S,l1++(nb,s')::l2,by simp,?_⟩
 have h2:sat h (rsA nb s'::b8 (fun p=>rsA p.1 p.2) (l1++l2)::cells b #[.int .i64 last,.slice S.a S.len S.cap]::V1 eQ 1 S ((l1++(nb,s)::l2).map (·.1))::R):=B1E.2 ⟨ob,ib,h1.re [3,4,5,2,0,1]⟩
 have h3:sat h (b8 (fun p=>rsA p.1 p.2) (l1++(nb,s')::l2)::cells b #[.int .i64 last,.slice S.a S.len S.cap]::V1 eQ 1 S ((l1++(nb,s)::l2).map (·.1))::R):=k8.2 h2
 have e:(l1++(nb,s')::l2).map (·.1)=(l1++(nb,s)::l2).map (·.1):=by simp
 rw[e]
 exact h3.re [1,2,0]
theorem A5j{b nb ob ib:Nat}{last k:Int}{A:List W7}{s s':W7}{f:W7→W7}(hk:s.id=k)(hn:(A.map (·.id)).Nodup)(hf:f s=s'):∀h,sat h (cells nb (rqC s' ob ib)::a7 ob s'.out::A05 ib s'.bA::A2K b last A s nb::R)→sat h (A0x b last (Y4 k f A)::R):=by
 subst hk;exact C4l hn hf
theorem A5i{b nb ob ib:Nat}{last:Int}{A:List W7}{s:W7}:∀h,sat h (cells nb (rqC s ob ib)::a7 ob s.out::A05 ib s.bA::A2K b last A s nb::R)→sat h (A0x b last A::R):=by
 intro h hs
 obtain⟨S,l1,l2,rfl,h1⟩:=A85.1 (hs.re [3,0,1,2])
 refine A0W.2 ⟨S,l1++(nb,s)::l2,rfl,?_⟩
 have h2:sat h (rsA nb s::b8 (fun p=>rsA p.1 p.2) (l1++l2)::cells b #[.int .i64 last,.slice S.a S.len S.cap]::V1 eQ 1 S ((l1++(nb,s)::l2).map (·.1))::R):=B1E.2 ⟨ob,ib,h1.re [3,4,5,2,0,1]⟩
 have h3:sat h (b8 (fun p=>rsA p.1 p.2) (l1++(nb,s)::l2)::cells b #[.int .i64 last,.slice S.a S.len S.cap]::V1 eQ 1 S ((l1++(nb,s)::l2).map (·.1))::R):=k8.2 h2
 exact h3.re [1,2,0]
theorem C6U{β:Type}{Q':β→Heap→Prop}{M:List (Nat×W7)}{p:Nat×W7}{j:Nat}{t:Tag}{v:t.ty}{f:t.ty→HM β}(hp:p∈M)(hv:∀ob ib,((rqC p.2 ob ib)[j]?).bind t.get=some v)(hw:W L (f v) Q')(hx:Has L (b8 (fun p=>rsA p.1 p.2) M) L1:=by repeat first|with_reducible exact V5|apply V7):W L (HM.bind (r7 t (Addr.add ⟨p.1,0,none⟩ j)) f) Q':=fun h hs=>by
 obtain⟨R',h1⟩:=A9v hp (hx.s hs)
 obtain⟨ob,ib,h2⟩:=B1E.1 h1
 refine⟨v,?_,hw h hs⟩
 rw[V0,h2.cell j]
 have:=hv ob ib
 cases hc:(rqC p.2 ob ib)[j]? with
 |none=>rw[hc] at this;cases this
 |some u=>rw[hc] at this;exact congrArg some (Tag.bU this)
theorem B3O{α:Type}{f:α→Asn}(q:α→Bool):∀{l:List α} {R:List Asn},sat h (b8 f l::R)→sat h (b8 f (l.filter q)::R)
 |[],R,hs=>hs
 |x::l,R,hs=>by
  have aa:=o3.1 hs
  by_cases hx:q x=true
  ·rw[G9 hx]
   exact o3.2 (B3O q aa.p1).p1
  ·rw[G2 hx]
   exact B3O q aa.drop
theorem A9B{α:Type}{M:List α}{i:Nat}(h:i<M.length):M=M.take i++M[i]::M.drop (i+1):=by
 rw[←E0 h,J0]
theorem C3A{b:Nat}{last:Int}{A:List W7}{k:Int}(hl:A.length≤1000)
  (ay:(∀s∈A,s.id≠k)→At (A0x b last A::L1) (Q (.pointer none)))
  (db:∀s∈A,s.id=k→∀nb ob ib,At (cells nb (rqC s ob ib)::a7 ob s.out::A05 ib s.bA::A2K b last A s nb::L1) (Q (at0 nb)))
  (hx:Has L (A0x b last A) L1:=by repeat first|with_reducible exact V5|apply V7):FW prog 90 #[at0 b,.int .i64 k] L Q:=by
 refine fun h hs=>B4J (some ⟨b,0,none⟩) k h Q ((?_:W (A0x b last A::L1) _ _) h (hx.s hs))
 clear hs h hx
 delta B75 bn ie ix kc ki lp nn pu wi
 refine A7t (g:=fun S (M:{M:List (Nat×W7) // M.map (·.2)=A}) R=>cells b #[.int .i64 last,.slice S.a S.len S.cap]::V1 eQ 1 S (M.1.map (·.1))::b8 (fun p=>rsA p.1 p.2) M.1::R) (fun h R hs=>by
  obtain⟨S,M,hM,h1⟩:=A0W.1 hs
  exact⟨S,⟨M,hM⟩,h1⟩) fun S M=>?_
 obtain⟨M,hM⟩:=M
 subst hM
 dsimp only
 rw[C0] at hl
 refine Y7 (X7 (enc:=eQ) (size:=1) (s:=S) (xs:=M.map (·.1))) fun cA=>?_
 rw[C0] at cA
 refine W.loop (γ:=Nat) (fun g s=>s.1=(g:Int)∧g≤M.length∧∀p∈M.take g,p.2.id≠k) (fun g s=>cells b #[.int .i64 last,.slice S.a S.len S.cap]::V1 eQ 1 S (M.map (·.1))::b8 (fun p=>rsA p.1 p.2) M::L1) (fun g=>M.length-g) 0 ⟨rfl,C9 _,by simp⟩ Sub.rfl ?_
 rintro i s ⟨hi,cF,hn⟩ K k1 k2
 refine W9 ?_
 refine W.load (b:=b) (v:=S) ?_
 by_cases ah:i<M.length
 ·refine Y5 (by rw[hi,cA];exact decide_eq_true (by omega)) ?_
  have nX:M[i]∈M:=H6 ah
  have aP:(M.map (·.1))[i]? =some M[i].1:=by simp[B0 ah]
  have bf:i<(M.map (·.1)).length:=by simpa using ah
  have aR:M.take (i+1)=M.take i++[M[i]]:=C3 ah
  have ei:=A9B ah
  refine W9 ?_
  refine W.load (b:=b) (v:=S) ?_
  refine b9 (enc:=eQ) (xs:=M.map (·.1)) (i:=i) bf (fun a ha=>?_) (he:=hi)
  refine A9y (x:=M[i].1) (v:=some ⟨M[i].1,0,none⟩) ha aP ?_
  refine W9 ?_
  refine C6U (p:=M[i]) (v:=M[i].2.id) nX (fun ob ib=>rfl) ?_
  by_cases hk:M[i].2.id=k
  ·refine Y5 (by simpa using hk) ?_
   refine W9 ?_
   refine W.load (b:=b) (v:=S) ?_
   refine b9 (enc:=eQ) (xs:=M.map (·.1)) (i:=i) bf (fun a ha=>?_) (he:=hi)
   refine A9y (x:=M[i].1) (v:=some ⟨M[i].1,0,none⟩) ha aP ?_
   refine U9 (k2 _ _ (W.inr (U9 ?_)))
   clear k1 k2
   intro h hs
   have hy:=db M[i].2 (B4 nX) hk M[i].1
   generalize M[i]=p at ei hy
   rw[ei] at hs hy
   obtain⟨ob,ib,h2⟩:=B5v hs
   exact hy ob ib h h2
  ·refine X1 (by simpa using hk) ?_
   have ig:=k1 (i+1) (IntKind.wrap .i64 (s.1+1),()) (by omega) ⟨by simp only[hi];rw[W6 (by omega) (by omega)];rfl,ah,fun p hp=>by
    rw[aR] at hp
    rcases C7.1 hp with hp|hp
    ·exact hn p hp
    ·rw[B9.1 hp];exact hk⟩
   exact U9 ig.sub
 ·refine X1 (by rw[hi,cA];exact decide_eq_false (by omega)) (U9 (k2 _ _ (W.inl (U9 ?_))))
  have bC:=ay fun s hs=>by
   obtain⟨p,hp,rfl⟩:=E3.1 hs
   exact hn p (by rw[D1 (by omega)];exact hp)
  exact fun h hs=>bC h (A0W.2 ⟨S,M,rfl,hs⟩)
theorem C2e{b:Nat}{last:Int}{A:List W7}{s:W7}{k:Int}(hl:A.length≤1000)(hn:(A.map (·.id)).Nodup)(hs:s∈A)(hk:s.id=k)
  (hq:∀nb ob ib,At (cells nb (rqC s ob ib)::a7 ob s.out::A05 ib s.bA::A2K b last A s nb::L1) (Q (at0 nb)))(hx:Has L (A0x b last A) L1:=by repeat first|with_reducible exact V5|apply V7):FW prog 90 #[at0 b,.int .i64 k] L Q:=
 C3A hl (fun ay=>absurd hk (ay s hs)) (fun s' af ij=>by rw[A7b (f:=(·.id)) hn af hs (ij.trans hk.symm)];exact hq) hx
theorem B9m{b:Nat}{last:Int}{A:List W7}{c:B4p}(hl:A.length≤1000)(cd:(A.map (·.aD)).Nodup)
  (ay:ofS c A=none→At (A0x b last A::L1) (Q (.pointer none)))
  (db:∀s,ofS c A=some s→∀nb ob ib,At (cells nb (rqC s ob ib)::a7 ob s.out::A05 ib s.bA::A2K b last A s nb::L1) (Q (at0 nb)))
  (hx:Has L (A0x b last A) L1:=by repeat first|with_reducible exact V5|apply V7):FW prog 148 #[at0 b,.string c] L Q:=by
 refine fun h hs=>B3c (some ⟨b,0,none⟩) c h Q ((?_:W (A0x b last A::L1) _ _) h (hx.s hs))
 clear hs h hx
 delta B5H bn ie ix kc kt lp nn pu wi
 refine A7t (g:=fun S (M:{M:List (Nat×W7) // M.map (·.2)=A}) R=>cells b #[.int .i64 last,.slice S.a S.len S.cap]::V1 eQ 1 S (M.1.map (·.1))::b8 (fun p=>rsA p.1 p.2) M.1::R) (fun h R hs=>by
  obtain⟨S,M,hM,h1⟩:=A0W.1 hs
  exact⟨S,⟨M,hM⟩,h1⟩) fun S M=>?_
 obtain⟨M,hM⟩:=M
 subst hM
 dsimp only
 rw[C0] at hl
 refine Y7 (X7 (enc:=eQ) (size:=1) (s:=S) (xs:=M.map (·.1))) fun cA=>?_
 rw[C0] at cA
 refine W.loop (γ:=Nat) (fun g s=>s.1=(g:Int)∧g≤M.length∧∀p∈M.take g,p.2.aD≠c) (fun g s=>cells b #[.int .i64 last,.slice S.a S.len S.cap]::V1 eQ 1 S (M.map (·.1))::b8 (fun p=>rsA p.1 p.2) M::L1) (fun g=>M.length-g) 0 ⟨rfl,C9 _,by simp⟩ Sub.rfl ?_
 rintro i s ⟨hi,cF,hn⟩ K k1 k2
 refine W9 ?_
 refine W.load (b:=b) (v:=S) ?_
 by_cases ah:i<M.length
 ·refine Y5 (by rw[hi,cA];exact decide_eq_true (by omega)) ?_
  have nX:M[i]∈M:=H6 ah
  have aP:(M.map (·.1))[i]? =some M[i].1:=by simp[B0 ah]
  have bf:i<(M.map (·.1)).length:=by simpa using ah
  have aR:M.take (i+1)=M.take i++[M[i]]:=C3 ah
  have ei:=A9B ah
  refine W9 ?_
  refine W.load (b:=b) (v:=S) ?_
  refine b9 (enc:=eQ) (xs:=M.map (·.1)) (i:=i) bf (fun a ha=>?_) (he:=hi)
  refine A9y (x:=M[i].1) (v:=some ⟨M[i].1,0,none⟩) ha aP ?_
  refine W9 ?_
  refine C6U (p:=M[i]) (v:=M[i].2.aD) nX (fun ob ib=>rfl) ?_
  by_cases hk:M[i].2.aD=c
  ·refine Y5 (by simpa using hk) ?_
   refine W9 ?_
   refine W.load (b:=b) (v:=S) ?_
   refine b9 (enc:=eQ) (xs:=M.map (·.1)) (i:=i) bf (fun a ha=>?_) (he:=hi)
   refine A9y (x:=M[i].1) (v:=some ⟨M[i].1,0,none⟩) ha aP ?_
   refine U9 (k2 _ _ (W.inr (U9 ?_)))
   clear k1 k2
   intro h hs
   have hy:=db M[i].2 (B2c cd (B4 nX) hk) M[i].1
   generalize M[i]=p at ei hy
   rw[ei] at hs hy
   obtain⟨ob,ib,h2⟩:=B5v hs
   exact hy ob ib h h2
  ·refine X1 (by simpa using hk) ?_
   have ig:=k1 (i+1) (IntKind.wrap .i64 (s.1+1),()) (by omega) ⟨by simp only[hi];rw[W6 (by omega) (by omega)];rfl,ah,fun p hp=>by
    rw[aR] at hp
    rcases C7.1 hp with hp|hp
    ·exact hn p hp
    ·rw[B9.1 hp];exact hk⟩
   exact U9 ig.sub
 ·refine X1 (by rw[hi,cA];exact decide_eq_false (by omega)) (U9 (k2 _ _ (W.inl (U9 ?_))))
  have bC:=ay (E7.2 fun s hs=>by
   obtain⟨p,hp,rfl⟩:=E3.1 hs
   simpa using hn p (by rw[D1 (by omega)];exact hp))
  exact fun h hs=>bC h (A0W.2 ⟨S,M,rfl,hs⟩)
theorem C3y{b:Nat}{last:Int}{A:List W7}{k:Int}(hl:A.length≤1000)(hq:At (A0x b last (A.filter fun x=>decide (x.id≠k))::L1) (Q (.tuple #[])))(hx:Has L (A0x b last A) L1:=by repeat first|with_reducible exact V5|apply V7):FW prog 189 #[at0 b,.int .i64 k] L Q:=by
 refine fun h hs=>B3b (some ⟨b,0,none⟩) k h Q ((?_:W (A0x b last A::L1) _ _) h (hx.s hs))
 clear hs h hx
 delta B5G az bn ie ix kc ki lp nn nw pu sx vs wi
 refine A7t (g:=fun S (M:{M:List (Nat×W7) // M.map (·.2)=A}) R=>cells b #[.int .i64 last,.slice S.a S.len S.cap]::V1 eQ 1 S (M.1.map (·.1))::b8 (fun p=>rsA p.1 p.2) M.1::R) (fun h R hs=>by
  obtain⟨S,M,hM,h1⟩:=A0W.1 hs
  exact⟨S,⟨M,hM⟩,h1⟩) fun S M=>?_
 obtain⟨M,hM⟩:=M
 subst hM
 dsimp only
 rw[C0] at hl
 refine Y7 (X7 (enc:=eQ) (size:=1) (s:=S) (xs:=M.map (·.1))) fun cA=>?_
 rw[C0] at cA
 refine B7O eQ 1 (((M.take 0).filter fun x=>decide (x.2.id≠k)).map (·.1)) ?_
 refine W.loop (γ:=Nat) (fun g s=>s.2.1=(g:Int)∧g≤M.length) (fun g s=>V1 eQ 1 s.1 (((M.take g).filter fun x=>decide (x.2.id≠k)).map (·.1))::cells b #[.int .i64 last,.slice S.a S.len S.cap]::V1 eQ 1 S (M.map (·.1))::b8 (fun p=>rsA p.1 p.2) M::L1) (fun g=>M.length-g) 0 ⟨rfl,C9 _⟩ Sub.rfl ?_
 rintro i s ⟨hi,cF⟩ K k1 k2
 refine W9 ?_
 refine W.load (b:=b) (v:=S) ?_
 by_cases ah:i<M.length
 ·refine Y5 (by rw[hi,cA];exact decide_eq_true (by omega)) ?_
  have nX:M[i]∈M:=H6 ah
  have aP:(M.map (·.1))[i]? =some M[i].1:=by simp[B0 ah]
  have bf:i<(M.map (·.1)).length:=by simpa using ah
  have aR:M.take (i+1)=M.take i++[M[i]]:=C3 ah
  have hb:((((M.take i).filter fun x=>decide (x.2.id≠k)).map (·.1)).length+1)*8≤140737488355328:=by
   have:=D2 (fun x:Nat×W7=>decide (x.2.id≠k)) (M.take i)
   rw[D6] at this
   rw[C0]
   omega
  have bh:=fun s'=>k1 (i+1) (s',IntKind.wrap .i64 (s.2.1+1),()) (by omega) ⟨by simp only[hi];rw[W6 (by omega) (by omega)];rfl,ah⟩
  rw[aR,F4,B8] at bh
  clear k1 k2
  refine W9 ?_
  refine W.load (b:=b) (v:=S) ?_
  refine b9 (enc:=eQ) (xs:=M.map (·.1)) (i:=i) bf (fun a ha=>?_) (he:=hi)
  refine A9y (x:=M[i].1) (v:=some ⟨M[i].1,0,none⟩) ha aP ?_
  refine W9 ?_
  refine C6U (p:=M[i]) (v:=M[i].2.id) nX (fun ob ib=>rfl) ?_
  by_cases hk:M[i].2.id=k
  ·refine o8 (by simpa using hk) ?_
   rw[G2 (by simpa using hk),J9,I3,C1] at bh
   exact j1 (U9 (bh s.1).sub)
  ·refine A1s (by simpa using hk) ?_
   rw[G9 (by simpa using hk),J9,B5,I3] at bh
   refine X9 (W9 ?_)
   refine X9 (W.load (b:=b) (v:=S) ?_)
   refine X9 (b9 (enc:=eQ) (xs:=M.map (·.1)) (i:=i) bf (fun a ha=>?_) (he:=hi))
   refine X9 (A9y (x:=M[i].1) (v:=some ⟨M[i].1,0,none⟩) ha aP ?_)
   refine X9 (Y8 fun mF=>?_)
   refine X9 (B0k (b:=mF) (s:=s.1) (enc:=eQ) M[i].1 (fun s'=>?_) hb)
   exact j1 (U9 (bh s').sub)
 ·refine X1 (by rw[hi,cA];exact decide_eq_false (by omega)) (U9 (k2 _ _ ?_))
  have ff:i=M.length:=by omega
  subst ff
  clear k1 k2
  rw[F5]
  refine W9 ?_
  refine A4v (b:=b) (i:=1) (cs':=#[.int .i64 last,.slice s.1.a s.1.len s.1.cap]) ?_
  refine U9 (At.sub (L':=cells b #[.int .i64 last,.slice s.1.a s.1.len s.1.cap]::V1 eQ 1 s.1 ((M.filter fun x=>decide (x.2.id≠k)).map (·.1))::b8 (fun p=>rsA p.1 p.2) M::L1) ?_)
  intro h hs
  have h1:sat h (b8 (fun p=>rsA p.1 p.2) (M.filter fun x=>decide (x.2.id≠k))::cells b #[.int .i64 last,.slice s.1.a s.1.len s.1.cap]::V1 eQ 1 s.1 ((M.filter fun x=>decide (x.2.id≠k)).map (·.1))::L1):=B3O _ (hs.re [2,0,1])
  refine hq h (A0W.2 ⟨s.1,M.filter fun x=>decide (x.2.id≠k),?_,h1.re [1,2,0]⟩)
  rw[S6]
  rfl
theorem C5L(hq:∀b,At (A05 b ⟨64,0,[]⟩::L) (Q (at0 b))):FW prog 201 #[.int .i64 64] L Q:=by
 refine fun h hs=>B4N 64 h Q ((?_:W L _ _) h hs)
 clear hs h
 delta B79 az cp nw pu vi
 refine j2 (fun h hs=>B0U hs 64 fun qb h1 aa=>?_)
 refine(At.un (L:=A0K qb ⟨64,0,[]⟩::L) (x:=some ⟨qb,0,none⟩) ?_) h1 aa
 refine Y8 fun b=>?_
 refine W.dB (A:=A05 b ⟨64,0,[]⟩) (B:=cells b #[at0 qb]) (C:=A0K qb ⟨64,0,[]⟩) (fun h hs=>A3h.2 ⟨qb,hs⟩) ?_
 exact U9 (hq b).sub
theorem C5K(hq:∀b,At (a7 b ⟨⟨64,0,[]⟩,64,false,[],[]⟩::L) (Q (at0 b))):FW prog 200 #[.int .i64 64] L Q:=fun h hs=>C16 hs 64 fun b h' af=>hq b h' af
theorem C8p{b:Nat}{last:Int}{A:List W7}{k:Int}(hl:A.length≤1000)(hn:(A.map (·.id)).Nodup)(hq:At (A0x b last (A4T k A).2::L1) (Q (.bool (A4T k A).1)))(hx:Has L (A0x b last A) L1:=by repeat first|with_reducible exact V5|apply V7):FW prog 133 #[at0 b,.int .i64 k] L Q:=by
 refine fun h hs=>B4K (some ⟨b,0,none⟩) k h Q ((?_:W (A0x b last A::L1) _ _) h (hx.s hs))
 clear hs h hx
 unfold A4T at hq
 delta B76 cp cx ie kb kp nn pu sx vi
 refine j2 (C3A (b:=b) (last:=last) (A:=A) (k:=k) hl (fun ay=>At.un (x:=none) ?_) (fun s hs hk nb ob ib=>At.un (x:=some ⟨nb,0,none⟩) ?_))
 ·have hg:A5x k A=none:=E7.2 fun s hs=>by simpa using ay s hs
  rw[hg] at hq
  exact Y5 rfl (U9 hq)
 ·rw[A3u hn hs hk] at hq
  simp only at hq
  refine X1 rfl ?_
  refine W9 ?_
  refine W.load (b:=nb) (v:=s.on) ?_
  by_cases aV:s.on=false
  ·rw[if_pos aV] at hq
   refine Y5 (by rw[aV];rfl) ?_
   refine A8T (A:=A0x b last A) (B:=cells nb (rqC s ob ib)) (C:=a7 ob s.out) (D:=A05 ib s.bA) (E:=A2K b last A s nb) (fun h hs=>A5i h hs) ?_
   exact U9 hq.sub
  ·rw[if_neg aV] at hq
   have cO:s.on=true:=by cases hh:s.on with|true=>rfl|false=>exact absurd hh aV
   refine X1 (by rw[cO];rfl) ?_
   refine W9 ?_
   refine W.store (b:=nb) (cs':=#[.int .i64 s.id,.string s.aD,.bool s.aO,.bool false,at0 ob,at0 ib]) ?_
   refine W9 ?_
   refine W.load (b:=nb) (v:=some ⟨ob,0,none⟩) ?_
   refine W9 ?_
   refine A5H (fun h R=>j6.1) fun pb fl wt=>?_
   refine W.store (b:=ob) (cs':=#[at0 pb,.int .i64 s.out.most,.bool false,.slice fl.a fl.len fl.cap,.slice wt.a wt.len wt.cap]) ?_
   refine A8T (A:=a7 ob (A8O s).out) (B:=cells ob #[at0 pb,.int .i64 s.out.most,.bool false,.slice fl.a fl.len fl.cap,.slice wt.a wt.len wt.cap]) (C:=A0K pb s.out.aU) (D:=V1 u4 7 fl s.out.aF) (E:=V1 Z5 5 wt s.out.waiting) (fun h hs=>j6.2 ⟨pb,fl,wt,hs⟩) ?_
   refine W9 ?_
   refine W.load (b:=nb) (v:=s.aO) ?_
   refine A8T (A:=A0x b last (Y4 k A8O A)) (B:=cells nb #[.int .i64 s.id,.string s.aD,.bool s.aO,.bool false,at0 ob,at0 ib]) (C:=a7 ob (A8O s).out) (D:=A05 ib s.bA) (E:=A2K b last A s nb) (fun h hs=>A5j (f:=A8O) hk hn rfl h hs) ?_
   by_cases je:s.aO=true
   ·rw[if_pos je] at hq
    refine X1 (by rw[je];rfl) ?_
    exact U9 hq.sub
   ·rw[if_neg je] at hq
    have nZ:s.aO=false:=by cases hh:s.aO with|false=>rfl|true=>exact absurd hh je
    refine Y5 (by rw[nZ];rfl) ?_
    have eZ:(Y4 k A8O A).filter (fun x=>decide (x.id≠k))=A.filter fun x=>decide (x.id≠k):=by
     unfold Y4
     rw[S6]
     have e1:A.filter ((fun x:W7=>decide (x.id≠k))∘fun s=>if s.id=k then A8O s else s)=A.filter fun x=>decide (x.id≠k):=L9 fun x _=>by
      simp only[Function.comp]
      split
      ·rfl
      ·rfl
     rw[e1]
     refine(I2 fun x hx=>?_).trans (U2 _)
     have:=(E6.1 hx).2
     rw[if_neg (by simpa using this)];rfl
    refine Z9 (C3y (b:=b) (last:=last) (A:=Y4 k A8O A) (k:=k) (by unfold Y4;rw[C0];exact hl) (At.bD ?_))
    rw[eZ]
    exact U9 hq.sub
theorem C0A{b:Nat}{last:Int}{A:List W7}{c:B4p}{clean aO:Bool}(hsz:c.size≤9223372036854775800)(tR:0≤last)(fe:last<4611686018427387904)(hl:A.length≤100)(hn:(A.map (·.id)).Nodup)(cd:(A.map (·.aD)).Nodup)
  (hq:At (A0x b (A0c last A c clean aO).2.1 (A0c last A c clean aO).2.2::L1) (Q (.tuple #[.int .i64 (A0c last A c clean aO).1.2.1,.bool (A0c last A c clean aO).1.2.2,.int .i64 (A0c last A c clean aO).1.1])))
  (hx:Has L (A0x b last A) L1:=by repeat first|with_reducible exact V5|apply V7):FW prog 150 #[at0 b,.string c,.bool clean,.bool aO] L Q:=by
 refine fun h hs=>B1L (some ⟨b,0,none⟩) c clean aO h Q ((?_:W (A0x b last A::L1) _ _) h (hx.s hs))
 clear hs h hx
 delta B34 az bn cp cx ie kc ki nn nw pu rq sx vi vs wi
 refine Z9 (fun h hs=>B4f hs c hsz ((At.bD (L:=A0x b last A::L1) (x:=(match r9 c with|some n=>((n:Int),true,())|none=>((0:Int),false,()))) ?_ (by cases r9 c<;>rfl) (by cases r9 c<;>rfl)) h hs))
 unfold A0c at hq
 refine A1j (fun r=>r.1= !(decide (i7 c))) (fun K hK=>?_) (fun r hr=>?_)
 ·have key:∀v:Bool,(v=true↔¬i7 c)→v= !(decide (i7 c)):=fun v hv=>by
   by_cases hg:i7 c
   ·cases v
    ·simp[hg]
    ·exact absurd hg (hv.1 rfl)
   ·rw[hv.2 hg];simp[hg]
  cases hf:r9 c with
  |some n=>exact Y5 rfl (U9 (hK _ (key true ⟨fun _ hg=>(by have:=hg.1;rw[hf] at this;cases this),fun _=>rfl⟩)))
  |none=>
   refine X1 rfl ?_
   refine A0s (fun g=>U9 (hK _ (key true ⟨fun _ hg=>?_,fun _=>rfl⟩))) (fun g=>U9 (hK _ (key _ ⟨fun rX hg=>?_,fun hg=>?_⟩)))
   ·have hz:c.size=0:=by simpa using g
    exact hg.2.1 (ByteArray.ext (Array.eq_empty_of_size_eq_zero hz))
   ·have:=hg.2.2
    simp only[decide_eq_true_eq] at rX
    omega
   ·have hz:c.size≠0:=by simpa using g
    have he:c≠ByteArray.mk #[]:=fun e=>hz (by rw[e];rfl)
    simp only[decide_eq_true_eq]
    have:¬c.size≤64:=fun h=>hg ⟨hf,he,h⟩
    omega
 by_cases hg:i7 c
 ·rw[if_neg (fun e=>e hg)] at hq
  refine X1 (by rw[hr];simp[hg]) ?_
  have fresh:∀{A':List W7},A'.length≤100→(∀{Q2:(Int×Bool×Int×Unit)→Heap→Prop},At (A0x b (last+1) (A'++[A2E (last+1) c aO])::L1) (Q2 (last+1,false,0,()))→
    W (A0x b last A'::L1) (HM.bind (A8H (some ⟨b,0,none⟩)) fun wH=>HM.bind (r7 (.int .i64) (Addr.add wH 0)) fun mF=>HM.bind (A8H (some ⟨b,0,none⟩)) fun wF=>HM.bind (A7v (Addr.add wF 0) (.int .i64 (IntKind.wrap .i64 (mF+1)))) fun _=>
     HM.bind (A1C prog (.one .ptr) 200 #[.int .i64 64]) fun sv=>HM.bind (A1C prog (.one .ptr) 201 #[.int .i64 64]) fun wC=>HM.bind (A8H (some ⟨b,0,none⟩)) fun se=>HM.bind (r7 .slc (Addr.add se 1)) fun dC=>
     HM.bind (A8H (some ⟨b,0,none⟩)) fun mA=>HM.bind (r7 (.int .i64) (Addr.add mA 0)) fun wA=>HM.bind (HM.new (.cells #[.int .i64 wA,.string c,.bool aO,.bool true,.pointer sv,.pointer wC] 154)) fun pJ=>
     HM.bind (r7 .slc (Addr.add se 1)) fun lQ=>A3z ((.slice lQ.a lQ.len lQ.cap:Value)=.slice dC.a dC.len dC.cap)<|HM.bind (HM.new (.cells #[.pointer (some ⟨pJ,0,none⟩)] 150)) fun rK=>
     HM.bind (r7 .slc (Addr.add se 1)) fun pI=>A3z ((.slice pI.a pI.len pI.cap:Value)=.slice dC.a dC.len dC.cap)<|HM.bind (HM.append 150 1 8 #[.pointer none] dC 1 (W4 1 (⟨some ⟨rK,0,none⟩,1,1⟩))) fun rJ=>
     HM.bind (A8H (some ⟨b,0,none⟩)) fun wz=>HM.bind (A7v (Addr.add wz 1) (.slice rJ.a rJ.len rJ.cap)) fun _=>HM.bind (A8H (some ⟨b,0,none⟩)) fun wv=>HM.bind (r7 (.int .i64) (Addr.add wv 0)) fun pH=>X8 (pH,false,0,())) Q2):=by
   intro A' gL Q2 fc
   refine A7t (g:=fun S (M:{M:List (Nat×W7) // M.map (·.2)=A'}) R=>cells b #[.int .i64 last,.slice S.a S.len S.cap]::V1 eQ 1 S (M.1.map (·.1))::b8 (fun p=>rsA p.1 p.2) M.1::R) (fun h R hs=>by
    obtain⟨S,M,hM,h1⟩:=A0W.1 hs
    exact⟨S,⟨M,hM⟩,h1⟩) fun S M=>?_
   obtain⟨M,hM⟩:=M
   subst hM
   dsimp only
   rw[C0] at gL
   have hb:((M.map (·.1)).length+1)*8≤140737488355328:=by rw[C0];omega
   have hw:IntKind.wrap .i64 (last+1)=last+1:=W6 (by omega) (by omega)
   refine W9 ?_
   refine W.load (b:=b) (v:=last) ?_
   refine W9 ?_
   rw[hw]
   refine W.store (b:=b) (cs':=#[.int .i64 (last+1),.slice S.a S.len S.cap]) ?_
   refine j2 (C5K (fun ob=>At.un (x:=some ⟨ob,0,none⟩) ?_))
   refine j2 (C5L (fun ib=>At.un (x:=some ⟨ib,0,none⟩) ?_))
   refine W9 ?_
   refine W.load (b:=b) (v:=S) ?_
   refine W9 ?_
   refine W.load (b:=b) (v:=last+1) ?_
   refine Y8 fun nb=>?_
   refine W.load (b:=b) (v:=S) ?_
   refine A1t ?_ rfl
   refine Y8 fun rK=>?_
   refine W.load (b:=b) (v:=S) ?_
   refine A1t ?_ rfl
   refine B0k (b:=rK) (s:=S) (enc:=eQ) nb (fun s'=>?_) hb
   refine W9 ?_
   refine W.store (b:=b) (cs':=#[.int .i64 (last+1),.slice s'.a s'.len s'.cap]) ?_
   refine W9 ?_
   refine W.load (b:=b) (v:=last+1) ?_
   refine B0j (A:=rsA nb (A2E (last+1) c aO)) (B:=cells nb #[.int .i64 (last+1),.string c,.bool aO,.bool true,at0 ob,at0 ib]) (C:=a7 ob ⟨⟨64,0,[]⟩,64,false,[],[]⟩) (D:=A05 ib ⟨64,0,[]⟩) (fun h hs=>B1E.2 ⟨ob,ib,hs⟩) ?_
   refine W.dB (A:=b8 (fun p=>rsA p.1 p.2) (M++[(nb,A2E (last+1) c aO)])) (B:=b8 (fun p=>rsA p.1 p.2) M) (C:=rsA nb (A2E (last+1) c aO)) (fun h hs=>A5G.2 (((A3Z (f:=fun p:Nat×W7=>rsA p.1 p.2) (x:=(nb,A2E (last+1) c aO))).2 (hs.re [1,0])).re [1,0])) ?_
   refine B0j (A:=A0x b (last+1) (M.map (·.2)++[A2E (last+1) c aO])) (B:=cells b #[.int .i64 (last+1),.slice s'.a s'.len s'.cap]) (C:=V1 eQ 1 s' (M.map (·.1)++[nb])) (D:=b8 (fun p=>rsA p.1 p.2) (M++[(nb,A2E (last+1) c aO)])) (fun h hs=>A0W.2 ⟨s',M++[(nb,A2E (last+1) c aO)],by simp,by rw[B8];exact hs⟩) ?_
   exact U9 fc.sub
  refine j2 (B9m (b:=b) (last:=last) (A:=A) (c:=c) (by omega) cd (fun ho=>At.un (x:=none) ?_) (fun s ho nb ob ib=>At.un (x:=some ⟨nb,0,none⟩) ?_))
  ·rw[ho] at hq
   simp only at hq
   refine A1j (fun r=>r.1=false) (fun K hK=>X1 rfl (U9 (hK _ rfl))) (fun r2 cL=>?_)
   refine X1 cL ?_
   refine o8 rfl ?_
   refine X9 (W9 ?_)
   refine A7t (g:=fun S (M:{M:List (Nat×W7) // M.map (·.2)=A}) R=>cells b #[.int .i64 last,.slice S.a S.len S.cap]::V1 eQ 1 S (M.1.map (·.1))::b8 (fun p=>rsA p.1 p.2) M.1::R) (fun h R hs=>by
    obtain⟨S,M,hM,h1⟩:=A0W.1 hs
    exact⟨S,⟨M,hM⟩,h1⟩) fun S M=>?_
   obtain⟨M,hM⟩:=M
   subst hM
   dsimp only
   refine Y7 (X7 (enc:=eQ) (size:=1) (s:=S) (xs:=M.map (·.1))) fun cA=>?_
   rw[C0] at cA
   refine X9 (W.load (b:=b) (v:=S) ?_)
   refine B0j (A:=A0x b last (M.map (·.2))) (B:=cells b #[.int .i64 last,.slice S.a S.len S.cap]) (C:=V1 eQ 1 S (M.map (·.1))) (D:=b8 (fun p=>rsA p.1 p.2) M) (fun h hs=>A0W.2 ⟨S,M,rfl,hs⟩) ?_
   by_cases eK:32≤(M.map (·.2)).length
   ·rw[if_pos eK] at hq
    rw[C0] at eK
    refine A1s (by rw[cA];exact decide_eq_true (by omega)) (j1 (W.inr (U9 ?_)))
    exact hq.sub
   ·rw[if_neg eK] at hq
    rw[C0] at eK
    refine o8 (by rw[cA];exact decide_eq_false (by omega)) (j1 (W.inl ?_))
    exact fresh hl hq
  ·rw[ho] at hq
   simp only at hq
   obtain⟨lZ,tn⟩:=A7a ho
   refine A1j (fun r=>r.1= !clean) (fun K hK=>Y5 rfl (U9 (hK _ rfl))) (fun r2 cL=>?_)
   by_cases bg:clean=false
   ·rw[if_pos bg] at hq
    refine Y5 (by rw[cL,bg];rfl) ?_
    refine W9 ?_
    refine W.store (b:=nb) (cs':=#[.int .i64 s.id,.string s.aD,.bool s.aO,.bool true,at0 ob,at0 ib]) ?_
    refine W9 ?_
    refine W.store (b:=nb) (cs':=#[.int .i64 s.id,.string s.aD,.bool aO,.bool true,at0 ob,at0 ib]) ?_
    refine W9 ?_
    refine W.load (b:=nb) (v:=s.id) ?_
    refine A8T (A:=A0x b last (Y4 s.id (fun s=>{s with on:=true,aO:=aO}) A)) (B:=cells nb #[.int .i64 s.id,.string s.aD,.bool aO,.bool true,at0 ob,at0 ib]) (C:=a7 ob s.out) (D:=A05 ib s.bA) (E:=A2K b last A s nb) (fun h hs=>A5j (f:=fun s=>{s with on:=true,aO:=aO}) rfl hn rfl h hs) ?_
    exact U9 hq.sub
   ·rw[if_neg bg] at hq
    have uu:clean=true:=by cases hh:clean with|true=>rfl|false=>exact absurd hh bg
    refine X1 (by rw[cL,uu];rfl) ?_
    refine A1s rfl ?_
    refine X9 (W9 ?_)
    refine X9 (W.load (b:=nb) (v:=s.id) ?_)
    refine A8T (A:=A0x b last A) (B:=cells nb (rqC s ob ib)) (C:=a7 ob s.out) (D:=A05 ib s.bA) (E:=A2K b last A s nb) (fun h hs=>A5i h hs) ?_
    refine X9 (Z9 (C3y (b:=b) (last:=last) (A:=A) (k:=s.id) (by omega) (At.bD ?_)))
    refine j1 (W.inl ?_)
    have bZ:(A.filter fun x=>decide (x.id≠s.id)).length≤100:=C4 (D2 _ _) hl
    exact fresh bZ hq
 ·rw[if_pos hg] at hq
  refine Y5 (by rw[hr];simp[hg]) ?_
  exact U9 hq.sub
theorem B12{k id c:Int}(hq:∀S:Slc,At (r6 .i64 S [l6 k id c]::L) (Q (.slice S.a S.len S.cap))):FW prog 245 #[.int .i64 k,.int .i64 id,.int .i64 c] L Q:=by
 refine fun h hs=>B01 k id c h Q ((?_:W L _ _) h hs)
 clear hs h
 delta B1N az nw pu ve vi vz
 refine Y8 fun x1=>U9 ?_
 intro h hs
 refine hq ⟨some ⟨x1,0,none⟩,1,1⟩ h ?_
 have h1:sat h (V1 (X4 .i64) 26 ⟨some ⟨x1,0,none⟩,1,1⟩ [pkF (⟨none,0,0⟩,⟨none,0,0⟩,l6 k id c)]::L):=A1N (o:=0) ⟨rfl,D9 _,rfl,by simp,by rfl⟩ hs
 exact A7L.2 ⟨[(⟨none,0,0⟩,⟨none,0,0⟩,l6 k id c)],rfl,(A3Z.2 (A3j (o:=l6 k id c) rfl rfl h1)).p1⟩
theorem C8k{b:Nat}{s:y9}{k:Int}(hl:s.used.length≤64)(hq:At (A0K b s::L1) (Q (.bool (decide (k∈s.used)))))(hx:Has L (A0K b s) L1:=by repeat first|with_reducible exact V5|apply V7):FW prog 243 #[at0 b,.int .i64 k] L Q:=fun h hs=>B22 (hx.s hs) hl (hq h (hx.s hs))
theorem C5J{b:Nat}{s:y9}{k:Int}(ag:s.ok)(hq:At (A0K b ⟨s.most,s.taken,s.used.erase k⟩::L1) (Q (.bool (decide (k∈s.used)))))(hx:Has L (A0K b s) L1:=by repeat first|with_reducible exact V5|apply V7):FW prog 244 #[at0 b,.int .i64 k] L Q:=fun h hs=>B31 (hx.s hs) ag fun h' af=>hq h' af
theorem C4m{b:Nat}{s:y9}{k:Int}(ag:s.ok)(hc:j4 s k=0)(hq:At (A0K b ⟨s.most,s.taken,s.used++[k]⟩::L1) (Q (.int .i64 0)))(hx:Has L (A0K b s) L1:=by repeat first|with_reducible exact V5|apply V7):FW prog 246 #[at0 b,.int .i64 k] L Q:=fun h hs=>B9d (hx.s hs) ag (fun e=>absurd hc e) fun _ h' af=>hq h' af
theorem C7m{f:Nat}{s:y9}{p:Pk}{why:Int}(ag:s.ok)(hq:∀S:Slc,At (A05 f ⟨s.most,s.taken,(q7 s p.1 p.2.2.2.1 p.2.2.2.2.1 why).2.2.2⟩::r6 .i64 S (A31 (q7 s p.1 p.2.2.2.1 p.2.2.2.2.1 why).2.1 p.2.2.2.2.1)::L1)
   (Q (.tuple #[.bool (q7 s p.1 p.2.2.2.1 p.2.2.2.2.1 why).1,.slice S.a S.len S.cap,.int .i64 (q7 s p.1 p.2.2.2.1 p.2.2.2.2.1 why).2.2.1])))(hx:Has L (A05 f s) L1:=by repeat first|with_reducible exact V5|apply V7):
  FW prog 194 #[at0 f,A2B .i64 p,.int .i64 why] L Q:=by
 refine fun h hs=>B3d (some ⟨f,0,none⟩) p why h Q ((?_:W (A05 f s::L1) _ _) h (hx.s hs))
 clear hs h hx
 have hl:s.used.length≤64:=by have:=ag.len;have:=ag.cP;omega
 have qC:=ag.len
 obtain⟨k,hk⟩:∃k,k=p.1:=⟨_,rfl⟩
 obtain⟨qo,ql⟩:∃q,q=p.2.2.2.1:=⟨_,rfl⟩
 obtain⟨id,hid⟩:∃i,i=p.2.2.2.2.1:=⟨_,rfl⟩
 rw[←hk,←ql,←hid] at hq
 obtain⟨RR,fh⟩:∃RR,RR=q7 s k qo id why:=⟨_,rfl⟩
 rw[←fh] at hq
 have dw:∀a c,RR=(a,none,c,s.used)→At (A05 f s::L1) (Q (.tuple #[.bool a,.slice none 0 0,.int .i64 c])):=fun a c e=>by
  have:=hq ⟨none,0,0⟩
  rw[e] at this
  exact fun h hs=>this h ((A1X hs).re [1,0])
 have aJ:∀a kk c u,RR=(a,some (kk,c),0,u)→∀S:Slc,At (A05 f ⟨s.most,s.taken,u⟩::r6 .i64 S [l6 kk id c]::L1) (Q (.tuple #[.bool a,.slice S.a S.len S.cap,.int .i64 0])):=fun a kk c u e S=>by
  have:=hq S
  rw[e] at this
  exact this
 clear hq
 unfold q7 at fh
 delta B5I bn cb cc ci ie ji kc ki kp nn nw pu vi
 refine Y8 fun x1=>?_
 refine W.load (b:=x1) (v:=p.1) ?_
 refine W.load (b:=x1) (v:=p.1) ?_
 rw[←hk]
 refine A1j (fun r=>r.1=decide (k≠3∧k≠6)) (fun K hK=>?_) (fun r hr=>?_)
 ·refine A0s (fun g=>U9 (hK _ ?_)) (fun g=>U9 (hK _ ?_))
  ·have g:k≠3:=by simpa using g
   by_cases e:k=6<;>simp[e,g]
  ·have g:k=3:=by simpa using g
   simp[g]
 by_cases c1:k≠3∧k≠6
 ·rw[if_pos (show A0h k qo id from .inl c1)] at fh
  refine Y5 (by rw[hr];exact decide_eq_true c1) ?_
  exact U9 (dw _ _ fh).sub
 refine X1 (by rw[hr];exact decide_eq_false c1) ?_
 clear hr r
 refine A1j (fun r=>r.1=decide (k=3∧(qo<0∨2<qo))) (fun K hK=>?_) (fun r hr=>?_)
 ·refine A0s (fun g=>?_) (fun g=>U9 (hK _ ?_))
  ·have g:k=3:=by simpa using g
   refine W.load (b:=x1) (v:=p.2.2.2.1) ?_
   rw[←ql]
   refine A0s (fun g2=>U9 (hK _ ?_)) (fun g2=>?_)
   ·have g2:qo<0:=by simpa using g2
    simp[g,g2]
   ·have g2:¬qo<0:=by simpa using g2
    refine W.load (b:=x1) (v:=p.2.2.2.1) ?_
    rw[←ql]
    refine U9 (hK _ ?_)
    by_cases e:2<qo<;>simp[e,g,g2]<;>omega
  ·have g:k≠3:=by simpa using g
   simp[g]
 by_cases c2:k=3∧(qo<0∨2<qo)
 ·rw[if_pos (show A0h k qo id from .inr (.inl c2))] at fh
  refine Y5 (by rw[hr];exact decide_eq_true c2) ?_
  exact U9 (dw _ _ fh).sub
 refine X1 (by rw[hr];exact decide_eq_false c2) ?_
 clear hr r
 refine A1j (fun r=>r.1=decide (k=3∧qo=0)) (fun K hK=>?_) (fun r hr=>?_)
 ·refine A0s (fun g=>?_) (fun g=>U9 (hK _ ?_))
  ·have g:k=3:=by simpa using g
   refine W.load (b:=x1) (v:=p.2.2.2.1) ?_
   rw[←ql]
   refine U9 (hK _ ?_)
   by_cases e:qo=0<;>simp[e,g]
  ·have g:k≠3:=by simpa using g
   simp[g]
 by_cases c3:k=3∧qo=0
 ·have oU:¬A0h k qo id:=by
   rintro(e|e|e)
   ·exact c1 e
   ·exact c2 e
   ·exact e.1 c3
  rw[if_neg oU,if_pos c3] at fh
  refine Y5 (by rw[hr];exact decide_eq_true c3) ?_
  exact U9 (dw _ _ fh).sub
 refine X1 (by rw[hr];exact decide_eq_false c3) ?_
 clear hr r
 refine A1j (fun r=>r.1=decide (id<1∨65535<id)) (fun K hK=>?_) (fun r hr=>?_)
 ·refine W.load (b:=x1) (v:=p.2.2.2.2.1) ?_
  rw[←hid]
  refine A0s (fun g2=>U9 (hK _ ?_)) (fun g2=>?_)
  ·have g2:id<1:=by simpa using g2
   simp[g2]
  ·have g2:¬id<1:=by simpa using g2
   refine W.load (b:=x1) (v:=p.2.2.2.2.1) ?_
   rw[←hid]
   refine U9 (hK _ ?_)
   by_cases e:65535<id<;>simp[e,g2]<;>omega
 by_cases c4:id<1∨65535<id
 ·rw[if_pos (show A0h k qo id from .inr (.inr ⟨c3,c4⟩))] at fh
  refine Y5 (by rw[hr];exact decide_eq_true c4) ?_
  exact U9 (dw _ _ fh).sub
 refine X1 (by rw[hr];exact decide_eq_false c4) ?_
 clear hr r
 have oU:¬A0h k qo id:=by
  rintro(e|e|e)
  ·exact c1 e
  ·exact c2 e
  ·exact c4 e.2
 rw[if_neg oU,if_neg c3] at fh
 clear oU
 refine W9 ?_
 refine A1F (fun h R=>A3h.1) fun qb=>?_
 refine W.load (b:=f) (v:=some ⟨qb,0,none⟩) ?_
 refine W.load (b:=x1) (v:=p.2.2.2.2.1) ?_
 rw[←hid]
 refine j2 (C8k (b:=qb) (s:=s) (k:=id) hl (At.un ?_))
 by_cases c6:k=6
 ·rw[if_pos c6] at fh
  refine Y5 (by simpa using c6) ?_
  refine B94 (fun r=>r.1=if id∈s.used then 0 else 146) (fun _=>A05 f ⟨s.most,s.taken,s.used.erase id⟩::cells x1 (aS2 p)::L1) (fun K hK=>?_) (fun r hr=>?_)
  ·by_cases ef:id∈s.used
   ·rw[if_pos ef] at hK
    refine Y5 (decide_eq_true ef) ?_
    refine W9 ?_
    refine W.load (b:=f) (v:=some ⟨qb,0,none⟩) ?_
    refine W.load (b:=x1) (v:=p.2.2.2.2.1) ?_
    rw[←hid]
    refine j2 (C5J (b:=qb) (s:=s) (k:=id) ag (At.un ?_))
    refine W.dB (A:=A05 f ⟨s.most,s.taken,s.used.erase id⟩) (B:=cells f #[at0 qb]) (C:=A0K qb ⟨s.most,s.taken,s.used.erase id⟩) (fun h hs=>A3h.2 ⟨qb,hs⟩) ?_
    exact U9 (hK _ rfl).sub
   ·rw[if_neg ef,List.erase_of_not_mem ef] at hK
    refine X1 (decide_eq_false ef) ?_
    refine W.dB (A:=A05 f ⟨s.most,s.taken,s.used⟩) (B:=cells f #[at0 qb]) (C:=A0K qb s) (fun h hs=>A3h.2 ⟨qb,hs⟩) ?_
    exact U9 (hK _ rfl).sub
  ·obtain⟨cc,_⟩:=r
   simp only at hr
   refine W.load (b:=x1) (v:=p.2.2.2.2.1) ?_
   rw[←hid]
   refine j2 (B12 (k:=7) (id:=id) (c:=cc) (fun S=>At.un (x:=S) ?_))
   rw[←hr] at fh
   exact U9 (aJ _ _ _ _ fh S).sub
 rw[if_neg c6] at fh
 refine X1 (by simpa using c6) ?_
 refine W.load (b:=x1) (v:=p.2.2.2.1) ?_
 rw[←ql]
 by_cases c7:qo=1
 ·rw[if_pos c7] at fh
  refine Y5 (by simpa using c7) ?_
  refine W.load (b:=x1) (v:=p.2.2.2.2.1) ?_
  rw[←hid]
  refine j2 (B12 (k:=4) (id:=id) (c:=why) (fun S=>At.un (x:=S) ?_))
  refine W.dB (A:=A05 f ⟨s.most,s.taken,s.used⟩) (B:=cells f #[at0 qb]) (C:=A0K qb s) (fun h hs=>A3h.2 ⟨qb,hs⟩) ?_
  exact U9 (aJ _ _ _ _ fh S).sub
 rw[if_neg c7] at fh
 refine X1 (by simpa using c7) ?_
 by_cases c8:id∈s.used
 ·rw[if_pos c8] at fh
  refine Y5 (decide_eq_true c8) ?_
  refine W.load (b:=x1) (v:=p.2.2.2.2.1) ?_
  rw[←hid]
  refine j2 (B12 (k:=5) (id:=id) (c:=0) (fun S=>At.un (x:=S) ?_))
  refine W.dB (A:=A05 f ⟨s.most,s.taken,s.used⟩) (B:=cells f #[at0 qb]) (C:=A0K qb s) (fun h hs=>A3h.2 ⟨qb,hs⟩) ?_
  exact U9 (aJ _ _ _ _ fh S).sub
 rw[if_neg c8] at fh
 refine X1 (decide_eq_false c8) ?_
 refine W9 ?_
 refine W.load (b:=f) (v:=some ⟨qb,0,none⟩) ?_
 refine W9 ?_
 refine A1F (fun h R=>A1R.1) fun sl=>?_
 refine Y7 (X7 (enc:=eI) (size:=1) (s:=sl) (xs:=Z0 s.used)) fun cA=>?_
 have xb:(Z0 s.used).length=s.used.length:=by unfold Z0;exact O9 _
 rw[xb] at cA
 refine W.load (b:=qb) (v:=sl) ?_
 refine W9 ?_
 refine W.load (b:=f) (v:=some ⟨qb,0,none⟩) ?_
 refine W9 ?_
 refine W.load (b:=qb) (v:=s.most) ?_
 refine W.dB (A:=A0K qb s) (B:=cells qb #[.int .i64 s.most,.int .i64 s.taken,.slice sl.a sl.len sl.cap]) (C:=V1 eI 1 sl (Z0 s.used)) (fun h hs=>A1R.2 ⟨sl,hs⟩) ?_
 by_cases c9:(s.used.length:Int)=s.most
 ·rw[if_pos c9] at fh
  refine Y5 (by rw[cA];exact decide_eq_true (by omega)) ?_
  refine W.dB (A:=A05 f s) (B:=cells f #[at0 qb]) (C:=A0K qb s) (fun h hs=>A3h.2 ⟨qb,hs⟩) ?_
  exact U9 (dw _ _ fh).sub
 rw[if_neg c9] at fh
 refine X1 (by rw[cA];exact decide_eq_false (by omega)) ?_
 refine W.cut (fun _=>A05 f ⟨s.most,s.taken,if why<128 then s.used++[id] else s.used⟩::cells x1 (aS2 p)::L1) (fun K hK=>?_) (fun _=>?_)
 ·by_cases hw:why<128
  ·rw[if_pos hw] at hK
   refine Y5 (decide_eq_true hw) ?_
   refine W9 ?_
   refine W.load (b:=f) (v:=some ⟨qb,0,none⟩) ?_
   refine W.load (b:=x1) (v:=p.2.2.2.2.1) ?_
   rw[←hid]
   refine j2 (C4m (b:=qb) (s:=s) (k:=id) ag ?_ (At.un ?_))
   ·unfold j4
    simp[c4,c8,c9]
   refine W.dB (A:=A05 f ⟨s.most,s.taken,s.used++[id]⟩) (B:=cells f #[at0 qb]) (C:=A0K qb ⟨s.most,s.taken,s.used++[id]⟩) (fun h hs=>A3h.2 ⟨qb,hs⟩) ?_
   exact U9 (hK ()).sub
  ·rw[if_neg hw] at hK
   refine X1 (decide_eq_false hw) ?_
   refine W.dB (A:=A05 f ⟨s.most,s.taken,s.used⟩) (B:=cells f #[at0 qb]) (C:=A0K qb s) (fun h hs=>A3h.2 ⟨qb,hs⟩) ?_
   exact U9 (hK ()).sub
 refine W.load (b:=x1) (v:=p.2.2.2.2.1) ?_
 rw[←hid]
 refine j2 (B12 (k:=5) (id:=id) (c:=why) (fun S=>At.un (x:=S) ?_))
 exact U9 (aJ _ _ _ _ fh S).sub
theorem C0n{b:Nat}{o:b7}{m:MsT}(ag:X5 o)(hq:∀S:Slc,At (a7 b (Z1 o m).1.1::r6 .i64 S (Z1 o m).1.2::L1) (Q (.tuple #[.slice S.a S.len S.cap,.int .i64 (Z1 o m).2])))(hx:Has L (a7 b o) L1:=by repeat first|with_reducible exact V5|apply V7):
  FW prog 139 #[at0 b,vMs m] L Q:=fun h hs=>C0o (hx.s hs) ag fun S h' af=>hq S h' af
theorem C4o{b:Nat}{o:b7}{most:Int}(ag:X5 o)(hq:∀S:Slc,At (a7 b (A0z o most).1::r6 .i64 S (A0z o most).2::L1) (Q (.slice S.a S.len S.cap)))(hx:Has L (a7 b o) L1:=by repeat first|with_reducible exact V5|apply V7):
  FW prog 151 #[at0 b,.int .i64 most] L Q:=fun h hs=>B9g (hx.s hs) ag fun S h' af=>hq S h' af
theorem C7k{b:Nat}{o:b7}{p:Pk}(ag:X5 o)(hq:∀S:Slc,At (a7 b (A09 o p.1 p.2.2.2.2.1 p.2.2.2.2.2.2.2.1).1.1::r6 .i64 S (A09 o p.1 p.2.2.2.2.1 p.2.2.2.2.2.2.2.1).1.2::L1) (Q (.tuple #[.slice S.a S.len S.cap,.int .i64 (A09 o p.1 p.2.2.2.2.1 p.2.2.2.2.2.2.2.1).2])))
  (hx:Has L (a7 b o) L1:=by repeat first|with_reducible exact V5|apply V7):FW prog 142 #[at0 b,A2B .i64 p] L Q:=fun h hs=>C17 (hx.s hs) ag fun S h' af=>hq S h' af
theorem C3w{S:Slc}{pl:List r8}{id:Int}(hn:pl.length≤1000)(hq:At (V1 X6 4 S pl::L1) (Q (.tuple #[.agg (X6 ((A02 id pl).getD (0,0,e0S,e0S))).toArray,.bool (A02 id pl).isSome])))
  (hx:Has L (V1 X6 4 S pl) L1:=by repeat first|with_reducible exact V5|apply V7):FW prog 149 #[.slice S.a S.len S.cap,.int .i64 id] L Q:=by
 refine fun h hs=>B3k S id h Q ((?_:W (V1 X6 4 S pl::L1) _ _) h (hx.s hs))
 clear hs h hx
 delta B5Q az bn g8 ie ix ki nw pu sn ve vi wi
 refine Y8 fun x1=>?_
 refine Y7 (X7 (enc:=X6) (size:=4) (s:=S) (xs:=pl)) fun hl=>?_
 refine W.loop (γ:=Nat) (fun g s=>s.1=(g:Int)∧g≤pl.length∧A02 id (pl.take g)=none) (fun g s=>cells x1 zS8::V1 X6 4 S pl::L1) (fun g=>pl.length-g) 0 ⟨rfl,C9 _,rfl⟩ Sub.rfl ?_
 rintro i s ⟨hi,cF,hf⟩ K k1 k2
 by_cases ah:i<pl.length
 ·refine Y5 (by rw[hi,hl];exact decide_eq_true (by omega)) ?_
  have aP:pl[i]? =some pl[i]:=B0 ah
  have aR:pl.take (i+1)=pl.take i++[pl[i]]:=C3 ah
  have ei:pl=pl.take i++pl[i]::pl.drop (i+1):=by rw[←E0 ah,J0]
  generalize pl[i]=u at aP aR ei
  refine b9 (enc:=X6) (xs:=pl) (i:=i) ah (fun a ha=>?_) (he:=hi)
  refine A3d (k:=0) (x:=u) (v:=u.1) ha aP ?_
  by_cases hu:u.1=id
  ·refine Y5 (by simpa using hu) ?_
   refine b9 (enc:=X6) (xs:=pl) (i:=i) ah (fun a ha=>?_) (he:=hi)
   refine B2S (x:=u) (v:=prU u) ha aP ?_
   refine A0u (b:=x1) ?_
   refine u7 (b:=x1) (v:=prU u) ?_
   refine U9 (k2 _ _ (W.inr (U9 ?_)))
   have ud:A02 id pl=some u:=by
    rw[ei];unfold A02 at hf⊢
    rw[P5,hf,Option.none_or,R6 (by simpa using hu)]
   rw[ud] at hq
   exact hq.sub
  ·refine X1 (by simpa using hu) ?_
   have f1:IntKind.wrap .i64 (s.1+1)=((i+1:Nat):Int):=by rw[hi,W6 (by omega) (by omega)];rfl
   have f2:A02 id (pl.take (i+1))=none:=by
    rw[aR];unfold A02 at hf⊢
    rw[P5,hf,Option.none_or,List.find?_cons_of_neg (by simpa using hu)];rfl
   have hn:=k1 (i+1) (IntKind.wrap .i64 (s.1+1),()) (by omega) ⟨f1,ah,f2⟩
   exact U9 hn.sub
 ·refine X1 (by rw[hi,hl];exact decide_eq_false (by omega)) (U9 (k2 _ _ (W.inl ?_)))
  have ff:i=pl.length:=by omega
  subst ff
  rw[F5] at hf
  rw[hf] at hq
  refine A0u (b:=x1) ?_
  refine u7 (b:=x1) (v:=prU (0,0,e0S,e0S)) ?_
  exact U9 hq.sub
end
section
open Go.H Go.Proofs
variable {h h0:Heap} {L L' L1 L2 L3 L4 R:List Asn} {Q:Value→Heap→Prop}
abbrev y7(x:Z7):D0r:=[.int .i64 x.c,.int .i64 x.aG,.bool x.bE,.string x.aX.1,.string x.aX.2.1,.int .i64 x.aX.2.2.1,.bool x.aX.2.2.2.1,.string x.aX.2.2.2.2]
instance:Enc y7 8:=⟨fun _=>rfl,fun x v hv=>by
 have:(y7 x).all (fun v=>v.oneCell')=true:=rfl
 exact J1.1 this v hv,by decide⟩
abbrev rcU(x:Z7):Int×Int×Bool×B4p×B4p×Int×Bool×B4p×Unit:=(x.c,x.aG,x.bE,x.aX.1,x.aX.2.1,x.aX.2.2.1,x.aX.2.2.2.1,x.aX.2.2.2.2,())
structure A9z(O:Slc→List u5→Asn):Prop where
 app:∀{β:Type} {s:Slc} {os:List u5} {o:u5} {c p:Slc} {elem:TypeId} {b:Nat} {cs:D0q} {zero:D0q} {f:Slc→HM β} {Q':β→Heap→Prop} {L L1 L2 L3:List Asn},
  (∀s',W (O s' (os++[o])::L3) (f s') Q')→(os.length+1)*344≤140737488355328→Has L (O s os) L1→Has L1 (pkB .i64 (c,p,o.pk)) L2→Has L2 (cells b cs) L3→cs=(A1p .i64 (o.conn,pkT o.pk c p,o.close)).toArray→zero.size=28→
  W L (HM.bind (HM.append elem 28 344 zero s 1 (W4 28 ⟨some ⟨b,0,none⟩,1,1⟩)) f) Q'
theorem A4f:A9z (W3 .i64):=⟨fun hw hb hx hy hc he hz=>C88 hw hb hx hy hc he hz (by decide)⟩
def A9b(i:Nat)(c p:Slc)(pk:PkO)(s:Slc)(os:List u5):Asn:=exA fun T:List (Slc×Slc×u5)=>star (pr (T.map (·.2.2)=os∧∃x,T[i]? =some (c,p,x)∧x.pk=pk)) (star (V1 (A1p .i64) 28 s (T.map ouF)) (b8 (ouB .i64) (T.eraseIdx i)))
theorem A9D{i:Nat}{c p s:Slc}{pk:PkO}{os:List u5}:sat h (A9b i c p pk s os::R)↔∃T:List (Slc×Slc×u5),(T.map (·.2.2)=os∧∃x,T[i]? =some (c,p,x)∧x.pk=pk)∧sat h (V1 (A1p .i64) 28 s (T.map ouF)::b8 (ouB .i64) (T.eraseIdx i)::R):=by
 unfold A9b
 rw[sat.aZ]
 simp only[sat.aI,sat.bB]
theorem C2j{i:Nat}{c p s:Slc}{pk:PkO}{os:List u5}:∀h,sat h (A9b i c p pk s os::pkB .i64 (c,p,pk)::R)→sat h (W3 .i64 s os::R):=fun h hs=>by
 obtain⟨T,⟨rfl,x,hx,rfl⟩,h1⟩:=A9D.1 hs
 refine A3m.2 ⟨T,rfl,?_⟩
 have ah:i<T.length:=(D4.1 hx).1
 have pU:T[i]=(c,p,x):=(D4.1 hx).2
 have ei:=A9B ah
 rw[pU] at ei
 rw[List.eraseIdx_eq_take_drop_succ] at h1
 have h2:sat h (b8 (ouB .i64) (T.take i++(c,p,x)::T.drop (i+1))::V1 (A1p .i64) 28 s (T.map ouF)::R):=k8.2 (h1.re [2,1,0])
 rw[←ei] at h2
 exact h2.re [1,0]
theorem C8q{i:Nat}{c p:Slc}{pk:PkO}:A9z (A9b i c p pk):=⟨fun{β s os o c' p' elem b cs zero f Q' L L1 L2 L3} hw hb hx hy hc he hz h hs=>by
 obtain⟨X,⟨rfl,x,gK,lW⟩,h1⟩:=A9D.1 ((hx.cQ hy hc).s hs)
 have ah:i<X.length:=(D4.1 gK).1
 have hlen:(X.map ouF).length=(X.map (·.2.2)).length:=by simp
 refine B0k (L:=V1 (A1p .i64) 28 s (X.map ouF)::cells b cs::b8 (ouB .i64) (X.eraseIdx i)::pkB .i64 (c',p',o.pk)::L3) (xs:=X.map ouF) (enc:=A1p .i64) ((o.conn,pkT o.pk c' p',o.close):OuT) (fun s'=>?_) (by rw[hlen];exact hb) V5 V5 he hz (by decide) h (h1.re [0,3,1,2])
 intro h' af
 refine hw s' h' (A9D.2 ⟨X++[(c',p',o)],⟨by simp,x,by rw[List.getElem?_append_left ah];exact gK,lW⟩,?_⟩)
 rw[B8,List.eraseIdx_append_of_lt_length ah]
 exact(A5G.2 (((A3Z (f:=ouB .i64) (x:=(c',p',o))).2 (af.re [2,0,1])).re [2,0,1])).p1⟩
theorem D0h{β:Type}{s:Slc}{os:List u5}{o:u5}{c p:Slc}{elem:TypeId}{b:Nat}{cs:D0q}{zero:D0q}{f:Slc→HM β}{Q':β→Heap→Prop}
  (hw:∀s',W (A9b os.length c p o.pk s' (os++[o])::L3) (f s') Q')(hb:(os.length+1)*344≤140737488355328)(hx:Has L (W3 .i64 s os) L1:=by repeat first|with_reducible exact V5|apply V7)(hc:Has L1 (cells b cs) L3:=by repeat first|with_reducible exact V5|apply V7)
  (he:cs=(A1p .i64 (o.conn,pkT o.pk c p,o.close)).toArray:=by rfl)(hz:zero.size=28:=by rfl):
  W L (HM.bind (HM.append elem 28 344 zero s 1 (W4 28 ⟨some ⟨b,0,none⟩,1,1⟩)) f) Q':=fun h hs=>by
 obtain⟨X,rfl,h1⟩:=A3m.1 ((hx.then hc).s hs)
 have hlen:(X.map ouF).length=(X.map (·.2.2)).length:=by simp
 refine B0k (L:=V1 (A1p .i64) 28 s (X.map ouF)::cells b cs::b8 (ouB .i64) X::L3) (xs:=X.map ouF) (enc:=A1p .i64) ((o.conn,pkT o.pk c p,o.close):OuT) (fun s'=>?_) (by rw[hlen];exact hb) V5 V5 he hz (by decide) h (h1.re [0,2,1])
 intro h' af
 have hl:(X.map (·.2.2)).length=X.length:=C0 ..
 refine hw s' h' (A9D.2 ⟨X++[(c,p,o)],⟨by simp,o,by rw[hl];simp,rfl⟩,?_⟩)
 rw[B8,hl,List.eraseIdx_append_of_length_le (D9 _)]
 simpa using af
structure RbP where
 tb:Nat
 sb:Nat
 kb:Nat
 sc:Slc
 so:Slc
 sp:Slc
abbrev rbC(p:RbP)(full:Bool):D0q:=#[at0 p.tb,at9 p.sb,B14 p.kb,.slice p.sc.a p.sc.len p.sc.cap,.bool full,.slice p.so.a p.so.len p.so.cap,.slice p.sp.a p.sp.len p.sp.cap]
abbrev B46:=Nat→Int→List W7→Asn
abbrev B11(r:Nat)(full:Bool)(X:B46)(O:Slc→List u5→Asn)(T:V6)(p:RbP)(R:List Asn):List Asn:=cells r (rbC p full)::O p.so T.outs::V1 Z5 5 p.sp T.aT::V1 y7 8 p.sc T.b.aB::X p.tb T.b.last T.b.aG::A0l p.sb T.b.aH::A1W p.kb 64 T.b.kept::R
abbrev rbL(r:Nat)(full:Bool)(O:Slc→List u5→Asn)(T:V6)(p:RbP)(R:List Asn):List Asn:=cells r (rbC p full)::O p.so T.outs::V1 Z5 5 p.sp T.aT::V1 y7 8 p.sc T.b.aB::A0x p.tb T.b.last T.b.aG::A0l p.sb T.b.aH::A1W p.kb 64 T.b.kept::R
def rbX(r:Nat)(full:Bool)(X:B46)(O:Slc→List u5→Asn)(T:V6):Asn:=exA fun p:RbP=>A00 [cells r (rbC p full),O p.so T.outs,V1 Z5 5 p.sp T.aT,V1 y7 8 p.sc T.b.aB,X p.tb T.b.last T.b.aG,A0l p.sb T.b.aH,A1W p.kb 64 T.b.kept]
abbrev rbA(r:Nat)(full:Bool)(O:Slc→List u5→Asn)(T:V6):Asn:=rbX r full A0x O T
theorem A0F{r:Nat}{full:Bool}{X:B46}{O:Slc→List u5→Asn}{T:V6}:sat h (rbX r full X O T::R)↔∃p:RbP,sat h (B11 r full X O T p R):=by
 unfold rbX
 rw[sat.aZ]
 simp only[sat.bW]
 rfl
theorem A0m{r:Nat}{full:Bool}{O:Slc→List u5→Asn}{T:V6}:sat h (rbA r full O T::R)↔∃p:RbP,sat h (rbL r full O T p R):=A0F
theorem W.dY{α:Type}{m:HM α}{Q':α→Heap→Prop}{r:Nat}{full:Bool}{X:B46}{O:Slc→List u5→Asn}{M1 M2 M3 M4 M5 M6 M7:List Asn}(T:V6)(p:RbP)(hw:W (rbX r full X O T::M7) m Q')
  (h1:Has L (cells r (rbC p full)) M1:=by repeat first|with_reducible exact V5|apply V7)(h2:Has M1 (O p.so T.outs) M2:=by repeat first|with_reducible exact V5|apply V7)(h3:Has M2 (V1 Z5 5 p.sp T.aT) M3:=by repeat first|with_reducible exact V5|apply V7)(h4:Has M3 (V1 y7 8 p.sc T.b.aB) M4:=by repeat first|with_reducible exact V5|apply V7)(h5:Has M4 (X p.tb T.b.last T.b.aG) M5:=by repeat first|with_reducible exact V5|apply V7)(h6:Has M5 (A0l p.sb T.b.aH) M6:=by repeat first|with_reducible exact V5|apply V7)(h7:Has M6 (A1W p.kb 64 T.b.kept) M7:=by repeat first|with_reducible exact V5|apply V7):W L m Q':=fun h hs=>
 hw h (A0F.2 ⟨p,(Sub.cons h1 (Sub.cons h2 (Sub.cons h3 (Sub.cons h4 (Sub.cons h5 (Sub.cons h6 (Sub.cons h7 Sub.rfl))))))).s hs⟩)
theorem W.rb{α:Type}{m:HM α}{Q':α→Heap→Prop}{r:Nat}{full:Bool}{O:Slc→List u5→Asn}{M1 M2 M3 M4 M5 M6 M7:List Asn}(T:V6)(p:RbP)(hw:W (rbA r full O T::M7) m Q')
  (h1:Has L (cells r (rbC p full)) M1:=by repeat first|with_reducible exact V5|apply V7)(h2:Has M1 (O p.so T.outs) M2:=by repeat first|with_reducible exact V5|apply V7)(h3:Has M2 (V1 Z5 5 p.sp T.aT) M3:=by repeat first|with_reducible exact V5|apply V7)(h4:Has M3 (V1 y7 8 p.sc T.b.aB) M4:=by repeat first|with_reducible exact V5|apply V7)(h5:Has M4 (A0x p.tb T.b.last T.b.aG) M5:=by repeat first|with_reducible exact V5|apply V7)(h6:Has M5 (A0l p.sb T.b.aH) M6:=by repeat first|with_reducible exact V5|apply V7)(h7:Has M6 (A1W p.kb 64 T.b.kept) M7:=by repeat first|with_reducible exact V5|apply V7):W L m Q':=fun h hs=>
 hw h (A0F.2 ⟨p,(Sub.cons h1 (Sub.cons h2 (Sub.cons h3 (Sub.cons h4 (Sub.cons h5 (Sub.cons h6 (Sub.cons h7 Sub.rfl))))))).s hs⟩)
theorem At.dY{q:Heap→Prop}{r:Nat}{full:Bool}{X:B46}{O:Slc→List u5→Asn}{M1 M2 M3 M4 M5 M6 M7:List Asn}(T:V6)(p:RbP)(hw:At (rbX r full X O T::M7) q)
  (h1:Has L (cells r (rbC p full)) M1:=by repeat first|with_reducible exact V5|apply V7)(h2:Has M1 (O p.so T.outs) M2:=by repeat first|with_reducible exact V5|apply V7)(h3:Has M2 (V1 Z5 5 p.sp T.aT) M3:=by repeat first|with_reducible exact V5|apply V7)(h4:Has M3 (V1 y7 8 p.sc T.b.aB) M4:=by repeat first|with_reducible exact V5|apply V7)(h5:Has M4 (X p.tb T.b.last T.b.aG) M5:=by repeat first|with_reducible exact V5|apply V7)(h6:Has M5 (A0l p.sb T.b.aH) M6:=by repeat first|with_reducible exact V5|apply V7)(h7:Has M6 (A1W p.kb 64 T.b.kept) M7:=by repeat first|with_reducible exact V5|apply V7):At L q:=fun h hs=>
 hw h (A0F.2 ⟨p,(Sub.cons h1 (Sub.cons h2 (Sub.cons h3 (Sub.cons h4 (Sub.cons h5 (Sub.cons h6 (Sub.cons h7 Sub.rfl))))))).s hs⟩)
theorem At.rb{q:Heap→Prop}{r:Nat}{full:Bool}{O:Slc→List u5→Asn}{M1 M2 M3 M4 M5 M6 M7:List Asn}(T:V6)(p:RbP)(hw:At (rbA r full O T::M7) q)
  (h1:Has L (cells r (rbC p full)) M1:=by repeat first|with_reducible exact V5|apply V7)(h2:Has M1 (O p.so T.outs) M2:=by repeat first|with_reducible exact V5|apply V7)(h3:Has M2 (V1 Z5 5 p.sp T.aT) M3:=by repeat first|with_reducible exact V5|apply V7)(h4:Has M3 (V1 y7 8 p.sc T.b.aB) M4:=by repeat first|with_reducible exact V5|apply V7)(h5:Has M4 (A0x p.tb T.b.last T.b.aG) M5:=by repeat first|with_reducible exact V5|apply V7)(h6:Has M5 (A0l p.sb T.b.aH) M6:=by repeat first|with_reducible exact V5|apply V7)(h7:Has M6 (A1W p.kb 64 T.b.kept) M7:=by repeat first|with_reducible exact V5|apply V7):At L q:=fun h hs=>
 hw h (A0F.2 ⟨p,(Sub.cons h1 (Sub.cons h2 (Sub.cons h3 (Sub.cons h4 (Sub.cons h5 (Sub.cons h6 (Sub.cons h7 Sub.rfl))))))).s hs⟩)
theorem B48{r:Nat}{full:Bool}{X:B46}{O:Slc→List u5→Asn}{T:V6}{c:Int}{o:PkO}{ci pi:Slc}(hO:A9z O)(hb:T.outs.length≤100000000)(hq:At (rbX r full X O (A0N ⟨c,o,false⟩ T)::L2) (Q (.tuple #[])))
  (hx:Has L (rbX r full X O T) L1:=by repeat first|with_reducible exact V5|apply V7)(hy:Has L1 (pkB .i64 (ci,pi,o)) L2:=by repeat first|with_reducible exact V5|apply V7):FW prog 146 #[at0 r,.int .i64 c,A2B .i64 (pkT o ci pi)] L Q:=by
 refine fun h hs=>A63 (some ⟨r,0,none⟩) c (pkT o ci pi) h Q ((?_:W (rbX r full X O T::pkB .i64 (ci,pi,o)::L2) _ _) h ((hx.then hy).s hs))
 clear hs h hx hy
 have dA:(T.outs.length+1)*344≤140737488355328:=by omega
 delta B0X az bn g2 kc nn nw pu rq sx ve vi vs vz w10 w11 w12 w13 w14 w15 w16 w17 w18 w19 w20 w21 w22 w23 w24 w25 w5 w6 w7 w8 w9
 refine Y8 fun x1=>?_
 refine W9 ?_
 refine A1F (g:=fun p R=>B11 r full X O T p R) (fun h R=>A0F.1) fun p=>?_
 refine j0 (b:=r) (i:=5) (v:=p.so) ?_
 refine u7 (b:=x1) (v:=pkT o ci pi) ?_
 refine Y8 fun x5=>?_
 refine j0 (b:=r) (i:=5) (v:=p.so) ?_
 refine A1t ?_ rfl
 refine hO.app (s:=p.so) (os:=T.outs) (o:=⟨c,o,false⟩) (c:=ci) (p:=pi) (b:=x5) (fun s'=>?_) dA (by repeat first|with_reducible exact V5|apply V7) (by repeat first|with_reducible exact V5|apply V7) (by repeat first|with_reducible exact V5|apply V7) (by rfl) (by rfl)
 refine W9 ?_
 refine A4v (b:=r) (i:=5) (cs':=rbC ⟨p.tb,p.sb,p.kb,p.sc,s',p.sp⟩ full) ?_
 refine W.dY (X:=X) (O:=O) (A0N ⟨c,o,false⟩ T) ⟨p.tb,p.sb,p.kb,p.sc,s',p.sp⟩ ?_
 exact U9 hq.sub
theorem B9b{r:Nat}{full:Bool}{X:B46}{O:Slc→List u5→Asn}{T:V6}{c:Int}{o:PkO}{ci pi:Slc}(hO:A9z O)(hb:T.outs.length≤100000000)(hq:At (rbX r full X O (A0N ⟨c,o,true⟩ T)::L2) (Q (.tuple #[])))
  (hx:Has L (rbX r full X O T) L1:=by repeat first|with_reducible exact V5|apply V7)(hy:Has L1 (pkB .i64 (ci,pi,o)) L2:=by repeat first|with_reducible exact V5|apply V7):FW prog 93 #[at0 r,.int .i64 c,A2B .i64 (pkT o ci pi)] L Q:=by
 refine fun h hs=>B26 (some ⟨r,0,none⟩) c (pkT o ci pi) h Q ((?_:W (rbX r full X O T::pkB .i64 (ci,pi,o)::L2) _ _) h ((hx.then hy).s hs))
 clear hs h hx hy
 have dA:(T.outs.length+1)*344≤140737488355328:=by omega
 delta B5B az bn g2 kc nn nw pu rq sx ve vi vs vz w10 w11 w12 w13 w14 w15 w16 w17 w18 w19 w20 w21 w22 w23 w24 w25 w5 w6 w7 w8 w9
 refine Y8 fun x1=>?_
 refine W9 ?_
 refine A1F (g:=fun p R=>B11 r full X O T p R) (fun h R=>A0F.1) fun p=>?_
 refine j0 (b:=r) (i:=5) (v:=p.so) ?_
 refine u7 (b:=x1) (v:=pkT o ci pi) ?_
 refine Y8 fun x5=>?_
 refine j0 (b:=r) (i:=5) (v:=p.so) ?_
 refine A1t ?_ rfl
 refine hO.app (s:=p.so) (os:=T.outs) (o:=⟨c,o,true⟩) (c:=ci) (p:=pi) (b:=x5) (fun s'=>?_) dA (by repeat first|with_reducible exact V5|apply V7) (by repeat first|with_reducible exact V5|apply V7) (by repeat first|with_reducible exact V5|apply V7) (by rfl) (by rfl)
 refine W9 ?_
 refine A4v (b:=r) (i:=5) (cs':=rbC ⟨p.tb,p.sb,p.kb,p.sc,s',p.sp⟩ full) ?_
 refine W.dY (X:=X) (O:=O) (A0N ⟨c,o,true⟩ T) ⟨p.tb,p.sb,p.kb,p.sc,s',p.sp⟩ ?_
 exact U9 hq.sub
theorem C5I{r:Nat}{full:Bool}{X:B46}{T:V6}{c:Int}{o:PkO}{ci pi:Slc}(hb:T.outs.length≤100000000)(hq:At (rbX r full X (A9b T.outs.length ci pi o) (A0N ⟨c,o,false⟩ T)::L1) (Q (.tuple #[])))
  (hx:Has L (rbX r full X (W3 .i64) T) L1:=by repeat first|with_reducible exact V5|apply V7):FW prog 146 #[at0 r,.int .i64 c,A2B .i64 (pkT o ci pi)] L Q:=by
 refine fun h hs=>A63 (some ⟨r,0,none⟩) c (pkT o ci pi) h Q ((?_:W (rbX r full X (W3 .i64) T::L1) _ _) h (hx.s hs))
 clear hs h hx
 have dA:(T.outs.length+1)*344≤140737488355328:=by omega
 delta B0X az bn g2 kc nn nw pu rq sx ve vi vs vz w10 w11 w12 w13 w14 w15 w16 w17 w18 w19 w20 w21 w22 w23 w24 w25 w5 w6 w7 w8 w9
 refine Y8 fun x1=>?_
 refine W9 ?_
 refine A1F (g:=fun p R=>B11 r full X (W3 .i64) T p R) (fun h R=>A0F.1) fun p=>?_
 refine j0 (b:=r) (i:=5) (v:=p.so) ?_
 refine u7 (b:=x1) (v:=pkT o ci pi) ?_
 refine Y8 fun x5=>?_
 refine j0 (b:=r) (i:=5) (v:=p.so) ?_
 refine A1t ?_ rfl
 refine D0h (s:=p.so) (os:=T.outs) (o:=⟨c,o,false⟩) (c:=ci) (p:=pi) (b:=x5) (fun s'=>?_) dA
 refine W9 ?_
 refine A4v (b:=r) (i:=5) (cs':=rbC ⟨p.tb,p.sb,p.kb,p.sc,s',p.sp⟩ full) ?_
 refine W.dY (X:=X) (O:=A9b T.outs.length ci pi o) (A0N ⟨c,o,false⟩ T) ⟨p.tb,p.sb,p.kb,p.sc,s',p.sp⟩ ?_
 exact U9 hq.sub
end
section
open Go.H Go.Proofs
variable {h h0:Heap} {L L' L1 L2 L3 L4 R:List Asn} {Q:Value→Heap→Prop}
theorem C3u{a b:Int}(hq:At L (Q (.int .i64 (min a b)))):FW prog 138 #[.int .i64 a,.int .i64 b] L Q:=by
 refine fun h hs=>B27 a b h Q ((?_:W L _ _) h hs)
 clear hs h
 delta B5C ie pu
 refine A0s (fun g=>U9 ?_) (fun g=>U9 ?_)
 ·have g:a<b:=by simpa using g
  rw[show min a b=a from by omega] at hq
  exact hq
 ·have g:¬a<b:=by simpa using g
  rw[show min a b=b from by omega] at hq
  exact hq
def atC(c:Int)(l:List Z7):Option Nat:=l.findIdx? fun x=>decide (x.c=c)
theorem B2O{c:Int}{l:List Z7}:atC c l=none↔A1I c l=none:=by
 unfold atC A1I
 rw[O3,E7]
 simp
theorem C1A{c:Int}{l:List Z7}{i:Nat}(h:atC c l=some i):∃x,l[i]? =some x∧A1I c l=some x∧x.c=c:=by
 obtain⟨ah,hp,hb⟩:=J6.1 h
 refine⟨l[i],B0 ah,?_,by simpa using hp⟩
 unfold A1I
 rw[List.find?_eq_some_iff_getElem]
 exact⟨hp,i,ah,rfl,fun j hj=>by simpa using hb j hj⟩
theorem B5T{r:Nat}{full:Bool}{X:B46}{O:Slc→List u5→Asn}{T:V6}{c:Int}(bg:T.b.aB.length≤1000000)(hq:At (rbX r full X O T::L1) (Q (.int .i64 (match atC c T.b.aB with|some i=>(i:Int)|none=> -1))))(hx:Has L (rbX r full X O T) L1:=by repeat first|with_reducible exact V5|apply V7):
  FW prog 89 #[at0 r,.int .i64 c] L Q:=by
 refine fun h hs=>B28 (some ⟨r,0,none⟩) c h Q ((?_:W (rbX r full X O T::L1) _ _) h (hx.s hs))
 clear hs h hx
 delta B5D bn ie ix kc ki nn pu wi
 refine A1F (g:=fun p R=>B11 r full X O T p R) (fun h R=>A0F.1) fun p=>?_
 refine Y7 (X7 (enc:=y7) (size:=8) (s:=p.sc) (xs:=T.b.aB)) fun hl=>?_
 refine W.loop (γ:=Nat) (fun g s=>s.1=(g:Int)∧g≤T.b.aB.length∧∀j (hj:j<T.b.aB.length),j<g→T.b.aB[j].c≠c) (fun g s=>B11 r full X O T p L1) (fun g=>T.b.aB.length-g) 0 ⟨rfl,C9 _,fun j _ hj=>absurd hj (Nat.not_lt_zero j)⟩ Sub.rfl ?_
 rintro i s ⟨hi,cF,hn⟩ K k1 k2
 refine W9 ?_
 refine j0 (b:=r) (i:=3) (v:=p.sc) ?_
 by_cases ah:i<T.b.aB.length
 ·refine Y5 (by rw[hi,hl];exact decide_eq_true (by omega)) ?_
  have aP:T.b.aB[i]? =some T.b.aB[i]:=B0 ah
  refine W9 ?_
  refine j0 (b:=r) (i:=3) (v:=p.sc) ?_
  refine b9 (enc:=y7) (xs:=T.b.aB) (i:=i) ah (fun a ha=>?_) (he:=hi)
  refine A3d (k:=0) (x:=T.b.aB[i]) (v:=T.b.aB[i].c) ha aP ?_
  by_cases hc:T.b.aB[i].c=c
  ·refine Y5 (by simpa using hc) (U9 (k2 _ _ (W.inr (U9 ?_))))
   have e:atC c T.b.aB=some i:=J6.2 ⟨ah,by simpa using hc,fun j hj=>by simpa using hn j (by omega) hj⟩
   rw[e] at hq
   refine At.dY (X:=X) (O:=O) T p ?_
   rw[hi]
   exact hq.sub
  ·refine X1 (by simpa using hc) ?_
   have ig:=k1 (i+1) (IntKind.wrap .i64 (s.1+1),()) (by omega) ⟨by simp only[hi];rw[W6 (by omega) (by omega)];rfl,ah,fun j hj xE=>by
    rcases Nat.lt_succ_iff_lt_or_eq.1 xE with h|h
    ·exact hn j hj h
    ·subst h;exact hc⟩
   exact U9 ig.sub
 ·refine X1 (by rw[hi,hl];exact decide_eq_false (by omega)) (U9 (k2 _ _ (W.inl (U9 ?_))))
  have e:atC c T.b.aB=none:=B2O.2 (E7.2 fun x hx=>by
   obtain⟨j,hj,rfl⟩:=List.getElem_of_mem hx
   simpa using hn j hj (by omega))
  rw[e] at hq
  refine At.dY (X:=X) (O:=O) T p ?_
  exact hq.sub
theorem B10{r:Nat}{full full0:Bool}{T:V6}(hq:At (rbA r full (W3 .i64) ⟨T.b,[],[]⟩::L1) (Q (.tuple #[])))(hx:Has L (rbA r full0 (W3 .i64) T) L1:=by repeat first|with_reducible exact V5|apply V7):
  FW prog 86 #[at0 r,.bool full] L Q:=by
 refine fun h hs=>B1H (some ⟨r,0,none⟩) full h Q ((?_:W (rbA r full0 (W3 .i64) T::L1) _ _) h (hx.s hs))
 clear hs h hx
 delta B32 nn pu sx vz
 refine A1F (g:=fun p R=>rbL r full0 (W3 .i64) T p R) (fun h R=>A0m.1) fun p=>?_
 refine W9 ?_
 refine A4v (b:=r) (i:=4) (cs':=rbC p full) ?_
 refine W9 ?_
 refine A4v (b:=r) (i:=5) (cs':=rbC ⟨p.tb,p.sb,p.kb,p.sc,⟨none,0,0⟩,p.sp⟩ full) ?_
 refine W9 ?_
 refine A4v (b:=r) (i:=6) (cs':=rbC ⟨p.tb,p.sb,p.kb,p.sc,⟨none,0,0⟩,⟨none,0,0⟩⟩ full) ?_
 refine A4u Z5 5 ?_
 refine W.sub (L':=cells r (rbC ⟨p.tb,p.sb,p.kb,p.sc,⟨none,0,0⟩,⟨none,0,0⟩⟩ full)::V1 Z5 5 ⟨none,0,0⟩ []::V1 y7 8 p.sc T.b.aB::A0x p.tb T.b.last T.b.aG::A0l p.sb T.b.aH::A1W p.kb 64 T.b.kept::L1) ?_
 refine U9 (fun h hs=>?_)
 have h1:=B18 (k:=.i64) hs
 exact hq h (A0m.2 ⟨⟨p.tb,p.sb,p.kb,p.sc,⟨none,0,0⟩,⟨none,0,0⟩⟩,h1.re [1,0,2,3,4,5,6]⟩)
theorem C1W{l:List Z7}{x:Z7}{id:Int}{ps:List PkO}:A2v (l++[x]) id ps=A2v l id ps++(if x.aG=id then ps.map fun p=>⟨x.c,p,false⟩ else[]):=by
 unfold A2v
 rw[F4,I7]
 by_cases e:x.aG=id
 ·rw[if_pos e,G9 (by simpa using e)];simp
 ·rw[if_neg e,G2 (by simpa using e)];simp
abbrev toC(c:Int)(z:Slc×Slc×PkO):u5:=⟨c,z.2.2,false⟩
theorem A5l{r:Nat}{full:Bool}{X:B46}{O:Slc→List u5→Asn}{T:V6}{id:Int}{S:Slc}{ps:List PkO}(hO:A9z O)(hu:(T.b.aB.filter fun x=>decide (x.aG=id)).length≤1)(hb:T.outs.length+ps.length≤100000000)(bg:T.b.aB.length≤1000000)
  (hq:At (rbX r full X O (u0 id ps T)::L2) (Q (.tuple #[])))(hx:Has L (rbX r full X O T) L1:=by repeat first|with_reducible exact V5|apply V7)(hy:Has L1 (r6 .i64 S ps) L2:=by repeat first|with_reducible exact V5|apply V7):
  FW prog 140 #[at0 r,.int .i64 id,.slice S.a S.len S.cap] L Q:=by
 refine fun h hs=>A91 (some ⟨r,0,none⟩) id S h Q ((?_:W (rbX r full X O T::r6 .i64 S ps::L2) _ _) h ((hx.then hy).s hs))
 clear hs h hx hy
 delta B0o bn cx g2 ie ix kc ki nn pu vi wi
 refine W.loop (γ:=Nat) (fun g s=>s.1=(g:Int)∧g≤T.b.aB.length) (fun g s=>rbX r full X O ⟨T.b,T.outs++A2v (T.b.aB.take g) id ps,T.aT⟩::C5M ((T.b.aB.take g).filter fun x=>decide (x.aG=id)).isEmpty (r6 .i64 S ps) L2) (fun g=>T.b.aB.length-g) 0 ⟨rfl,C9 _⟩ ?_ ?_
 ·have e:(⟨T.b,T.outs++A2v (T.b.aB.take 0) id ps,T.aT⟩:V6)=T:=by
   rw[T5]
   show V6.mk T.b (T.outs++[]) T.aT=T
   rw[C1]
  rw[e]
  show Sub _ (rbX r full X O T::r6 .i64 S ps::L2)
  repeat(first|with_reducible exact U3|with_reducible exact U4|refine U5 (by repeat first|with_reducible exact V5|apply V7) ?_|refine U6 ?_)
 rintro i s ⟨hi,cF⟩ K k1 k2
 refine W9 ?_
 refine A1F (g:=fun p R=>B11 r full X O ⟨T.b,T.outs++A2v (T.b.aB.take i) id ps,T.aT⟩ p R) (fun h R=>A0F.1) fun p=>?_
 refine Y7 (X7 (enc:=y7) (size:=8) (s:=p.sc) (xs:=T.b.aB)) fun hl=>?_
 refine j0 (b:=r) (i:=3) (v:=p.sc) ?_
 by_cases ah:i<T.b.aB.length
 ·refine Y5 (by rw[hi,hl];exact decide_eq_true (by omega)) ?_
  have aP:T.b.aB[i]? =some T.b.aB[i]:=B0 ah
  have aR:T.b.aB.take (i+1)=T.b.aB.take i++[T.b.aB[i]]:=C3 ah
  have ei:=A9B ah
  have hn:=k1 (i+1) (IntKind.wrap .i64 (s.1+1),()) (by omega) ⟨by simp only[hi];rw[W6 (by omega) (by omega)];rfl,ah⟩
  rw[aR,C1W,F4] at hn
  clear k1 k2
  refine X9 (W9 ?_)
  refine X9 (j0 (b:=r) (i:=3) (v:=p.sc) ?_)
  refine X9 (b9 (enc:=y7) (xs:=T.b.aB) (i:=i) ah (fun a ha=>?_) (he:=hi))
  refine X9 (A3d (k:=1) (x:=T.b.aB[i]) (v:=T.b.aB[i].aG) ha aP ?_)
  by_cases dZ:T.b.aB[i].aG=id
  ·have dw:(T.b.aB.take i).filter (fun x=>decide (x.aG=id))=[]:=by
    rw[ei,F4,G9 (by simpa using dZ),B3,B7] at hu
    exact L8.1 (by omega)
   have e0:A2v (T.b.aB.take i) id ps=[]:=by unfold A2v;rw[dw];rfl
   rw[if_pos dZ,e0,F0,dw,F0,G9 (by simpa using dZ)] at hn
   refine o8 (by simp[dZ]) ?_
   rw[dw,e0]
   refine W.dY (X:=X) (O:=O) ⟨T.b,T.outs++[],T.aT⟩ p ?_
   refine C1I (fun h R=>A7L.1) (fun PT uB=>?_) (hx:=(by repeat first|with_reducible exact V5|apply V7:Has (rbX r full X O ⟨T.b,T.outs++[],T.aT⟩::r6 .i64 S ps::L2) _ _))
   subst uB
   refine Y7 (X7 (enc:=X4 .i64) (size:=26) (s:=S) (xs:=PT.map pkF)) fun en=>?_
   rw[C0] at en hb
   refine X9 (A9x PT.length (fun k s=>s.1=(k:Int)) (fun k _=>rbX r full X O ⟨T.b,T.outs++(PT.take k).map (toC T.b.aB[i].c),T.aT⟩::V1 (X4 .i64) 26 S (PT.map pkF)::b8 (pkB .i64) (PT.drop k)::L2) rfl ?_ (fun k s hk hI=>by rw[hI,en];exact F8.2 (by omega)) (fun s2 hI K2 iE=>?_) (fun k s2 bd hI K2 jX iE=>?_))
   ·show Sub _ (rbX r full X O ⟨T.b,T.outs++[],T.aT⟩::V1 (X4 .i64) 26 S (PT.map pkF)::b8 (pkB .i64) PT::L2)
    repeat(first|with_reducible exact U3|with_reducible exact U4|refine U5 (by repeat first|with_reducible exact V5|apply V7) ?_|refine U6 ?_)
   ·refine U9 (iE _ _ (j1 (U9 ?_)))
    have e4:(PT.take PT.length).map (toC T.b.aB[i].c)=(PT.map (·.2.2)).map fun p=>⟨T.b.aB[i].c,p,false⟩:=by rw[F5,F3];rfl
    rw[e4]
    refine At.sub hn ?_
    show Sub _ (_::L2)
    repeat(first|with_reducible exact U3|with_reducible exact U4|refine U5 (by repeat first|with_reducible exact V5|apply V7) ?_|refine U6 ?_)
   ·have hk:(PT.map pkF)[k]? =some (pkF PT[k]):=by simp[bd]
    refine W9 ?_
    refine A1F (g:=fun p R=>B11 r full X O ⟨T.b,T.outs++(PT.take k).map (toC T.b.aB[i].c),T.aT⟩ p R) (fun h R=>A0F.1) fun p2=>?_
    refine j0 (b:=r) (i:=3) (v:=p2.sc) ?_
    refine b9 (enc:=y7) (xs:=T.b.aB) (i:=i) ah (fun a ha=>?_) (he:=hi)
    refine A3d (k:=0) (x:=T.b.aB[i]) (v:=T.b.aB[i].c) ha aP ?_
    refine W.dY (X:=X) (O:=O) ⟨T.b,T.outs++(PT.take k).map (toC T.b.aB[i].c),T.aT⟩ p2 ?_
    refine b9 (enc:=X4 .i64) (xs:=PT.map pkF) (i:=k) (by simpa using bd) (fun a ha=>?_) (he:=hI)
    refine B2S (x:=pkF PT[k]) (v:=pkF PT[k]) ha hk ?_
    rw[E0 bd]
    refine C3c (fun h R=>o3.1) ?_
    refine Z9 (B48 (X:=X) (O:=O) (T:=⟨T.b,T.outs++(PT.take k).map (toC T.b.aB[i].c),T.aT⟩) (c:=T.b.aB[i].c) (o:=PT[k].2.2) (ci:=PT[k].1) (pi:=PT[k].2.1) hO (by simp only[B3,C0,D6];omega) (At.bD ?_))
    have lv:=jX (IntKind.wrap .i64 (s2.1+1),()) (by simp only[hI];rw[W6 (by omega) (by omega)];rfl)
    have e4:T.outs++(PT.take (k+1)).map (toC T.b.aB[i].c)=(T.outs++(PT.take k).map (toC T.b.aB[i].c))++[⟨T.b.aB[i].c,PT[k].2.2,false⟩]:=by
     rw[C3 bd,B8,←D7];rfl
    rw[e4] at lv
    exact U9 lv.sub
  ·rw[if_neg dZ,C1,G2 (by simpa using dZ),J9,C1] at hn
   refine A1s (by simpa using dZ) (j1 (U9 ?_))
   refine At.dY (X:=X) (O:=O) ⟨T.b,T.outs++A2v (T.b.aB.take i) id ps,T.aT⟩ p ?_
   refine At.sub hn ?_
   repeat(first|with_reducible exact U3|with_reducible exact U4|refine U5 (by repeat first|with_reducible exact V5|apply V7) ?_|refine U6 ?_)
 ·refine X1 (by rw[hi,hl];exact decide_eq_false (by omega)) (U9 (k2 _ _ (U9 ?_)))
  rw[D1 (by omega)]
  refine At.dY (X:=X) (O:=O) (u0 id ps T) p ?_
  exact At.sub hq (Sub.cons V5 B70)
end
section
open Go.H Go.Proofs
variable {h h0:Heap} {L L' L1 L2 L3 L4 R:List Asn} {Q:Value→Heap→Prop}
theorem C8m{b:Nat}{K:List l7}{m:l7}(hL:K.length≤64)(hsz:m.1.size≤9223372036854775800)(hq:At (A1W b 64 (B0R 64 K m).2::L1) (Q (.int .i64 (B0R 64 K m).1)))(hx:Has L (A1W b 64 K) L1:=by repeat first|with_reducible exact V5|apply V7):FW prog 136 #[B14 b,vM m] L Q:=fun h hs=>C4r (hx.s hs) hL hsz fun h' af=>hq h' af
theorem C8o{b:Nat}{K:List l7}{f:B4p}(hL:K.length≤64)(hk:∀m∈K,m.1.size≤256)(hsz:f.size≤9223372036854775800)(hq:∀S:Slc,At (V1 A0q 3 S (A6z K f)::A1W b 64 K::L1) (Q (.slice S.a S.len S.cap)))(hx:Has L (A1W b 64 K) L1:=by repeat first|with_reducible exact V5|apply V7):FW prog 197 #[B14 b,.string f] L Q:=fun h hs=>C4v (hx.s hs) hL hk hsz fun S h' af=>hq S h' af
theorem C4u{b:Nat}{E:List Ent}{n:B4p}(hg:∀x∈E,x.2.1.size≤9223372036854775800)(hsz:n.size≤9223372036854775800)(hl:E.length≤10000)(hq:∀S:Slc,At (V1 b6 3 S (E.filter fun x=>Z8 x.2.1 n)::A0l b E::L1) (Q (.slice S.a S.len S.cap)))(hx:Has L (A0l b E) L1:=by repeat first|with_reducible exact V5|apply V7):FW prog 137 #[at9 b,.string n] L Q:=fun h hs=>B9l hg hsz hl (hx.s hs) fun S h' af=>hq S h' af
theorem C0z{b:Nat}{E:List Ent}{id:Int}(hl:E.length≤10000)(hq:At (A0l b (A1q id E)::L1) (Q (.int .i64 ((A6w id E).length:Nat))))(hx:Has L (A0l b E) L1:=by repeat first|with_reducible exact V5|apply V7):FW prog 134 #[at9 b,.int .i64 id] L Q:=fun h hs=>C2f hl (hx.s hs) fun h' af=>hq h' af
theorem C3z{s:B4p}(hsz:s.size≤9223372036854775800)(hq:At L (Q (.int .i64 (A2X s)))):FW prog 190 #[.string s] L Q:=fun h hs=>A4y hs hsz fun h' af=>hq h' af
structure Szs(B:i6):Prop where
 dE:B.aH.Pairwise fun a b=>a.1≤b.1
 sub:∀e∈B.aH,e.2.1.size≤9223372036854775800
 kept:∀m∈B.kept,m.1.size≤256
 k64:B.kept.length≤64
 aB:B.aB.length≤1000000
 aG:B.aG.length≤1000
 nd:(B.aB.map (·.c)).Nodup
 wl:∀x∈B.aB,x.aX.1.size≤9223372036854775800
theorem C6w{k:Int}{A:List W7}:(A4T k A).2.length≤A.length:=by
 unfold A4T
 split
 ·exact D9 _
 ·split
  ·exact D9 _
  ·split
   ·unfold Y4;rw[C0];exact D9 _
   ·exact D2 _ _
theorem Szs.withS{B:i6}(h:Szs B){k:Int}{f:W7→W7}:Szs ⟨B.last,Y4 k f B.aG,B.aH,B.kept,B.aB⟩:=⟨h.dE,h.sub,h.kept,h.k64,h.aB,by show(Y4 k f B.aG).length≤1000;unfold Y4;rw[C0];exact h.aG,h.nd,h.wl⟩
theorem Szs.ended{B B2:i6}{k:Int}{q:Z7→Bool}(h:Szs B)(e:B2=⟨B.last,(A4T k B.aG).2,if(A4T k B.aG).1=true then A1q k B.aH else B.aH,B.kept,B.aB.filter q⟩):Szs B2:=by
 subst e
 have hd:(if(A4T k B.aG).1=true then A1q k B.aH else B.aH).Sublist B.aH:=by
  split
  ·exact I5
  ·exact G6 _
 exact⟨h.dE.sublist hd,fun e he=>h.sub e (hd.subset he),h.kept,h.k64,C4 (D2 _ _) h.aB,C4 C6w h.aG,h.nd.sublist (I5.map _),fun x hx=>h.wl x (E6.1 hx).1⟩
def A8A(p:Option Int)(l:List Ent):Option Int:=match l.getLast? with
 |some e=>some e.1
 |none=>p
theorem C2x{p:Option Int}{e:Ent}{l:List Ent}:A8A p (e::l)=A8A (some e.1) l:=by
 unfold A8A
 cases l with
 |nil=>rfl
 |cons x l=>
  rw[List.getLast?_cons_cons]
  cases hg:(x::l).getLast? with
  |none=>simp at hg
  |some z=>rfl
theorem B3A:∀(p:Option Int) (l:List Ent) (e:Ent),A5w p (l++[e])=A5w p l++(if A8A p l=some e.1 then[] else[e.1])
 |p,[],e=>by
  have h1:A8A p []=p:=rfl
  rw[h1,F0]
  unfold A5w A5w
  rfl
 |p,x::l,e=>by
  rw[G7,C2x]
  unfold A5w
  split
  ·rename_i hp
   rw[B3A p l e,hp]
  ·rw[B3A _ l e];rfl
def B53(id:Int)(q:Int)(e:Ent):Int:=if e.1=id∧q<e.2.2 then e.2.2 else q
theorem B52{id:Int}:∀(l:List Ent) (q:Int),l.foldl (B53 id) q=(l.filter fun e=>decide (e.1=id)).foldl (fun q e=>max q e.2.2) q
 |[],_=>rfl
 |e::l,q=>by
  rw[I4,B52 l]
  unfold B53
  by_cases he:e.1=id
  ·rw[G9 (by simpa using he),I4]
   congr 1
   by_cases h2:q<e.2.2
   ·rw[if_pos ⟨he,h2⟩];omega
   ·rw[if_neg (fun h=>h2 h.2)];omega
  ·rw[G2 (by simpa using he),if_neg (fun h=>he h.1)]
theorem C5R{M:List Ent}{i:Nat}{id:Int}(hp:(M.take i).filter (fun e=>decide (e.1=id))=[]):(M.drop i).foldl (B53 id) 0=A2L M id:=by
 rw[B52]
 unfold A2L
 have e:M.filter (fun e=>decide (e.1=id))=(M.drop i).filter fun e=>decide (e.1=id):=by
  conv=>lhs;rw[←J0 i M]
  rw[F4,hp,F0]
 rw[e]
theorem C3v{r:Nat}{full:Bool}{O:Slc→List u5→Asn}{T:V6}{m:MsT}(hO:A9z O)(ag:l8 T.b)(hz:Szs T.b)(hb:T.outs.length≤50000000)(hm:m.1.size≤9223372036854775800)
  (hq:At (rbA r full O (A0Q m T)::L1) (Q (.tuple #[])))(hx:Has L (rbA r full O T) L1:=by repeat first|with_reducible exact V5|apply V7):
  FW prog 88 #[at0 r,vMs m] L Q:=by
 refine fun h hs=>B3a (some ⟨r,0,none⟩) (toU m) h Q ((?_:W (rbA r full O T::L1) _ _) h (hx.s hs))
 clear hs h hx
 delta B5F bn cc ci cp cx ie ix jb ji jt ki kp nn nw pu ve vi vs wi
 refine Y8 fun x1=>?_
 refine W.load (b:=x1) (v:=m.2.2.2.1) ?_
 refine W.cut (fun _=>rbA r full O (A2i m T)::cells x1 (aS7 (toU m))::L1) (fun K hK=>?_) (fun _=>?_)
 ·refine A0s (fun hr=>?_) (fun hr=>?_)
  ·have e:A2i m T=C0e (B0R 64 T.b.kept (m.1,m.2.1,m.2.2.1,())).2 T:=if_pos hr
   rw[e] at hK
   refine W9 ?_
   refine A1F (g:=fun p R=>rbL r full O T p R) (fun h R=>A0m.1) fun p=>?_
   refine j0 (b:=r) (i:=2) (v:=some ⟨p.kb,0,none⟩) ?_
   refine W.load (b:=x1) (v:=m.1) ?_
   refine W.load (b:=x1) (v:=m.2.1) ?_
   refine W.load (b:=x1) (v:=m.2.2.1) ?_
   refine j2 (C8m (b:=p.kb) (K:=T.b.kept) (m:=(m.1,m.2.1,m.2.2.1,())) hz.k64 hm (At.un (U9 ?_)))
   refine At.rb (O:=O) (C0e (B0R 64 T.b.kept (m.1,m.2.1,m.2.2.1,())).2 T) p ?_
   exact(hK ()).sub
  ·have e:A2i m T=T:=if_neg (by rw[hr];decide)
   rw[e] at hK
   exact U9 (hK ()).sub
 have hk:=B6e (m:=m) ag
 have bC:(A5w none (T.b.aH.filter fun x=>Z8 x.2.1 m.1)).foldl (A1o m (T.b.aH.filter fun x=>Z8 x.2.1 m.1)) (A2i m T)=A0Q m T:=rfl
 have qa:=hk.aH
 rw[←hk.aH] at bC
 have iw:=hk.ok
 have gI:(A2i m T).outs.length≤50000000:=C4 hk.outs hb
 have fL:=hz.dE
 have nN:=hz.sub
 have bg:=hz.aB
 have lk:(A2i m T).b.aG.length≤1000:=by
  have:(A2i m T).b.aG=T.b.aG:=by unfold A2i;split<;>rfl
  rw[this];exact hz.aG
 rw[←hk.aH] at fL nN
 rw[←hk.aB] at bg
 clear hk qa
 generalize A2i m T=T0 at*
 refine W9 ?_
 refine A1F (g:=fun p R=>rbL r full O T0 p R) (fun h R=>A0m.1) fun p=>?_
 refine j0 (b:=r) (i:=1) (v:=some ⟨p.sb,0,none⟩) ?_
 refine W.load (b:=x1) (v:=m.1) ?_
 refine j2 (C4u (b:=p.sb) (E:=T0.b.aH) (n:=m.1) nN hm iw.aH (fun S=>At.un (x:=S) ?_))
 refine W.rb (O:=O) T0 p ?_
 have bl:∀e∈T0.b.aH.filter (fun x=>Z8 x.2.1 m.1),e∈T0.b.aH:=fun e he=>(E6.1 he).1
 have oA:(T0.b.aH.filter fun x=>Z8 x.2.1 m.1).Pairwise fun a b=>a.1≤b.1:=fL.filter _
 have ye:(T0.b.aH.filter fun x=>Z8 x.2.1 m.1).length≤10000:=C4 (D2 _ _) iw.aH
 generalize T0.b.aH.filter (fun x=>Z8 x.2.1 m.1)=M at*
 clear fL nN
 refine Y7 (X7 (enc:=b6) (size:=3) (s:=S) (xs:=M)) fun hl=>?_
 refine W.loop (γ:=Nat×V6) (fun g s=>s.1=(g.1:Int)∧g.1≤M.length∧g.2=(A5w none (M.take g.1)).foldl (A1o m M) T0∧l8 g.2.b∧g.2.b.aH=T0.b.aH∧g.2.b.aB=T0.b.aB∧g.2.outs.length≤50000000+320*g.1∧g.2.b.aG.map (·.id)=T0.b.aG.map (·.id))
  (fun g s=>rbA r full O g.2::V1 b6 3 S M::cells x1 (aS7 (toU m))::L1) (fun g=>M.length-g.1) (0,T0) ⟨rfl,C9 _,rfl,iw,rfl,rfl,by simp only;omega,rfl⟩ ?_ ?_
 ·show Sub _ (rbA r full O T0::V1 b6 3 S M::cells x1 (aS7 (toU m))::L1)
  repeat(first|with_reducible exact U3|with_reducible exact U4|refine U5 (by repeat first|with_reducible exact V5|apply V7) ?_|refine U6 ?_)
 rintro⟨i,T1⟩ s ⟨hi,cF,bP,aL,iI,cd,gg,jz⟩ K k1 k2
 simp only at hi cF bP aL iI cd gg jz
 by_cases ah:i<M.length
 ·refine Y5 (by rw[hi,hl];exact decide_eq_true (by omega)) ?_
  have aP:M[i]? =some M[i]:=B0 ah
  have aR:M.take (i+1)=M.take i++[M[i]]:=C3 ah
  have ei:=A9B ah
  have uT:IntKind.wrap .i64 (s.1+1)=((i+1:Nat):Int):=by rw[hi,W6 (by omega) (by omega)];rfl
  refine X9 ?_
  refine A1j (fun r=>r.1=decide (A8A none (M.take i)=some M[i].1)) (fun K0 oB=>?_) (fun r0 iZ=>?_)
  ·clear k1 k2
   by_cases h0:i=0
   ·subst h0
    refine X1 (by rw[hi];rfl) (U9 (oB _ ?_))
    simp[A8A]
   ·refine Y5 (by rw[hi];exact decide_eq_true (by omega)) ?_
    have bd:i-1<M.length:=by omega
    have qL:M[i-1]? =some M[i-1]:=B0 bd
    have iM:A8A none (M.take i)=some M[i-1].1:=by
     unfold A8A
     rw[List.getLast?_eq_getElem?,D6,Nat.min_eq_left (by omega),J4,if_pos (by omega),qL]
    refine b9 (enc:=b6) (xs:=M) (i:=i-1) bd (fun a ha=>?_) (he:=by rw[hi,W6 (by omega) (by omega)];omega)
    refine A3d (k:=0) (x:=M[i-1]) (v:=M[i-1].1) ha qL ?_
    refine b9 (enc:=b6) (xs:=M) (i:=i) ah (fun a2 bQ=>?_) (he:=hi)
    refine A3d (k:=0) (x:=M[i]) (v:=M[i].1) bQ aP ?_
    refine U9 (oB _ ?_)
    rw[iM]
    by_cases e:M[i-1].1=M[i].1<;>simp[e]
  have dD:=B3A none (M.take i) M[i]
  by_cases oP:A8A none (M.take i)=some M[i].1
  ·rw[if_pos oP,C1,←aR] at dD
   refine A1s (by rw[iZ];exact decide_eq_true oP) (j1 (U9 ?_))
   have hn:=k1 (i+1,T1) (IntKind.wrap .i64 (s.1+1),()) (by simp only;omega) ⟨uT,ah,by rw[dD];exact bP,aL,iI,cd,by simp only;omega,jz⟩
   exact hn.sub
  ·rw[if_neg oP,←aR] at dD
   refine o8 (by rw[iZ];exact decide_eq_false oP) ?_
   clear iZ r0
   have jV:(M.take i).filter (fun e=>decide (e.1=M[i].1))=[]:=J3.2 fun e he=>by
    have hle:∀x∈M.take i,∀y∈M[i]::M.drop (i+1),x.1≤y.1:=by
     rw[ei] at oA
     exact(I6.1 oA).2.2
    have pd:=(I6.1 (by rw[ei] at oA;exact oA)).1
    cases hg:(M.take i).getLast? with
    |none=>rw[List.getLast?_eq_none_iff.1 hg] at he;cases he
    |some z=>
     have sR:A8A none (M.take i)=some z.1:=by unfold A8A;rw[hg]
     rw[sR] at oP
     have rN:z∈M.take i:=List.mem_of_getLast? hg
     have h1:=hle z rN M[i] (B6 ..)
     have h2:e.1≤z.1:=by
      obtain⟨ys,wT⟩:=List.getLast?_eq_some_iff.1 hg
      rw[wT] at he pd
      rcases C7.1 he with h|h
      ·exact(I6.1 pd).2.2 e h z (B9.2 rfl)
      ·rw[B9.1 h];exact S7 _
     have h3:z.1≠M[i].1:=fun e=>oP (by rw[e])
     simp only[decide_eq_true_eq]
     omega
   have fy:(M.drop i).foldl (B53 M[i].1) 0=A2L M M[i].1:=C5R jV
   refine X9 ?_
   refine B94 (fun r=>r.1=A2L M M[i].1) (fun _=>rbA r full O T1::V1 b6 3 S M::cells x1 (aS7 (toU m))::L1) (fun K0 oB=>?_) (fun r0 iZ=>?_)
   ·clear k1 k2
    refine C9Q (γ:=Nat) (fun g s=>s.2.1=(g:Int)∧i≤g∧g≤M.length∧(M.drop g).foldl (B53 M[i].1) s.1=A2L M M[i].1) (fun g s=>rbA r full O T1::V1 b6 3 S M::cells x1 (aS7 (toU m))::L1) (fun g=>M.length-g) i ⟨hi,D9 _,cF,fy⟩ ?_ ?_
    ·repeat(first|with_reducible exact U3|with_reducible exact U4|refine U5 (by repeat first|with_reducible exact V5|apply V7) ?_|refine U6 ?_)
    rintro k s2 ⟨hk,yI,jw,hf⟩ K3 n1 n2
    by_cases cG:k<M.length
    ·refine Y5 (by rw[hk,hl];exact decide_eq_true (by omega)) ?_
     have lB:M[k]? =some M[k]:=B0 cG
     rw[E0 cG,I4] at hf
     have sZ:IntKind.wrap .i64 (s2.2.1+1)=((k+1:Nat):Int):=by rw[hk,W6 (by omega) (by omega)];rfl
     refine A1j (fun r=>r.1=decide (M[k].1=M[i].1∧s2.1<M[k].2.2)) (fun K4 dh=>?_) (fun r4 oR=>?_)
     ·refine b9 (enc:=b6) (xs:=M) (i:=k) cG (fun a ha=>?_) (he:=hk)
      refine A3d (k:=0) (x:=M[k]) (v:=M[k].1) ha lB ?_
      refine b9 (enc:=b6) (xs:=M) (i:=i) ah (fun a2 bQ=>?_) (he:=hi)
      refine A3d (k:=0) (x:=M[i]) (v:=M[i].1) bQ aP ?_
      by_cases e:M[k].1=M[i].1
      ·refine Y5 (by simpa using e) ?_
       refine b9 (enc:=b6) (xs:=M) (i:=k) cG (fun a ha=>?_) (he:=hk)
       refine A3d (k:=2) (x:=M[k]) (v:=M[k].2.2) ha lB ?_
       refine U9 (dh _ ?_)
       simp[e]
      ·refine X1 (by simpa using e) (U9 (dh _ ?_))
       simp[e]
     refine A1j (fun r=>r.1=B53 M[i].1 s2.1 M[k]) (fun K4 dh=>?_) (fun r5 xe=>?_)
     ·unfold B53 at dh
      by_cases e:M[k].1=M[i].1∧s2.1<M[k].2.2
      ·rw[if_pos e] at dh
       refine Y5 (by rw[oR];exact decide_eq_true e) ?_
       refine b9 (enc:=b6) (xs:=M) (i:=k) cG (fun a ha=>?_) (he:=hk)
       refine A3d (k:=2) (x:=M[k]) (v:=M[k].2.2) ha lB ?_
       exact U9 (dh _ rfl)
      ·rw[if_neg e] at dh
       exact X1 (by rw[oR];exact decide_eq_false e) (U9 (dh _ rfl))
     ·have hn:=n1 (k+1) (r5.1,IntKind.wrap .i64 (s2.2.1+1),()) (by omega) ⟨sZ,by omega,cG,by simp only;rw[xe];exact hf⟩
      exact U9 hn.sub
    ·refine X1 (by rw[hk,hl];exact decide_eq_false (by omega)) (U9 (n2 _ _ (oB _ ?_)))
     rw[N0 (by omega)] at hf
     exact hf
   ·obtain⟨s3,ai,hid⟩:=aL.live M[i] (by rw[iI];exact bl _ (H6 ah))
    have dj:=A4c (aL.bM s3 ai) (m.1,m.2.1,min m.2.2.1 (A2L M M[i].1),false,e0S)
    have e9:A1o m M T1 M[i].1=u0 M[i].1 (Z1 s3.out (m.1,m.2.1,min m.2.2.1 (A2L M M[i].1),false,e0S)).1.2 (A0S (Y4 M[i].1 (Y9 (Z1 s3.out (m.1,m.2.1,min m.2.2.1 (A2L M M[i].1),false,e0S)).1.1) T1.b.aG) T1):=by
     unfold A1o A01
     rw[A3u aL.nd ai hid]
    have ca:=B1e (m:=m) (l:=M) T1 M[i].1 aL
    have hn:=k1 (i+1,A1o m M T1 M[i].1) (IntKind.wrap .i64 (s.1+1),()) (by simp only;omega) ⟨uT,ah,by rw[dD,List.foldl_append,←bP];rfl,ca.ok,ca.aH.trans iI,ca.aB.trans cd,by have:=ca.outs;simp only;omega,A9E.trans jz⟩
    simp only at hn
    rw[e9] at hn
    clear k1 k2 e9 ca dD bC hq
    obtain⟨mq,_⟩:=r0
    simp only at iZ
    subst iZ
    have lA:s3.id=M[i].1:=hid
    generalize A2L M M[i].1=mq at hn dj⊢
    refine W9 ?_
    refine A1F (g:=fun p R=>rbL r full O T1 p R) (fun h R=>A0m.1) fun p2=>?_
    refine j0 (b:=r) (i:=0) (v:=some ⟨p2.tb,0,none⟩) ?_
    refine b9 (enc:=b6) (xs:=M) (i:=i) ah (fun a ha=>?_) (he:=hi)
    refine A3d (k:=0) (x:=M[i]) (v:=M[i].1) ha aP ?_
    generalize M[i].1=id at hn lA⊢
    have cA:T1.b.aG.length≤1000:=by have:=congrArg List.length jz;simp only[C0] at this;omega
    refine j2 (C2e (b:=p2.tb) (A:=T1.b.aG) (s:=s3) (k:=id) cA aL.nd ai lA (fun nb ob ib=>At.un (x:=some ⟨nb,0,none⟩) ?_))
    refine W.load (b:=x1) (v:=m.2.2.1) ?_
    refine j2 (C3u (a:=m.2.2.1) (b:=mq) (At.un (x:=min m.2.2.1 mq) ?_))
    refine W9 ?_
    refine W.load (b:=nb) (v:=some ⟨ob,0,none⟩) ?_
    refine W.load (b:=x1) (v:=m.1) ?_
    refine W.load (b:=x1) (v:=m.2.1) ?_
    refine Z9 (C0n (b:=ob) (o:=s3.out) (m:=(m.1,m.2.1,min m.2.2.1 mq,false,e0S)) (aL.bM s3 ai) (fun S2=>At.bD (x:=(S2,(Z1 s3.out (m.1,m.2.1,min m.2.2.1 mq,false,e0S)).2,())) ?_))
    refine W9 ?_
    refine W.load (b:=nb) (v:=s3.id) ?_
    rw[lA]
    refine A8T (A:=A0x p2.tb T1.b.last (Y4 id (Y9 (Z1 s3.out (m.1,m.2.1,min m.2.2.1 mq,false,e0S)).1.1) T1.b.aG)) (B:=cells nb (rqC s3 ob ib)) (C:=a7 ob (Z1 s3.out (m.1,m.2.1,min m.2.2.1 mq,false,e0S)).1.1) (D:=A05 ib s3.bA) (E:=A2K p2.tb T1.b.last T1.b.aG s3 nb) (fun h hs=>A5j (f:=Y9 (Z1 s3.out (m.1,m.2.1,min m.2.2.1 mq,false,e0S)).1.1) lA aL.nd rfl h hs) ?_
    refine W.rb (O:=O) (A0S (Y4 id (Y9 (Z1 s3.out (m.1,m.2.1,min m.2.2.1 mq,false,e0S)).1.1) T1.b.aG) T1) p2 ?_
    refine Z9 (A5l (O:=O) (T:=A0S (Y4 id (Y9 (Z1 s3.out (m.1,m.2.1,min m.2.2.1 mq,false,e0S)).1.1) T1.b.aG) T1) (id:=id) (ps:=(Z1 s3.out (m.1,m.2.1,min m.2.2.1 mq,false,e0S)).1.2) hO (aL.one id) (by have:=dj.2;show T1.outs.length+_≤_;omega) (by show T1.b.aB.length≤_;rw[cd];exact bg) (At.bD ?_))
    exact j1 (U9 hn.sub)
 ·refine X1 (by rw[hi,hl];exact decide_eq_false (by omega)) (U9 (k2 _ _ (U9 ?_)))
  rw[D1 (by omega)] at bP
  rw[bP,bC]
  exact hq.sub
end
section
open Go.H Go.Proofs
variable {h h0:Heap} {L L' L1 L2 L3 L4 R:List Asn} {Q:Value→Heap→Prop}
theorem B5x{r:Nat}{full:Bool}{O:Slc→List u5→Asn}{T:V6}{m:MsT}(hO:A9z O)(ag:l8 T.b)(hz:Szs T.b)(hb:T.outs.length≤50000000)(hp:T.aT.length≤1000000000)(hm:m.1.size≤9223372036854775800)
  (hq:At (rbA r full O (A4d m T)::L1) (Q (.tuple #[])))(hx:Has L (rbA r full O T) L1:=by repeat first|with_reducible exact V5|apply V7):
  FW prog 135 #[at0 r,vMs m] L Q:=by
 refine fun h hs=>A92 (some ⟨r,0,none⟩) (toU m) h Q ((?_:W (rbA r full O T::L1) _ _) h (hx.s hs))
 clear hs h hx
 have fz:((A0Q m T).aT.length+1)*64≤140737488355328:=by rw[A74];omega
 have hq:At (rbA r full O (⟨(A0Q m T).b,(A0Q m T).outs,(A0Q m T).aT++[m]⟩:V6)::L1) (Q (.tuple #[])):=hq
 delta B0p az bn cx g7 kc nn nw pu rq sx vs
 refine Y8 fun x1=>?_
 refine u7 (b:=x1) (v:=toU m) ?_
 refine Z9 (C3v (O:=O) (T:=T) (m:=m) hO ag hz hb hm (At.bD ?_))
 generalize A0Q m T=T1 at hq fz⊢
 refine W9 ?_
 refine A1F (g:=fun p R=>rbL r full O T1 p R) (fun h R=>A0m.1) fun p=>?_
 refine j0 (b:=r) (i:=6) (v:=p.sp) ?_
 refine u7 (b:=x1) (v:=toU m) ?_
 refine Y8 fun x7=>?_
 refine j0 (b:=r) (i:=6) (v:=p.sp) ?_
 refine A1t ?_ rfl
 refine B0k (b:=x7) (xs:=T1.aT) (enc:=Z5) (s:=p.sp) m (fun s'=>?_) fz
 refine W9 ?_
 refine A4v (b:=r) (i:=6) (cs':=rbC ⟨p.tb,p.sb,p.kb,p.sc,p.so,s'⟩ full) ?_
 refine W.rb (O:=O) (⟨T1.b,T1.outs,T1.aT++[m]⟩:V6) ⟨p.tb,p.sb,p.kb,p.sc,p.so,s'⟩ ?_
 exact U9 hq.sub
theorem C2K{α:Type}{l:List α}{a i:Nat}(h:i<l.length):(l.take (i+1)).eraseIdx a=(l.take i).eraseIdx a++(if i=a then[] else[l[i]]):=by
 rw[C3 h]
 have hl:(l.take i).length=i:=by rw[D6];omega
 by_cases e:i=a
 ·subst e
  have e1:(l.take i++[l[i]]).eraseIdx i=l.take i++[l[i]].eraseIdx (i-(l.take i).length):=List.eraseIdx_append_of_length_le (U1 hl) _
  have e2:(l.take i).eraseIdx i=l.take i:=List.eraseIdx_of_length_le (U1 hl)
  rw[if_pos rfl,C1,e1,e2,hl,Q4]
  simp only[List.eraseIdx_zero,List.tail_cons,C1]
 ·rw[if_neg e]
  by_cases h2:a<i
  ·exact List.eraseIdx_append_of_lt_length (by omega) _
  ·have e3:(l.take i++[l[i]]).eraseIdx a=l.take i++[l[i]]:=List.eraseIdx_of_length_le (by rw[B3,hl];simp only[B7,G1];omega)
   have e4:(l.take i).eraseIdx a=l.take i:=List.eraseIdx_of_length_le (by omega)
   rw[e3,e4]
theorem C1f{c:Int}:∀{l:List Z7} {a:Nat},(l.map (·.c)).Nodup→atC c l=some a→l.eraseIdx a=l.filter fun y=>decide (y.c≠c)
 |[],a,_,h=>by cases h
 |x::l,a,hn,h=>by
  unfold atC at h
  rw[List.findIdx?_cons] at h
  rw[B5,G0] at hn
  by_cases e:x.c=c
  ·rw[if_pos (by simpa using e)] at h
   cases h
   rw[List.eraseIdx_zero,List.tail_cons,G2 (by simpa using e)]
   symm
   refine H3.2 fun y hy=>?_
   have:y.c≠c:=fun e2=>hn.1 (by rw[e,←e2];exact B4 hy)
   simpa using this
  ·rw[if_neg (by simpa using e)] at h
   cases hf:List.findIdx? (fun x=>decide (x.c=c)) l with
   |none=>rw[hf] at h;cases h
   |some j=>
    rw[hf] at h
    cases h
    rw[List.eraseIdx_cons_succ,G9 (by simpa using e),C1f hn.2 hf]
theorem B9j{r:Nat}{full:Bool}{O:Slc→List u5→Asn}{T:V6}{c:Int}{aX:Bool}(hO:A9z O)(ag:l8 T.b)(hz:Szs T.b)(hb:T.outs.length≤50000000)(hp:T.aT.length≤1000000000)
  (hq:At (rbA r full O (A4U full c aX T)::L1) (Q (.tuple #[])))(hx:Has L (rbA r full O T) L1:=by repeat first|with_reducible exact V5|apply V7):
  FW prog 87 #[at0 r,.int .i64 c,.bool aX] L Q:=by
 refine fun h hs=>B4H (some ⟨r,0,none⟩) c aX h Q ((?_:W (rbA r full O T::L1) _ _) h (hx.s hs))
 clear hs h hx
 have bg:=hz.aB
 unfold A4U at hq
 delta B73 ad az bn cb ci cx g7 ie ix jb ji kb kc kp nn nw pu sn sx ve vi vs w5 w6 w7 wi
 cases ha:atC c T.b.aB with
 |none=>
  rw[B2O.1 ha] at hq
  refine j2 (B5T (O:=O) (T:=T) (c:=c) bg (At.un (x:=(-1:Int)) ?_ (by rw[ha];rfl)))
  exact Y5 rfl (U9 hq)
 |some i=>
  obtain⟨x,sX,lC,oM⟩:=C1A ha
  rw[lC] at hq
  simp only at hq
  have ah:i<T.b.aB.length:=(D4.1 sX).1
  refine j2 (B5T (O:=O) (T:=T) (c:=c) bg (At.un (x:=(i:Int)) ?_ (by rw[ha];rfl)))
  refine X1 (decide_eq_false (by omega)) ?_
  refine W9 ?_
  refine A1F (g:=fun p R=>rbL r full O T p R) (fun h R=>A0m.1) fun p=>?_
  refine Y7 (X7 (enc:=y7) (size:=8) (s:=p.sc) (xs:=T.b.aB)) fun hl=>?_
  refine j0 (b:=r) (i:=3) (v:=p.sc) ?_
  refine b9 (enc:=y7) (xs:=T.b.aB) (i:=i) ah (fun a bQ=>?_)
  refine B2S (x:=x) (v:=rcU x) bQ sX ?_
  refine Y8 fun x6=>?_
  refine A0u (b:=x6) ?_
  refine W.cells (b:=x6) (y7 x).toArray ?_
  refine B7O y7 8 ((T.b.aB.take 0).eraseIdx i) ?_
  refine W.loop (γ:=Nat) (fun g s=>s.2.1=(g:Int)∧g≤T.b.aB.length) (fun g s=>V1 y7 8 s.1 ((T.b.aB.take g).eraseIdx i)::cells x6 (y7 x).toArray::rbL r full O T p L1) (fun g=>T.b.aB.length-g) 0 ⟨rfl,C9 _⟩ ?_ ?_
  ·show Sub _ (V1 y7 8 ⟨none,0,0⟩ ((T.b.aB.take 0).eraseIdx i)::cells x6 (y7 x).toArray::rbL r full O T p L1)
   repeat(first|with_reducible exact U3|with_reducible exact U4|refine U5 (by repeat first|with_reducible exact V5|apply V7) ?_|refine U6 ?_)
  rintro k s ⟨hk,jw⟩ K k1 k2
  refine W9 ?_
  refine j0 (b:=r) (i:=3) (v:=p.sc) ?_
  by_cases bd:k<T.b.aB.length
  ·refine Y5 (by rw[hk,hl];exact decide_eq_true (by omega)) ?_
   have lB:T.b.aB[k]? =some T.b.aB[k]:=B0 bd
   have sZ:IntKind.wrap .i64 (s.2.1+1)=((k+1:Nat):Int):=by rw[hk,W6 (by omega) (by omega)];rfl
   have bh:=fun s'=>k1 (k+1) (s',IntKind.wrap .i64 (s.2.1+1),()) (by omega) ⟨sZ,bd⟩
   rw[C2K bd] at bh
   clear k1 k2 hq
   by_cases e:k=i
   ·rw[if_pos e,C1] at bh
    refine o8 (by rw[hk,e];simp) (j1 (U9 ?_))
    exact(bh s.1).sub
   ·rw[if_neg e] at bh
    refine A1s (by rw[hk];simp;omega) ?_
    refine X9 (W9 ?_)
    refine X9 (j0 (b:=r) (i:=3) (v:=p.sc) ?_)
    refine X9 (b9 (enc:=y7) (xs:=T.b.aB) (i:=k) bd (fun a3 hP=>?_) (he:=hk))
    refine X9 (B2S (x:=T.b.aB[k]) (v:=rcU T.b.aB[k]) hP lB ?_)
    refine X9 (Y8 fun mF=>?_)
    have xV:(((T.b.aB.take k).eraseIdx i).length+1)*88≤140737488355328:=by
     have h1:=List.length_eraseIdx_le (T.b.aB.take k) i
     rw[D6] at h1
     omega
    refine X9 (B0k (b:=mF) (s:=s.1) (xs:=(T.b.aB.take k).eraseIdx i) (enc:=y7) T.b.aB[k] (fun s'=>?_) xV)
    exact j1 (U9 (bh s').sub)
  ·refine X1 (by rw[hk,hl];exact decide_eq_false (by omega)) (U9 (k2 _ _ ?_))
   rw[D1 (by omega),C1f hz.nd ha]
   clear k1 k2
   refine W9 ?_
   refine A4v (b:=r) (i:=3) (cs':=rbC ⟨p.tb,p.sb,p.kb,s.1,p.so,p.sp⟩ full) ?_
   refine W9 ?_
   refine j0 (b:=r) (i:=0) (v:=some ⟨p.tb,0,none⟩) ?_
   refine W.load (b:=x6) (v:=x.aG) ?_
   refine j2 (C8p (b:=p.tb) (A:=T.b.aG) (k:=x.aG) hz.aG ag.nd (At.un ?_))
   have h1:=B9N (k:=x.aG) (ag.conn fun y=>decide (y.c≠c)) (ag.gone lC)
   rw[B5c] at hq h1
   simp only at hq h1
   obtain⟨B2,oE⟩:∃B2:i6,B2=⟨T.b.last,(A4T x.aG T.b.aG).2,if(A4T x.aG T.b.aG).1=true then A1q x.aG T.b.aH else T.b.aH,T.b.kept,T.b.aB.filter fun y=>decide (y.c≠c)⟩:=⟨_,rfl⟩
   rw[←oE] at hq h1
   refine W.cut (fun _=>rbA r full O (tB B2 T)::cells x6 (y7 x).toArray::L1) (fun K2 aQ=>?_) (fun _=>?_)
   ·clear hq
    refine A0s (fun hd=>?_) (fun hd=>?_)
    ·rw[if_pos hd] at oE
     subst oE
     refine W9 ?_
     refine j0 (b:=r) (i:=1) (v:=some ⟨p.sb,0,none⟩) ?_
     refine W.load (b:=x6) (v:=x.aG) ?_
     refine j2 (C0z (b:=p.sb) (E:=T.b.aH) (id:=x.aG) ag.aH (At.un (U9 ?_)))
     refine At.rb (O:=O) (tB ⟨T.b.last,(A4T x.aG T.b.aG).2,A1q x.aG T.b.aH,T.b.kept,T.b.aB.filter fun y=>decide (y.c≠c)⟩ T) ⟨p.tb,p.sb,p.kb,s.1,p.so,p.sp⟩ ?_
     exact(aQ ()).sub
    ·rw[if_neg (by rw[hd];decide)] at oE
     subst oE
     refine U9 ?_
     refine At.rb (O:=O) (tB ⟨T.b.last,(A4T x.aG T.b.aG).2,T.b.aH,T.b.kept,T.b.aB.filter fun y=>decide (y.c≠c)⟩ T) ⟨p.tb,p.sb,p.kb,s.1,p.so,p.sp⟩ ?_
     exact(aQ ()).sub
   have uP:x∈T.b.aB:=E9 sX
   have gJ:Szs B2:=hz.ended oE
   have sY:=hz.wl x uP
   clear oE
   cases aX with
   |false=>
    rw[if_neg (by simp)] at hq
    exact o8 rfl (j1 (o8 rfl (j1 (U9 hq.sub))))
   |true=>
    refine A1s rfl ?_
    refine X9 (W.load (b:=x6) (v:=x.bE) ?_)
    cases eY:x.bE with
    |false=>
     rw[if_neg (by simp[eY])] at hq
     exact o8 rfl (j1 (o8 rfl (j1 (U9 hq.sub))))
    |true=>
     refine A1s rfl ?_
     refine X9 (W9 ?_)
     refine A1F (g:=fun p R=>rbL r full O (tB B2 T) p R) (fun h R=>A0m.1) fun p2=>?_
     refine X9 (j0 (b:=r) (i:=4) (v:=full) ?_)
     refine j1 ?_
     refine W.rb (O:=O) (tB B2 T) p2 ?_
     cases full with
     |true=>
      rw[if_neg (by simp)] at hq
      exact o8 rfl (j1 (U9 hq.sub))
     |false=>
      rw[if_pos ⟨rfl,eY,rfl⟩] at hq
      refine A1s rfl ?_
      refine X9 (A8p (b:=x6) (i:=3) (v:=toU x.aX) ?_)
      refine X9 (Z9 (B5x (O:=O) (T:=tB B2 T) (m:=x.aX) hO h1.1 gJ hb hp sY (At.bD ?_)))
      exact j1 (U9 hq.sub)
theorem A3P{r:Nat}{full:Bool}{O:Slc→List u5→Asn}{T:V6}{c code:Int}(hO:A9z O)(ag:l8 T.b)(hz:Szs T.b)(hb:T.outs.length<50000000)(hp:T.aT.length≤1000000000)
  (hq:At (rbA r full O (A0O full c code T)::L1) (Q (.tuple #[])))(hx:Has L (rbA r full O T) L1:=by repeat first|with_reducible exact V5|apply V7):
  FW prog 143 #[at0 r,.int .i64 c,.int .i64 code] L Q:=by
 refine fun h hs=>B0Y (some ⟨r,0,none⟩) c code h Q ((?_:W (rbA r full O T::L1) _ _) h (hx.s hs))
 clear hs h hx
 unfold A0O at hq
 delta B1G cx pu ve vi vz
 refine B7N (k:=.i64) (l6 14 0 code) rfl rfl ?_
 refine Z9 (B9b (O:=O) (T:=T) (c:=c) (o:=l6 14 0 code) (ci:=⟨none,0,0⟩) (pi:=⟨none,0,0⟩) hO (by omega) (At.bD ?_))
 refine Z9 (B9j (O:=O) (T:=A0N ⟨c,l6 14 0 code,true⟩ T) (c:=c) (aX:=true) hO ag hz (by show(T.outs++[_]).length≤_;rw[B3];simp only[B7,G1];omega) hp (At.bD ?_))
 exact U9 hq.sub
end
section
open Go.H Go.Proofs
variable {h h0:Heap} {L L' L1 L2 L3 L4 R:List Asn} {Q:Value→Heap→Prop}
def A0E(nb ob ib:Nat)(id:Int):B46:=fun b last A=>exA fun s:W7=>A00 [pr (s∈A∧s.id=id),cells nb (rqC s ob ib),a7 ob s.out,A05 ib s.bA,A2K b last A s nb]
theorem A5k{nb ob ib b:Nat}{id last:Int}{A:List W7}:sat h (A0E nb ob ib id b last A::R)↔∃s:W7,(s∈A∧s.id=id)∧sat h (cells nb (rqC s ob ib)::a7 ob s.out::A05 ib s.bA::A2K b last A s nb::R):=by
 unfold A0E
 rw[sat.aZ]
 simp only[sat.bW,G7,F0,sat.bB]
theorem A65{r nb ob ib:Nat}{full:Bool}{id:Int}{O:Slc→List u5→Asn}{T:V6}:∀h R,sat h (rbX r full (A0E nb ob ib id) O T::R)→sat h (rbA r full O T::R):=fun h R hs=>by
 obtain⟨p,h1⟩:=A0F.1 hs
 obtain⟨s,_,h2⟩:=A5k.1 (h1.re [4,0,1,2,3,5,6])
 have h3:=A5i h h2
 exact A0F.2 ⟨p,h3.re [1,2,3,4,0,5,6]⟩
theorem C5H{b nb:Nat}{last k:Int}{A:List W7}{s:W7}{f:W7→W7}(hk:s.id=k)(hn:(A.map (·.id)).Nodup):∀h R,sat h (A2K b last A s nb::R)→sat h (A2K b last (Y4 k f A) (f s) nb::R):=fun h R hs=>by
 subst hk
 obtain⟨S,l1,l2,rfl,h1⟩:=A85.1 hs
 rw[B8,B5] at hn⊢
 rw[A82 hn]
 have e:(l1++(nb,s)::l2).map (·.1)=(l1++(nb,f s)::l2).map (·.1):=by simp
 rw[e] at h1
 exact A85.2 ⟨S,l1,l2,by simp,h1⟩
theorem B0T{b nb ob ib:Nat}{last k:Int}{A:List W7}{s s':W7}{f:W7→W7}(dW:s∈A)(hk:s.id=k)(hn:(A.map (·.id)).Nodup)(hf:f s=s')(hi:s'.id=s.id):∀h,sat h (cells nb (rqC s' ob ib)::a7 ob s'.out::A05 ib s'.bA::A2K b last A s nb::R)→sat h (A0E nb ob ib k b last (Y4 k f A)::R):=fun h hs=>by
 subst hf
 refine A5k.2 ⟨f s,⟨?_,hi.trans hk⟩,?_⟩
 ·unfold Y4
  have:=B4 (f:=fun s=>if s.id=k then f s else s) dW
  rwa[if_pos hk] at this
 ·have h1:=C5H (f:=f) hk hn h _ (hs.re [3,0,1,2])
  exact h1.re [1,2,3,0]
theorem C7j{r nb ob ib:Nat}{full:Bool}{O:Slc→List u5→Asn}{T:V6}{x:Z7}{p:Pk}{pl:List r8}{sl:List A0L}{fl:List B4p}(hO:A9z O)(ag:l8 T.b)(hz:Szs T.b)(ef:∀s∈T.b.aG,s.bA.ok)(hc:A1I x.c T.b.aB=some x)(hb:T.outs.length<40000000)(hp:T.aT.length≤1000000000)(hsz:p.2.2.2.2.2.1.size≤9223372036854775800)
  (hq:At (rbA r full O (A8t full x (pkI p pl sl fl) T)::L1) (Q (.tuple #[])))(hx:Has L (rbX r full (A0E nb ob ib x.aG) O T) L1:=by repeat first|with_reducible exact V5|apply V7):
  FW prog 141 #[at0 r,.int .i64 x.c,at0 nb,A2B .i64 p] L Q:=by
 refine fun h hs=>B25 (some ⟨r,0,none⟩) x.c (some ⟨nb,0,none⟩) p h Q ((?_:W (rbX r full (A0E nb ob ib x.aG) O T::L1) _ _) h (hx.s hs))
 clear hs h hx
 obtain⟨s,hs,hid⟩:=ag.cl x (A1V hc).1
 unfold A8t at hq
 simp only[A3u ag.nd hs hid] at hq
 delta B5A az bn ci cx g2 ie jb ji jt kb ki kp nn nw pu ve vi vs
 refine Y8 fun x1=>?_
 refine W.load (b:=x1) (v:=p.2.2.2.2.2.1) ?_
 refine j2 (C3z hsz (At.un (x:=A2X p.2.2.2.2.2.1) ?_))
 refine A1j (fun r=>r.1=(decide (p.1=3)&& !a8 p.2.2.2.2.2.1)) (fun K hK=>?_) (fun r0 hr=>?_)
 ·refine W.load (b:=x1) (v:=p.1) ?_
  refine A0s (fun h3=>?_) (fun h3=>?_)
  ·refine U9 (At.sub (hK _ ?_))
   simp only[Q0] at h3
   simp only[h3,decide_true,G5]
   unfold A2X
   cases a8 p.2.2.2.2.2.1<;>rfl
  ·refine U9 (hK _ ?_)
   simp only[H9,ne_eq] at h3
   simp[h3]
 obtain⟨r0,_⟩:=r0
 simp only at hr
 subst hr
 by_cases al:p.1=3∧a8 p.2.2.2.2.2.1=false
 ·rw[if_pos al] at hq
  refine Y5 (by simp[al.1,al.2]) ?_
  refine B93 (A:=rbX r full (A0E nb ob ib x.aG) O T) (B:=rbA r full O T) (fun h R hs=>A65 h R hs) ?_
  refine Z9 (A3P (O:=O) (T:=T) (c:=x.c) (code:=144) hO ag hz (by omega) hp (At.bD ?_))
  exact U9 hq.sub
 rw[if_neg al] at hq
 refine X1 (by
  by_cases e:p.1=3
  ·have:a8 p.2.2.2.2.2.1=true:=by
    cases hn:a8 p.2.2.2.2.2.1
    ·exact absurd ⟨e,hn⟩ al
    ·rfl
   simp[this]
  ·simp[e]) ?_
 refine W9 ?_
 refine A1F (g:=fun p R=>B11 r full (A0E nb ob ib x.aG) O T p R) (fun h R=>A0F.1) fun q=>?_
 refine j0 (b:=r) (i:=4) (v:=full) ?_
 refine A1j (fun r=>r.1=if full=true then 151 else 0) (fun K hK=>A0s (fun e=>U9 (hK _ (if_pos e).symm)) (fun e=>U9 (hK _ (if_neg (by simp[e])).symm))) (fun r0 hr=>?_)
 obtain⟨why,_⟩:=r0
 simp only at hr
 rw[←hr] at hq
 clear hr al
 refine C1I (fun h R hs=>(A5k (b:=q.tb) (last:=T.b.last) (A:=T.b.aG)).1 hs) fun s' af=>?_
 have lk:s'=s:=A7b (f:=(·.id)) ag.nd af.1 hs (af.2.trans hid.symm)
 subst lk
 clear af
 refine W9 ?_
 refine W.load (b:=nb) (v:=some ⟨ib,0,none⟩) ?_
 refine u7 (b:=x1) (v:=p) ?_
 refine Z9 (C7m (f:=ib) (s:=s'.bA) (p:=p) (why:=why) (ef s' hs) (fun S=>At.bD (x:=((q7 s'.bA p.1 p.2.2.2.1 p.2.2.2.2.1 why).1,S,(q7 s'.bA p.1 p.2.2.2.1 p.2.2.2.2.1 why).2.2.1,())) ?_))
 generalize hR:q7 s'.bA p.1 p.2.2.2.1 p.2.2.2.2.1 why=rr at hq⊢
 have dz:=hz.withS (k:=x.aG) (f:=k9 ⟨s'.bA.most,s'.bA.taken,rr.2.2.2⟩)
 have aL:l8 (A0S (Y4 x.aG (k9 ⟨s'.bA.most,s'.bA.taken,rr.2.2.2⟩) T.b.aG) T).b:=ag.fF
 by_cases av:rr.2.2.1=0
 ·rw[if_neg (by simpa using av)] at hq
  refine X1 (by simp[av]) ?_
  refine W9 ?_
  refine W.load (b:=nb) (v:=s'.id) ?_
  rw[hid]
  refine A8T (A:=A0E nb ob ib x.aG q.tb T.b.last (Y4 x.aG (k9 ⟨s'.bA.most,s'.bA.taken,rr.2.2.2⟩) T.b.aG)) (B:=cells nb (rqC s' ob ib)) (C:=a7 ob s'.out) (D:=A05 ib ⟨s'.bA.most,s'.bA.taken,rr.2.2.2⟩) (E:=A2K q.tb T.b.last T.b.aG s' nb) (fun h ae=>B0T (f:=k9 ⟨s'.bA.most,s'.bA.taken,rr.2.2.2⟩) hs hid ag.nd rfl rfl h ae) ?_
  refine W.dY (X:=A0E nb ob ib x.aG) (O:=O) (A0S (Y4 x.aG (k9 ⟨s'.bA.most,s'.bA.taken,rr.2.2.2⟩) T.b.aG) T) q ?_
  have kH:(A31 rr.2.1 p.2.2.2.2.1).length≤1:=by unfold A31;split<;>simp
  refine Z9 (A5l (X:=A0E nb ob ib x.aG) (O:=O) (T:=A0S (Y4 x.aG (k9 ⟨s'.bA.most,s'.bA.taken,rr.2.2.2⟩) T.b.aG) T) (id:=x.aG) (ps:=A31 rr.2.1 p.2.2.2.2.1) hO (ag.one x.aG) (by simp only;omega) hz.aB (At.bD ?_))
  have td:(T.outs++A2v T.b.aB x.aG (A31 rr.2.1 p.2.2.2.2.1)).length≤50000000:=by
   rw[B3];have:=A9A (A31 rr.2.1 p.2.2.2.2.1) (ag.one x.aG);omega
  refine B93 (A:=rbX r full (A0E nb ob ib x.aG) O (u0 x.aG (A31 rr.2.1 p.2.2.2.2.1) (A0S (Y4 x.aG (k9 ⟨s'.bA.most,s'.bA.taken,rr.2.2.2⟩) T.b.aG) T))) (B:=rbA r full O (u0 x.aG (A31 rr.2.1 p.2.2.2.2.1) (A0S (Y4 x.aG (k9 ⟨s'.bA.most,s'.bA.taken,rr.2.2.2⟩) T.b.aG) T))) (fun h R hs=>A65 h R hs) ?_
  cases hf:rr.1 with
  |false=>
   rw[if_neg (by simp[hf])] at hq
   exact o8 rfl (j1 (o8 rfl (j1 (U9 hq.sub))))
  |true=>
   refine A1s rfl ?_
   refine X9 (W9 ?_)
   refine A1F (g:=fun q' R=>rbL r full O (u0 x.aG (A31 rr.2.1 p.2.2.2.2.1) (A0S (Y4 x.aG (k9 ⟨s'.bA.most,s'.bA.taken,rr.2.2.2⟩) T.b.aG) T)) q' R) (fun h R=>A0m.1) fun p2=>?_
   refine X9 (j0 (b:=r) (i:=4) (v:=full) ?_)
   refine j1 ?_
   refine W.rb (O:=O) (u0 x.aG (A31 rr.2.1 p.2.2.2.2.1) (A0S (Y4 x.aG (k9 ⟨s'.bA.most,s'.bA.taken,rr.2.2.2⟩) T.b.aG) T)) p2 ?_
   cases full with
   |true=>
    rw[if_neg (by simp)] at hq
    exact o8 rfl (j1 (U9 hq.sub))
   |false=>
    rw[if_pos ⟨hf,rfl⟩] at hq
    refine A1s rfl ?_
    refine X9 (W.load (b:=x1) (v:=p.2.2.2.2.2.1) ?_)
    refine X9 (W.load (b:=x1) (v:=p.2.2.2.2.2.2.1) ?_)
    refine X9 (W.load (b:=x1) (v:=p.2.2.2.1) ?_)
    refine X9 (W.load (b:=x1) (v:=p.2.2.1) ?_)
    refine X9 (Z9 (B5x (O:=O) (m:=(p.2.2.2.2.2.1,p.2.2.2.2.2.2.1,p.2.2.2.1,p.2.2.1,e0S)) (T:=u0 x.aG (A31 rr.2.1 p.2.2.2.2.1) (A0S (Y4 x.aG (k9 ⟨s'.bA.most,s'.bA.taken,rr.2.2.2⟩) T.b.aG) T)) hO aL dz td hp hsz (At.bD ?_)))
    exact j1 (U9 hq.sub)
 ·rw[if_pos (by simpa using av)] at hq
  refine Y5 (by simp[av]) ?_
  refine A8T (A:=A0x q.tb T.b.last (Y4 x.aG (k9 ⟨s'.bA.most,s'.bA.taken,rr.2.2.2⟩) T.b.aG)) (B:=cells nb (rqC s' ob ib)) (C:=a7 ob s'.out) (D:=A05 ib ⟨s'.bA.most,s'.bA.taken,rr.2.2.2⟩) (E:=A2K q.tb T.b.last T.b.aG s' nb) (fun h ae=>A5j (f:=k9 ⟨s'.bA.most,s'.bA.taken,rr.2.2.2⟩) hid ag.nd rfl h ae) ?_
  refine W.rb (O:=O) (A0S (Y4 x.aG (k9 ⟨s'.bA.most,s'.bA.taken,rr.2.2.2⟩) T.b.aG) T) q ?_
  refine Z9 (A3P (O:=O) (T:=A0S (Y4 x.aG (k9 ⟨s'.bA.most,s'.bA.taken,rr.2.2.2⟩) T.b.aG) T) (c:=x.c) (code:=rr.2.2.1) hO aL dz (by simp only;omega) hp (At.bD ?_))
  exact U9 hq.sub
end
section
open Go.H Go.Proofs
variable {h h0:Heap} {L L' L1 L2 L3 L4 R:List Asn} {Q:Value→Heap→Prop}
theorem C2d{b:Nat}{E:List Ent}{id:Int}{f:B4p}(hl:E.length≤10000)(hq:At (A0l b (A1S E id f)::L1) (Q (.bool (decide ((A1S E id f).length<E.length)))))(hx:Has L (A0l b E) L1:=by repeat first|with_reducible exact V5|apply V7):
  FW prog 198 #[at9 b,.int .i64 id,.string f] L Q:=fun h hs=>B9k hl (hx.s hs) fun h' af=>hq h' af
theorem C7p{t:Nat}{E:List Ent}{id q:Int}{f:B4p}(hsz:f.size≤9223372036854775800)(hl:E.length≤10000)(hq:At (A0l t (A2P E id f q).2::L1) (Q (.int .i64 (A2P E id f q).1)))(hx:Has L (A0l t E) L1:=by repeat first|with_reducible exact V5|apply V7):
  FW prog 196 #[at9 t,C5p id f q] L Q:=fun h hs=>by
 unfold A2P at hq
 refine C4w hsz hl (hx.s hs) (fun hb h' af=>?_) (fun hb dZ h' af=>?_) (fun hb q0 q1 i x hi hk ux h' af=>?_) (fun hb q0 q1 ay hc h' af=>?_) (fun hb q0 q1 ay hc h' af=>?_)
 ·rw[if_pos hb] at hq;exact hq h' af
 ·rw[if_neg (by simp[hb]),if_pos dZ] at hq;exact hq h' af
 ·rw[if_neg (by simp[hb]),if_neg (by omega)] at hq
  have hf:E.findIdx? (fun x=>decide (j3 x=(id,f)))=some i:=by
   obtain⟨ah,hx⟩:=D4.1 hi
   refine J6.2 ⟨ah,by simp[hx,hk],fun j hj=>?_⟩
   have:=ux E[j] (List.mem_take_iff_getElem.2 ⟨j,by omega,rfl⟩)
   simpa using this
  rw[hf] at hq
  exact hq h' af
 ·rw[if_neg (by simp[hb]),if_neg (by omega),O3.2 (fun x hx=>by simpa using ay x hx)] at hq
  simp only[if_pos hc] at hq
  exact hq h' af
 ·rw[if_neg (by simp[hb]),if_neg (by omega),O3.2 (fun x hx=>by simpa using ay x hx)] at hq
  simp only[if_neg (Nat.not_le.2 hc)] at hq
  exact hq h' af
theorem C30{β:Type}{Q':β→Heap→Prop}{nb ob ib b:Nat}{id last:Int}{A:List W7}{f:Int→HM β}(hw:W L (f id) Q')(hx:Has L (A0E nb ob ib id b last A) L1:=by repeat first|with_reducible exact V5|apply V7):
  W L (HM.bind (r7 (.int .i64) (Addr.add ⟨nb,0,none⟩ 0)) f) Q':=fun h hs=>by
 obtain⟨s,⟨_,hid⟩,h2⟩:=A5k.1 (hx.s hs)
 refine⟨id,?_,hw h hs⟩
 rw[V0,h2.cell 0,←hid]
 rfl
theorem B5t{r nb ob ib:Nat}{full:Bool}{T:V6}{x:Z7}{p:Pk}{pl:List r8}{sl:List A0L}{fl:List B4p}(ag:l8 T.b)(hb:T.outs.length≤10000000)(hn:fl.length≤100)
  (hq:At (rbA r full (W3 .i64) (A1L x (pkI p pl sl fl) T)::L2) (Q (.tuple #[])))(hx:Has L (rbX r full (A0E nb ob ib x.aG) (W3 .i64) T) L1:=by repeat first|with_reducible exact V5|apply V7)(hz:Has L1 (V1 A0p 1 (A4A p) fl) L2:=by repeat first|with_reducible exact V5|apply V7):
  FW prog 145 #[at0 r,.int .i64 x.c,at0 nb,A2B .i64 p] L Q:=by
 refine fun h hs=>A62 (some ⟨r,0,none⟩) x.c (some ⟨nb,0,none⟩) p h Q ((?_:W (rbX r full (A0E nb ob ib x.aG) (W3 .i64) T::V1 A0p 1 (A4A p) fl::L2) _ _) h ((hx.then hz).s hs))
 clear hs h hx hz
 unfold A1L at hq
 simp only at hq
 obtain⟨EF,jD⟩:∃EF,EF=(A0Z x.aG fl T.b.aH).1:=⟨_,rfl⟩
 obtain⟨CF,jn⟩:∃CF,CF=(A0Z x.aG fl T.b.aH).2:=⟨_,rfl⟩
 rw[←jD,←jn] at hq
 delta A50 az bn cb cx g2 ie ix jc ji ki kp lt nn nw pu sn sw ve vi vs vz wi
 refine Y8 fun x1=>?_
 refine W.load (b:=x1) (v:=p.2.2.2.2.1) ?_
 refine Y8 fun x3=>?_
 refine A0u ?_
 refine A4u (eKd .i64) 1 ?_
 refine W.cells (b:=x3) (X4 .i64 (pkT (l6 11 (p.2.2.2.2.1) 0) ⟨none,0,0⟩ ⟨none,0,0⟩)).toArray ?_
 refine Y7 (X7 (enc:=A0p) (size:=1) (s:=A4A p) (xs:=fl)) fun hl=>?_
 refine W.loop (γ:=Nat×List Ent×List Int×Slc) (fun g s=>s.1=(g.1:Int)∧g.1≤fl.length∧g.2.1.length≤T.b.aH.length∧(A0Z x.aG (fl.drop g.1) g.2.1).1=EF∧g.2.2.1++(A0Z x.aG (fl.drop g.1) g.2.1).2=CF∧g.2.2.1.length=g.1)
  (fun g s=>rbX r full (A0E nb ob ib x.aG) (W3 .i64) (A1z g.2.1 T)::V1 (eKd .i64) 1 g.2.2.2 g.2.2.1::cells x3 (X4 .i64 (pkT (l6 11 (p.2.2.2.2.1) 0) g.2.2.2 ⟨none,0,0⟩)).toArray::cells x1 (aS2 p)::V1 A0p 1 (A4A p) fl::L2)
  (fun g=>fl.length-g.1) (0,T.b.aH,[],⟨none,0,0⟩) ⟨rfl,C9 _,D9 _,jD.symm,jn.symm,rfl⟩ ?_ ?_
 ·show Sub _ (rbX r full (A0E nb ob ib x.aG) (W3 .i64) T::V1 (eKd .i64) 1 ⟨none,0,0⟩ ([]:List Int)::cells x3 (X4 .i64 (pkT (l6 11 (p.2.2.2.2.1) 0) ⟨none,0,0⟩ ⟨none,0,0⟩)).toArray::cells x1 (aS2 p)::V1 A0p 1 (A4A p) fl::L2)
  repeat(first|with_reducible exact U3|with_reducible exact U4|refine U5 (by repeat first|with_reducible exact V5|apply V7) ?_|refine U6 ?_)
 rintro⟨i,E,cs,cS⟩ s ⟨hi,cF,lL,cI,cJ,bg⟩ K k1 k2
 simp only at hi cF lL cI cJ bg
 refine W.load (b:=x1) (v:=A4A p) ?_
 by_cases ah:i<fl.length
 ·refine Y5 (by rw[hi,hl];exact decide_eq_true (by omega)) ?_
  have bG:fl.drop i=fl[i]::fl.drop (i+1):=E0 ah
  have aP:fl[i]? =some fl[i]:=B0 ah
  rw[bG] at cI cJ
  generalize fl[i]=u at aP cI cJ
  clear bG
  unfold A0Z at cI cJ
  simp only at cI cJ
  have bl:=ag.aH
  refine W9 ?_
  refine A1F (g:=fun q R=>B11 r full (A0E nb ob ib x.aG) (W3 .i64) (A1z E T) q R) (fun h R=>A0F.1) fun q=>?_
  refine j0 (b:=r) (i:=1) (v:=some ⟨q.sb,0,none⟩) ?_
  refine W9 ?_
  refine C30 ?_
  refine W.load (b:=x1) (v:=A4A p) ?_
  refine b9 (enc:=A0p) (xs:=fl) (i:=i) ah (fun a ha=>?_) (he:=hi)
  refine A9y (x:=u) (v:=u) ha aP ?_
  refine j2 (C2d (b:=q.sb) (E:=E) (id:=x.aG) (f:=u) (by omega) (At.un ?_))
  refine W.dY (X:=A0E nb ob ib x.aG) (O:=W3 .i64) (A1z (A1S E x.aG u) T) q ?_
  refine A1j (fun a=>a.1=if(A1S E x.aG u).length<E.length then 0 else 17) (fun K2 aQ=>A0s (fun e=>U9 (aQ _ (if_pos (by simpa using e)).symm)) (fun e=>U9 (aQ _ (if_neg (by simpa using e)).symm))) (fun a iK=>?_)
  refine W.load (b:=x3) (v:=cS) ?_
  refine C1H (enc:=eKd .i64) (xs:=cs) (s:=cS) a.1 (fun s'=>?_) (by omega)
  refine W.store (cs':=(X4 .i64 (pkT (l6 11 (p.2.2.2.2.1) 0) s' ⟨none,0,0⟩)).toArray) ?_
  have oC:(A1S E x.aG u).length≤T.b.aH.length:=C4 C1m lL
  have f1:IntKind.wrap .i64 (s.1+1)=((i+1:Nat):Int):=by rw[hi,W6 (by omega) (by omega)];rfl
  have f2:(cs++[a.1])++(A0Z x.aG (fl.drop (i+1)) (A1S E x.aG u)).2=CF:=by rw[iK,D7];exact cJ
  have hn:=k1 (i+1,A1S E x.aG u,cs++[a.1],s') (IntKind.wrap .i64 (s.1+1),()) (by simp only;omega) ⟨f1,ah,oC,cI,f2,by simp[bg]⟩
  exact U9 hn.sub
 ·refine X1 (by rw[hi,hl];exact decide_eq_false (by omega)) (U9 (k2 _ _ ?_))
  have ff:i=fl.length:=by omega
  subst ff
  rw[K9] at cI cJ
  simp only[A0Z,C1] at cI cJ
  subst cI cJ
  refine u7 (b:=x3) (v:=pkT (A03 11 (p.2.2.2.2.1) cs) cS ⟨none,0,0⟩) ?_
  refine A4u X6 4 ?_
  refine W.dB (A:=pkB .i64 (cS,⟨none,0,0⟩,A03 11 (p.2.2.2.2.1) cs)) (B:=V1 (eKd .i64) 1 cS cs) (C:=V1 X6 4 ⟨none,0,0⟩ ([]:List r8)) (fun h hs=>A4Q.2 hs) ?_
  refine Z9 (B48 (X:=A0E nb ob ib x.aG) (O:=W3 .i64) (T:=A1z E T) (c:=x.c) (o:=A03 11 (p.2.2.2.2.1) cs) (ci:=cS) (pi:=⟨none,0,0⟩) A4f (by show T.outs.length≤_;omega) (At.bD ?_))
  refine B93 (A:=rbX r full (A0E nb ob ib x.aG) (W3 .i64) (A0N ⟨x.c,A03 11 (p.2.2.2.2.1) cs,false⟩ (A1z E T))) (B:=rbA r full (W3 .i64) (A0N ⟨x.c,A03 11 (p.2.2.2.2.1) cs,false⟩ (A1z E T))) (fun h R hs=>A65 h R hs) ?_
  exact U9 hq.sub
end
section
open Go.H Go.Proofs
variable {h h0:Heap} {L L' L1 L2 L3 L4 R:List Asn} {Q:Value→Heap→Prop}
theorem C6S{E:List Ent}{id q:Int}{f:B4p}(h:(A2P E id f q).1≠0):128≤(A2P E id f q).1:=by
 revert h
 unfold A2P
 split
 ·intro _;show(128:Int)≤_;omega
 ·split
  ·intro _;show(128:Int)≤_;omega
  ·split
   ·intro h;exact absurd rfl h
   ·split
    ·intro _;show(128:Int)≤_;omega
    ·intro h;exact absurd rfl h
theorem A56{id:Int}{f:b7→b7×List PkO}{T:V6}:(A01 id f T).b.aB=T.b.aB:=by
 unfold A01;split<;>rfl
theorem B0y{id:Int}(T:V6)(s:A0L):(l0 id T s).b.aB=T.b.aB:=by
 unfold l0
 split
 ·rfl
 ·have:∀(l:List l7) (T:V6),(l.foldl (A0X id s) T).b.aB=T.b.aB:=by
   intro l
   induction l with
   |nil=>intro T;rfl
   |cons m l ih=>intro T;exact(ih _).trans A56
  exact this _ T
theorem C5P{r i:Nat}{full:Bool}{X:B46}{c p:Slc}{pk:PkO}{T:V6}:∀h,sat h (rbX r full X (A9b i c p pk) T::pkB .i64 (c,p,pk)::R)→sat h (rbX r full X (W3 .i64) T::R):=fun h hs=>by
 obtain⟨q,h1⟩:=A0F.1 hs
 exact A0F.2 ⟨q,(C2j h (h1.re [1,7,0,2,3,4,5,6])).re [1,0,2,3,4,5,6]⟩
theorem B9a{r nb ob ib:Nat}{full:Bool}{T:V6}{x:Z7}{p:Pk}{pl:List r8}{sl:List A0L}{fl:List B4p}(ag:l8 T.b)(hz:Szs T.b)(hc:A1I x.c T.b.aB=some x)(hb:T.outs.length≤10000000)(hE:T.b.aH.length+sl.length≤10000)(hn:sl.length≤100)
  (hsz:∀s∈sl,s.1.size≤9223372036854775800)
  (hq:At (rbA r full (W3 .i64) (A1u x (pkI p pl sl fl) T)::L2) (Q (.tuple #[])))(hx:Has L (rbX r full (A0E nb ob ib x.aG) (W3 .i64) T) L1:=by repeat first|with_reducible exact V5|apply V7)(hy:Has L1 (V1 Y6 5 (A0P p) sl) L2:=by repeat first|with_reducible exact V5|apply V7):
  FW prog 144 #[at0 r,.int .i64 x.c,at0 nb,A2B .i64 p] L Q:=by
 refine fun h hs=>A8M (some ⟨r,0,none⟩) x.c (some ⟨nb,0,none⟩) p h Q ((?_:W (rbX r full (A0E nb ob ib x.aG) (W3 .i64) T::V1 Y6 5 (A0P p) sl::L2) _ _) h ((hx.then hy).s hs))
 clear hs h hx hy
 obtain⟨sx,rQ,iA⟩:=ag.cl x (A1V hc).1
 unfold A1u at hq
 simp only at hq
 obtain⟨EF,jD⟩:∃EF,EF=(l9 x.aG sl T.b.aH).1:=⟨_,rfl⟩
 obtain⟨CF,jn⟩:∃CF,CF=(l9 x.aG sl T.b.aH).2:=⟨_,rfl⟩
 rw[←jD,←jn] at hq
 delta A8w az bn cc ci cx g2 g6 ie ix jc ji jt ki kp kt li nn nw pu sn sw ve vi vs vz wi
 refine Y8 fun x1=>?_
 refine W.load (b:=x1) (v:=p.2.2.2.2.1) ?_
 refine Y8 fun x3=>?_
 refine A0u ?_
 refine A4u (eKd .i64) 1 ?_
 refine W.cells (b:=x3) (X4 .i64 (pkT (l6 9 (p.2.2.2.2.1) 0) ⟨none,0,0⟩ ⟨none,0,0⟩)).toArray ?_
 refine Y7 (X7 (enc:=Y6) (size:=5) (s:=A0P p) (xs:=sl)) fun hl=>?_
 refine W.loop (γ:=Nat×List Ent×List Int×Slc) (fun g s=>s.1=(g.1:Int)∧g.1≤sl.length∧l8 (B4B g.2.1 T.b)∧g.2.1.length≤T.b.aH.length+g.1∧(l9 x.aG (sl.drop g.1) g.2.1).1=EF∧g.2.2.1++(l9 x.aG (sl.drop g.1) g.2.1).2=CF∧g.2.2.1.length=g.1)
  (fun g s=>rbX r full (A0E nb ob ib x.aG) (W3 .i64) (A1z g.2.1 T)::V1 (eKd .i64) 1 g.2.2.2 g.2.2.1::cells x3 (X4 .i64 (pkT (l6 9 (p.2.2.2.2.1) 0) g.2.2.2 ⟨none,0,0⟩)).toArray::cells x1 (aS2 p)::V1 Y6 5 (A0P p) sl::L2)
  (fun g=>sl.length-g.1) (0,T.b.aH,[],⟨none,0,0⟩) ⟨rfl,C9 _,ag,D9 _,jD.symm,jn.symm,rfl⟩ ?_ ?_
 ·show Sub _ (rbX r full (A0E nb ob ib x.aG) (W3 .i64) T::V1 (eKd .i64) 1 ⟨none,0,0⟩ ([]:List Int)::cells x3 (X4 .i64 (pkT (l6 9 (p.2.2.2.2.1) 0) ⟨none,0,0⟩ ⟨none,0,0⟩)).toArray::cells x1 (aS2 p)::V1 Y6 5 (A0P p) sl::L2)
  repeat(first|with_reducible exact U3|with_reducible exact U4|refine U5 (by repeat first|with_reducible exact V5|apply V7) ?_|refine U6 ?_)
 rintro⟨i,E,cs,cS⟩ s ⟨hi,cF,iv,lL,cI,cJ,bg⟩ K k1 k2
 simp only at hi cF iv lL cI cJ bg
 refine W.load (b:=x1) (v:=A0P p) ?_
 by_cases ah:i<sl.length
 ·refine Y5 (by rw[hi,hl];exact decide_eq_true (by omega)) ?_
  have bG:sl.drop i=sl[i]::sl.drop (i+1):=E0 ah
  have aP:sl[i]? =some sl[i]:=B0 ah
  have an:sl[i]∈sl:=H6 ah
  rw[bG] at cI cJ
  generalize sl[i]=u at aP an cI cJ
  clear bG
  unfold l9 at cI cJ
  simp only at cI cJ
  refine W.load (b:=x1) (v:=A0P p) ?_
  refine b9 (enc:=Y6) (xs:=sl) (i:=i) ah (fun a ha=>?_) (he:=hi)
  refine B2S (x:=u) (v:=sbU u) ha aP ?_
  refine Y8 fun lR=>?_
  refine A0u ?_
  refine W9 ?_
  refine A1F (g:=fun q R=>B11 r full (A0E nb ob ib x.aG) (W3 .i64) (A1z E T) q R) (fun h R=>A0F.1) fun q=>?_
  refine j0 (b:=r) (i:=1) (v:=some ⟨q.sb,0,none⟩) ?_
  refine W9 ?_
  refine C30 ?_
  refine W.load (b:=lR) (v:=u.1) ?_
  refine W.load (b:=lR) (v:=u.2.1) ?_
  have hm:=B7f (E:=E) (id:=x.aG) (f:=u.1) (q:=u.2.1)
  refine j2 (C7p (t:=q.sb) (E:=E) (id:=x.aG) (q:=u.2.1) (f:=u.1) (hsz u an) (by omega) (At.un ?_))
  generalize A2P E x.aG u.1 u.2.1=rr at hm cI cJ⊢
  refine W.dY (X:=A0E nb ob ib x.aG) (O:=W3 .i64) (A1z rr.2 T) q ?_
  refine A1j (fun a=>a.1=if rr.1=0 then u.2.1 else rr.1) (fun K2 aQ=>?_) (fun a iK=>?_)
  ·refine A0s (fun e=>?_) (fun e=>U9 (aQ _ (if_neg (by simpa using e)).symm))
   refine W.load (b:=lR) (v:=u.2.1) ?_
   exact U9 (At.sub (aQ (u.2.1,()) (if_pos (by simpa using e)).symm))
  refine W.load (b:=x3) (v:=cS) ?_
  refine C1H (enc:=eKd .i64) (xs:=cs) (s:=cS) a.1 (fun s'=>?_) (by omega)
  refine W.store (cs':=(X4 .i64 (pkT (l6 9 (p.2.2.2.2.1) 0) s' ⟨none,0,0⟩)).toArray) ?_
  have oC:rr.2.length≤T.b.aH.length+(i+1):=by have:=hm.1;omega
  have f1:IntKind.wrap .i64 (s.1+1)=((i+1:Nat):Int):=by rw[hi,W6 (by omega) (by omega)];rfl
  have f2:(cs++[a.1])++(l9 x.aG (sl.drop (i+1)) rr.2).2=CF:=by rw[iK,D7];exact cJ
  have ig:=k1 (i+1,rr.2,cs++[a.1],s') (IntKind.wrap .i64 (s.1+1),()) (by simp only;omega) ⟨f1,ah,iv.fM (by show rr.2.length≤10000;omega) fun e he=>by
     rcases hm.2 e he with he|he
     ·exact .inl he
     ·exact .inr ⟨sx,rQ,iA.trans he.symm⟩,oC,cI,f2,by simp[bg]⟩
  exact U9 ig.sub
 ·refine X1 (by rw[hi,hl];exact decide_eq_false (by omega)) (U9 (k2 _ _ ?_))
  have ff:i=sl.length:=by omega
  subst ff
  rw[K9] at cI cJ
  simp only[l9,C1] at cI cJ
  subst cI cJ
  clear k1 k2
  refine u7 (b:=x3) (v:=pkT (A03 9 (p.2.2.2.2.1) cs) cS ⟨none,0,0⟩) ?_
  refine Z9 (C5I (X:=A0E nb ob ib x.aG) (T:=A1z E T) (c:=x.c) (o:=A03 9 (p.2.2.2.2.1) cs) (ci:=cS) (pi:=⟨none,0,0⟩) (by show T.outs.length≤_;omega) (At.bD ?_))
  obtain⟨O,hO⟩:∃O,O=A9b T.outs.length cS ⟨none,0,0⟩ (A03 9 (p.2.2.2.2.1) cs):=⟨_,rfl⟩
  obtain⟨T1,bP⟩:∃T1,T1=A0N ⟨x.c,A03 9 (p.2.2.2.2.1) cs,false⟩ (A1z E T):=⟨_,rfl⟩
  have yc:A9z O:=by rw[hO];exact C8q
  have aL:l8 T1.b:=by rw[bP];exact iv
  have eo:T1.b.kept=T.b.kept:=by rw[bP]
  have uo:T1.b.aB=T.b.aB:=by rw[bP]
  have jz:T1.b.aG.map (·.id)=T.b.aG.map (·.id):=by rw[bP]
  have gg:T1.outs.length≤10000001:=by rw[bP];show(T.outs++[_]).length≤_;rw[B3];simp only[B7,G1];omega
  have hF:(added x.aG sl T.b.aH).foldl (l0 x.aG) T1=(added x.aG sl T.b.aH).foldl (l0 x.aG) (A0N ⟨x.c,A03 9 (p.2.2.2.2.1) cs,false⟩ (A1z E T)):=by rw[bP]
  show W (rbX r full (A0E nb ob ib x.aG) (A9b T.outs.length cS ⟨none,0,0⟩ (A03 9 (p.2.2.2.2.1) cs)) (A0N ⟨x.c,A03 9 (p.2.2.2.2.1) cs,false⟩ (A1z E T))::_) _ _
  rw[←bP,←hO]
  rw[←hF] at hq
  clear hF
  obtain⟨FF,wa⟩:∃FF,FF=(added x.aG sl T.b.aH).foldl (l0 x.aG) T1:=⟨_,rfl⟩
  rw[←wa] at hq
  refine W.loop (γ:=Nat×V6×List Ent) (fun g s=>s.1=(g.1:Int)∧g.1≤sl.length∧l8 g.2.1.b∧g.2.1.b.kept=T.b.kept∧g.2.1.b.aB=T.b.aB∧g.2.1.b.aG.map (·.id)=T.b.aG.map (·.id)∧(added x.aG (sl.drop g.1) g.2.2).foldl (l0 x.aG) g.2.1=FF∧g.2.1.outs.length≤10000001+20480*g.1∧cs.drop g.1=(l9 x.aG (sl.drop g.1) g.2.2).2)
   (fun g s=>rbX r full (A0E nb ob ib x.aG) O g.2.1::V1 (eKd .i64) 1 cS cs::cells x3 (X4 .i64 (pkT (l6 9 (p.2.2.2.2.1) 0) cS ⟨none,0,0⟩)).toArray::cells x1 (aS2 p)::V1 Y6 5 (A0P p) sl::L2) (fun g=>sl.length-g.1) (0,T1,T.b.aH) ⟨rfl,C9 _,aL,eo,uo,jz,wa.symm,gg,jn⟩ ?_ ?_
  ·show Sub _ (rbX r full (A0E nb ob ib x.aG) O T1::V1 (eKd .i64) 1 cS cs::cells x3 (X4 .i64 (pkT (l6 9 (p.2.2.2.2.1) 0) cS ⟨none,0,0⟩)).toArray::cells x1 (aS2 p)::V1 Y6 5 (A0P p) sl::L2)
   repeat(first|with_reducible exact U3|with_reducible exact U4|refine U5 (by repeat first|with_reducible exact V5|apply V7) ?_|refine U6 ?_)
  rintro⟨j,T2,E2⟩ s2 ⟨hj,tU,ca,gD,lH,jy,gb,dA,eD⟩ K2 m1 m2
  simp only at hj tU ca gD lH jy gb dA eD
  refine W.load (b:=x1) (v:=A0P p) ?_
  by_cases bd:j<sl.length
  ·refine Y5 (by rw[hj,hl];exact decide_eq_true (by omega)) ?_
   have bG:sl.drop j=sl[j]::sl.drop (j+1):=E0 bd
   have qK:sl[j]? =some sl[j]:=B0 bd
   have an:sl[j]∈sl:=H6 bd
   rw[bG] at gb eD
   generalize sl[j]=u at qK an gb eD
   clear bG
   have jk:=C6S (E:=E2) (id:=x.aG) (f:=u.1) (q:=u.2.1)
   have hzero:=B3R (E:=E2) (id:=x.aG) (f:=u.1) (q:=u.2.1)
   unfold added at gb
   unfold l9 at eD
   simp only at eD
   generalize A2P E2 x.aG u.1 u.2.1=rr at jk hzero gb eD
   obtain⟨pf,gG⟩:∃h:j<cs.length,cs[j]=(if rr.1=0 then u.2.1 else rr.1):=by
    have ah:j<cs.length:=by
     rcases U0 j cs.length with h|h
     ·exact h
     ·rw[List.drop_eq_nil_of_le h] at eD;cases eD
    rw[E0 ah] at eD
    injection eD with h1 h2
    exact⟨ah,h1⟩
   have lC:cs[j]? =some (if rr.1=0 then u.2.1 else rr.1):=by rw[B0 pf,gG]
   have vS:cs.drop (j+1)=(l9 x.aG (sl.drop (j+1)) rr.2).2:=by
    rw[E0 pf] at eD
    injection eD
   clear gG eD
   refine X9 (W.load (b:=x1) (v:=A0P p) ?_)
   refine X9 (b9 (enc:=Y6) (xs:=sl) (i:=j) bd (fun a ha=>?_) (he:=hj))
   refine X9 (B2S (x:=u) (v:=sbU u) ha qK ?_)
   refine X9 (Y8 fun mz=>?_)
   refine X9 (A0u ?_)
   refine X9 (A1j (fun a=>a.1=(decide (rr.1≠0)||decide (u.2.2.2.2=2))) (fun K4 dh=>?_) (fun a iK=>?_))
   ·refine W.load (b:=x3) (v:=cS) ?_
    refine b9 (enc:=eKd .i64) (xs:=cs) (i:=j) pf (fun a3 hP=>?_) (he:=hj)
    refine A9y (x:=(if rr.1=0 then u.2.1 else rr.1)) (v:=(if rr.1=0 then u.2.1 else rr.1)) hP lC ?_
    by_cases hr:rr.1=0
    ·rw[if_pos hr]
     refine X1 (decide_eq_false (by have:=(hzero hr).2;omega)) ?_
     refine W.load (b:=mz) (v:=u.2.2.2.2) ?_
     refine U9 (At.sub (dh _ ?_))
     by_cases e:u.2.2.2.2=2<;>simp[hr,e]
    ·rw[if_neg hr]
     refine Y5 (decide_eq_true (jk hr)) ?_
     refine U9 (At.sub (dh _ ?_))
     simp[hr]
   obtain⟨ab,_⟩:=a
   simp only at iK
   subst iK
   have f1:IntKind.wrap .i64 (s2.1+1)=((j+1:Nat):Int):=by rw[hj,W6 (by omega) (by omega)];rfl
   by_cases hr:rr.1=0
   ·rw[if_pos hr,G7,F0,I4] at gb
    have jw:T2.b.kept.length≤64:=by rw[gD];exact hz.k64
    have qE:=A7X (id:=x.aG) T2 u jw ca
    have aA:At (rbX r full (A0E nb ob ib x.aG) O (l0 x.aG T2 u)::V1 (eKd .i64) 1 cS cs::cells x3 (X4 .i64 (pkT (l6 9 (p.2.2.2.2.1) 0) cS ⟨none,0,0⟩)).toArray::cells x1 (aS2 p)::V1 Y6 5 (A0P p) sl::L2) (K2 (.inl (IntKind.wrap .i64 (s2.1+1),()))):=by
     refine m1 (j+1,l0 x.aG T2 u,rr.2) (IntKind.wrap .i64 (s2.1+1),()) (by simp only;omega) ⟨f1,bd,qE.ok,(A7Y T2 u).trans gD,(B0y T2 u).trans lH,(B4m T2 u).trans jy,gb,?_,vS⟩
     have:=qE.outs;simp only;omega
    clear m1 m2 gb
    by_cases h2:u.2.2.2.2=2
    ·refine A1s (by simp[h2]) ?_
     have e:l0 x.aG T2 u=T2:=if_pos h2
     rw[e] at aA
     exact j1 (U9 aA.sub)
    ·refine o8 (by simp[hr,h2]) ?_
     have e:l0 x.aG T2 u=(A6z T2.b.kept u.1).foldl (A0X x.aG u) T2:=if_neg h2
     rw[e] at aA
     refine X9 (W9 ?_)
     refine A1F (g:=fun q R=>B11 r full (A0E nb ob ib x.aG) O T2 q R) (fun h R=>A0F.1) fun q=>?_
     refine X9 (j0 (b:=r) (i:=2) (v:=some ⟨q.kb,0,none⟩) ?_)
     refine X9 (W.load (b:=mz) (v:=u.1) ?_)
     refine X9 (j2 (C8o (b:=q.kb) (K:=T2.b.kept) (f:=u.1) jw (fun m hm=>hz.kept m (gD▸hm)) (hsz u an) (fun S=>At.un (x:=S) ?_)))
     refine W.dY (X:=A0E nb ob ib x.aG) (O:=O) T2 q ?_
     have tZ:(A6z T2.b.kept u.1).length≤64:=C4 (D2 _ _) jw
     generalize A6z T2.b.kept u.1=M at tZ aA⊢
     refine Y7 (X7 (enc:=A0q) (size:=3) (s:=S) (xs:=M)) fun lz=>?_
     refine X9 (W.loop (γ:=Nat×V6) (fun g s=>s.1=(g.1:Int)∧g.1≤M.length∧l8 g.2.b∧g.2.b.aB=T.b.aB∧g.2.b.aG.map (·.id)=T.b.aG.map (·.id)∧(M.drop g.1).foldl (A0X x.aG u) g.2=M.foldl (A0X x.aG u) T2∧g.2.outs.length≤20000000+320*g.1)
      (fun g s=>rbX r full (A0E nb ob ib x.aG) O g.2::V1 A0q 3 S M::cells mz (Y6 u).toArray::V1 (eKd .i64) 1 cS cs::cells x3 (X4 .i64 (pkT (l6 9 (p.2.2.2.2.1) 0) cS ⟨none,0,0⟩)).toArray::cells x1 (aS2 p)::V1 Y6 5 (A0P p) sl::L2) (fun g=>M.length-g.1) (0,T2) ⟨rfl,C9 _,ca,lH,jy,rfl,by simp only;omega⟩ ?_ ?_)
     ·show Sub _ (rbX r full (A0E nb ob ib x.aG) O T2::V1 A0q 3 S M::cells mz (Y6 u).toArray::V1 (eKd .i64) 1 cS cs::cells x3 (X4 .i64 (pkT (l6 9 (p.2.2.2.2.1) 0) cS ⟨none,0,0⟩)).toArray::cells x1 (aS2 p)::V1 Y6 5 (A0P p) sl::L2)
      repeat(first|with_reducible exact U3|with_reducible exact U4|refine U5 (by repeat first|with_reducible exact V5|apply V7) ?_|refine U6 ?_)
     rintro⟨l,T3⟩ s3 ⟨gB,qC,dc,oq,oX,iB,oy⟩ K3 n1 n2
     simp only at gB qC dc oq oX iB oy
     by_cases cG:l<M.length
     ·refine Y5 (by rw[gB,lz];exact decide_eq_true (by omega)) ?_
      have iD:M.drop l=M[l]::M.drop (l+1):=E0 cG
      have oj:M[l]? =some M[l]:=B0 cG
      rw[iD,I4] at iB
      generalize M[l]=m at oj iB
      have qF:=B1a (id:=x.aG) (s:=u) T3 m dc
      have ej:At (rbX r full (A0E nb ob ib x.aG) O (A0X x.aG u T3 m)::V1 A0q 3 S M::cells mz (Y6 u).toArray::V1 (eKd .i64) 1 cS cs::cells x3 (X4 .i64 (pkT (l6 9 (p.2.2.2.2.1) 0) cS ⟨none,0,0⟩)).toArray::cells x1 (aS2 p)::V1 Y6 5 (A0P p) sl::L2) (K3 (.inl (IntKind.wrap .i64 (s3.1+1),()))):=by
       refine n1 (l+1,A0X x.aG u T3 m) (IntKind.wrap .i64 (s3.1+1),()) (by simp only;omega) ⟨?_,cG,qF.ok,A56.trans oq,A9E.trans oX,iB,?_⟩
       ·simp only[gB];rw[W6 (by omega) (by omega)];rfl
       ·have:=qF.outs;simp only;omega
      clear n1 n2 iB
      have e9:∀s4∈T3.b.aG,s4.id=x.aG→A0X x.aG u T3 m=u0 x.aG (Z1 s4.out (m.1,m.2.1,min m.2.2.1 u.2.1,true,e0S)).1.2 (A0S (Y4 x.aG (Y9 (Z1 s4.out (m.1,m.2.1,min m.2.2.1 u.2.1,true,e0S)).1.1) T3.b.aG) T3):=fun s4 ak hid=>by
       unfold A0X A01
       rw[A3u dc.nd ak hid]
      refine b9 (enc:=A0q) (xs:=M) (i:=l) cG (fun a3 hP=>?_) (he:=gB)
      refine A3d (k:=2) (x:=m) (v:=m.2.2.1) hP oj ?_
      refine W.load (b:=mz) (v:=u.2.1) ?_
      refine j2 (C3u (a:=m.2.2.1) (b:=u.2.1) (At.un ?_))
      refine W9 ?_
      refine A1F (g:=fun q R=>B11 r full (A0E nb ob ib x.aG) O T3 q R) (fun h R=>A0F.1) fun q2=>?_
      refine C1I (fun h R hs=>(A5k (b:=q2.tb) (last:=T3.b.last) (A:=T3.b.aG)).1 hs) fun s4 ak=>?_
      rw[e9 s4 ak.1 ak.2] at ej
      have dj:=A4c (dc.bM s4 ak.1) (m.1,m.2.1,min m.2.2.1 u.2.1,true,e0S)
      refine W.load (b:=nb) (v:=some ⟨ob,0,none⟩) ?_
      refine b9 (enc:=A0q) (xs:=M) (i:=l) cG (fun a4 ph=>?_) (he:=gB)
      refine A3d (k:=0) (x:=m) (v:=m.1) ph oj ?_
      refine b9 (enc:=A0q) (xs:=M) (i:=l) cG (fun a5 ry=>?_) (he:=gB)
      refine A3d (k:=1) (x:=m) (v:=m.2.1) ry oj ?_
      refine Z9 (C0n (b:=ob) (o:=s4.out) (m:=(m.1,m.2.1,min m.2.2.1 u.2.1,true,e0S)) (dc.bM s4 ak.1) (fun S2=>At.bD (x:=(S2,(Z1 s4.out (m.1,m.2.1,min m.2.2.1 u.2.1,true,e0S)).2,())) ?_))
      refine A8T (A:=A0E nb ob ib x.aG q2.tb T3.b.last (Y4 x.aG (Y9 (Z1 s4.out (m.1,m.2.1,min m.2.2.1 u.2.1,true,e0S)).1.1) T3.b.aG)) (B:=cells nb (rqC s4 ob ib)) (C:=a7 ob (Z1 s4.out (m.1,m.2.1,min m.2.2.1 u.2.1,true,e0S)).1.1) (D:=A05 ib s4.bA) (E:=A2K q2.tb T3.b.last T3.b.aG s4 nb) (fun h hs=>B0T (f:=Y9 (Z1 s4.out (m.1,m.2.1,min m.2.2.1 u.2.1,true,e0S)).1.1) ak.1 ak.2 dc.nd rfl rfl h hs) ?_
      refine W9 ?_
      refine C30 ?_
      refine W.dY (X:=A0E nb ob ib x.aG) (O:=O) (A0S (Y4 x.aG (Y9 (Z1 s4.out (m.1,m.2.1,min m.2.2.1 u.2.1,true,e0S)).1.1) T3.b.aG) T3) q2 ?_
      refine Z9 (A5l (X:=A0E nb ob ib x.aG) (O:=O) (T:=A0S (Y4 x.aG (Y9 (Z1 s4.out (m.1,m.2.1,min m.2.2.1 u.2.1,true,e0S)).1.1) T3.b.aG) T3) (id:=x.aG) (ps:=(Z1 s4.out (m.1,m.2.1,min m.2.2.1 u.2.1,true,e0S)).1.2) yc (dc.one x.aG) (by have:=dj.2;show T3.outs.length+_≤_;omega) (by show T3.b.aB.length≤_;rw[oq];exact hz.aB) (At.bD ?_))
      exact U9 ej.sub
     ·refine X1 (by rw[gB,lz];exact decide_eq_false (by omega)) (U9 (n2 _ _ (j1 (U9 ?_))))
      have hle:l=M.length:=by omega
      subst hle
      rw[K9,Q6] at iB
      rw[←iB] at aA
      exact aA.sub
   ·rw[if_neg hr,F0] at gb
    have aA:=m1 (j+1,T2,rr.2) (IntKind.wrap .i64 (s2.1+1),()) (by simp only;omega) ⟨f1,bd,ca,gD,lH,jy,gb,by simp only;omega,vS⟩
    refine A1s (by simp[hr]) ?_
    exact j1 (U9 aA.sub)
  ·refine X1 (by rw[hj,hl];exact decide_eq_false (by omega)) (U9 (m2 _ _ ?_))
   have oW:j=sl.length:=by omega
   subst oW
   rw[K9] at gb
   simp only[added,Q6] at gb
   rw[←gb] at hq
   subst hO
   refine A4u X6 4 ?_
   refine W.dB (A:=pkB .i64 (cS,⟨none,0,0⟩,A03 9 (p.2.2.2.2.1) cs)) (B:=V1 (eKd .i64) 1 cS cs) (C:=V1 X6 4 ⟨none,0,0⟩ ([]:List r8)) (fun h hs=>A4Q.2 hs) ?_
   refine W.dB (A:=rbX r full (A0E nb ob ib x.aG) (W3 .i64) T2) (B:=rbX r full (A0E nb ob ib x.aG) (A9b T.outs.length cS ⟨none,0,0⟩ (A03 9 (p.2.2.2.2.1) cs)) T2) (C:=pkB .i64 (cS,⟨none,0,0⟩,A03 9 (p.2.2.2.2.1) cs)) (fun h hs=>C5P h hs) ?_
   refine B93 (A:=rbX r full (A0E nb ob ib x.aG) (W3 .i64) T2) (B:=rbA r full (W3 .i64) T2) (fun h R hs=>A65 h R hs) ?_
   exact U9 hq.sub
end
section
open Go.H Go.Proofs
variable {h h0:Heap} {L L' L1 L2 L3 L4 R:List Asn} {Q:Value→Heap→Prop}
structure C6Z(p:Pk)(pl:List r8)(sl:List A0L)(fl:List B4p):Prop where
 cD:p.2.2.2.2.2.1.size≤9223372036854775800
 aD:(p.2.2.2.2.2.2.2.2.2.2.1).size≤9223372036854775800
 aX:(p.2.2.2.2.2.2.2.2.2.2.2.2.2.2.1).size≤9223372036854775800
 props:pl.length≤100
 aH:sl.length≤100
 sub:∀s∈sl,s.1.size≤9223372036854775800
 eU:fl.length≤100
theorem C8l{r n nb ob ib:Nat}{full:Bool}{T:V6}{x:Z7}{p:Pk}{pl:List r8}{sl:List A0L}{fl:List B4p}(ag:Y1 T.b n)(hz:Szs T.b)(ef:∀s∈T.b.aG,s.bA.ok)(hc:A1I x.c T.b.aB=some x)(hb:T.outs.length≤10000000)(hp:T.aT.length≤100000000)(dF:C6Z p pl sl fl)
  (hq:At (rbA r full (W3 .i64) (B06 full x (pkI p pl sl fl) T)::L3) (Q (.tuple #[])))(hx:Has L (rbX r full (A0E nb ob ib x.aG) (W3 .i64) T) L1:=by repeat first|with_reducible exact V5|apply V7)(hy:Has L1 (V1 Y6 5 (A0P p) sl) L2:=by repeat first|with_reducible exact V5|apply V7)(hw:Has L2 (V1 A0p 1 (A4A p) fl) L3:=by repeat first|with_reducible exact V5|apply V7):
  FW prog 91 #[at0 r,.int .i64 x.c,at0 nb,A2B .i64 p] L Q:=by
 refine fun h hs=>B4G (some ⟨r,0,none⟩) x.c (some ⟨nb,0,none⟩) p h Q ((?_:W (rbX r full (A0E nb ob ib x.aG) (W3 .i64) T::V1 Y6 5 (A0P p) sl::V1 A0p 1 (A4A p) fl::L3) _ _) h ((hx.cQ hy hw).s hs))
 clear hs h hx hy hw
 have wg:=ag.s2k
 obtain⟨T9,aK⟩:∃T9,T9=B06 full x (pkI p pl sl fl) T:=⟨_,rfl⟩
 rw[←aK] at hq
 unfold B06 at aK
 dsimp only at aK
 delta B72 az bn cx g2 ie jc ji ki kp nn nw pu ve vi vs vz
 refine Y8 fun x1=>?_
 refine Y7 (X7 (enc:=Y6) (size:=5) (s:=A0P p) (xs:=sl)) fun cA=>?_
 refine Y7 (X7 (enc:=A0p) (size:=1) (s:=A4A p) (xs:=fl)) fun bZ=>?_
 refine A1j (fun r=>r.1=decide (1≤p.2.2.2.2.1∧p.2.2.2.2.1≤65535)) (fun K hK=>?_) (fun rn gz=>?_)
 ·refine W.load (b:=x1) (v:=p.2.2.2.2.1) ?_
  refine A0s (fun h1=>?_) (fun h1=>?_)
  ·refine W.load (b:=x1) (v:=p.2.2.2.2.1) ?_
   refine U9 (hK _ ?_)
   simp only[decide_eq_true_eq] at h1
   simp[h1]
  ·refine U9 (hK _ ?_)
   simp only[decide_eq_false_iff_not] at h1
   simp[h1]
 refine W.load (b:=x1) (v:=p.1) ?_
 refine A1j (fun r=>r.1=decide (p.1=3∨p.1=6)) (fun K hK=>?_) (fun r1 fb=>?_)
 ·refine A0s (fun g0=>U9 (hK _ ?_)) (fun g0=>U9 (hK _ ?_))
  ·simp only[Q0] at g0;simp[g0]
  simp only[H9,ne_eq] at g0
  by_cases e:p.1=6
  ·simp[e]
  ·simp[e,g0]
 by_cases hk:p.1=3∨p.1=6
 ·rw[if_pos hk] at aK
  subst aK
  refine Y5 (by rw[fb];exact decide_eq_true hk) ?_
  refine u7 (b:=x1) (v:=p) ?_
  refine Z9 (C7j (O:=W3 .i64) (T:=T) (x:=x) (p:=p) (pl:=pl) (sl:=sl) (fl:=fl) A4f ag.tol8 hz ef hc (by omega) (by omega) dF.cD (At.bD ?_))
  exact U9 hq.sub
 rw[if_neg hk] at aK
 refine X1 (by rw[fb];exact decide_eq_false hk) ?_
 clear fb hk
 refine A1j (fun r=>r.1=decide (p.1=4∨p.1=5∨p.1=7)) (fun K hK=>?_) (fun r2 cL=>?_)
 ·refine A0s (fun g0=>U9 (hK _ ?_)) (fun g0=>?_)
  ·simp only[Q0] at g0;simp[g0]
  refine C87 (fun g1=>j1 (U9 (hK _ ?_))) (fun g1=>j1 (U9 (hK _ ?_)))
  ·simp only[Q0] at g1;simp[g1]
  simp only[H9,ne_eq] at g0;simp only[H9,ne_eq] at g1
  by_cases e:p.1=7
  ·simp[e]
  ·simp[e,g0,g1]
 by_cases hk:p.1=4∨p.1=5∨p.1=7
 ·rw[if_pos hk] at aK
  refine Y5 (by rw[cL];exact decide_eq_true hk) ?_
  unfold A37 A01 at aK
  refine W9 ?_
  refine A1F (g:=fun q R=>B11 r full (A0E nb ob ib x.aG) (W3 .i64) T q R) (fun h R=>A0F.1) fun q=>?_
  refine C1I (fun h R hs=>(A5k (b:=q.tb) (last:=T.b.last) (A:=T.b.aG)).1 hs) fun s hs=>?_
  obtain⟨hs,hid⟩:=hs
  simp only[A3u ag.nd hs hid] at aK
  have dj:=B5g (ag.bM s hs) p.1 p.2.2.2.2.1 p.2.2.2.2.2.2.2.1
  have qO:=C1E (o:=s.out) (k:=p.1) (id:=p.2.2.2.2.1) (c:=p.2.2.2.2.2.2.2.1)
  refine W.load (b:=nb) (v:=some ⟨ob,0,none⟩) ?_
  refine u7 (b:=x1) (v:=p) ?_
  refine Z9 (C7k (b:=ob) (o:=s.out) (p:=p) (ag.bM s hs) (fun S=>At.bD (x:=(S,(A09 s.out p.1 p.2.2.2.2.1 p.2.2.2.2.2.2.2.1).2,())) ?_))
  generalize A09 s.out p.1 p.2.2.2.2.1 p.2.2.2.2.2.2.2.1=rr at aK dj qO⊢
  by_cases av:rr.2=0
  ·rw[if_neg (by simpa using av)] at aK
   refine X1 (by simp[av]) ?_
   refine A8T (A:=A0E nb ob ib x.aG q.tb T.b.last (Y4 x.aG (Y9 rr.1.1) T.b.aG)) (B:=cells nb (rqC s ob ib)) (C:=a7 ob rr.1.1) (D:=A05 ib s.bA) (E:=A2K q.tb T.b.last T.b.aG s nb) (fun h ae=>B0T (f:=Y9 rr.1.1) hs hid ag.nd rfl rfl h ae) ?_
   refine W9 ?_
   refine C30 ?_
   refine W.dY (X:=A0E nb ob ib x.aG) (O:=W3 .i64) (A0S (Y4 x.aG (Y9 rr.1.1) T.b.aG) T) q ?_
   refine Z9 (A5l (X:=A0E nb ob ib x.aG) (O:=W3 .i64) (T:=A0S (Y4 x.aG (Y9 rr.1.1) T.b.aG) T) (id:=x.aG) (ps:=rr.1.2) A4f (ag.one x.aG) (by have:=dj.2;simp only;omega) hz.aB (At.bD ?_))
   subst aK
   refine B93 (A:=rbX r full (A0E nb ob ib x.aG) (W3 .i64) (u0 x.aG rr.1.2 (A0S (Y4 x.aG (Y9 rr.1.1) T.b.aG) T))) (B:=rbA r full (W3 .i64) (u0 x.aG rr.1.2 (A0S (Y4 x.aG (Y9 rr.1.1) T.b.aG) T))) (fun h R hs=>A65 h R hs) ?_
   exact U9 hq.sub
  ·rw[if_pos (by simpa using av)] at aK
   refine Y5 (by simp[av]) ?_
   rw[qO av]
   refine A8T (A:=A0x q.tb T.b.last T.b.aG) (B:=cells nb (rqC s ob ib)) (C:=a7 ob s.out) (D:=A05 ib s.bA) (E:=A2K q.tb T.b.last T.b.aG s nb) (fun h ae=>A5i h ae) ?_
   refine W.rb (O:=W3 .i64) T q ?_
   refine Z9 (A3P (O:=W3 .i64) (T:=T) (c:=x.c) (code:=rr.2) A4f ag.tol8 hz (by omega) (by omega) (At.bD ?_))
   subst aK
   exact U9 hq.sub
 rw[if_neg hk] at aK
 refine X1 (by rw[cL];exact decide_eq_false hk) ?_
 clear cL hk
 have tx:∀h R,sat h (rbX r full (A0E nb ob ib x.aG) (W3 .i64) T::R)→sat h (rbA r full (W3 .i64) T::R):=fun h R hs=>A65 h R hs
 by_cases h8:p.1=8
 ·refine A1s (by simpa using h8) ?_
  refine X9 (A1j (fun r=>r.1=decide (1≤p.2.2.2.2.1∧p.2.2.2.2.1≤65535∧sl≠[])) (fun K hK=>?_) (fun r3 lq=>?_))
  ·refine A0s (fun g1=>?_) (fun g1=>U9 (hK _ ?_))
   ·rw[gz] at g1
    refine W.load (b:=x1) (v:=A0P p) ?_
    refine U9 (hK _ ?_)
    have g1:=of_decide_eq_true g1
    cases sl with
    |nil=>simp[cA]
    |cons a l=>simp[cA,g1]
   ·rw[gz] at g1
    have g1:=of_decide_eq_false g1
    exact(decide_eq_false fun e=>g1 ⟨e.1,e.2.1⟩).symm
  by_cases hk:1≤p.2.2.2.2.1∧p.2.2.2.2.1≤65535∧sl≠[]
  ·rw[if_pos ⟨h8,hk⟩] at aK
   subst aK
   refine A1s (by rw[lq];exact decide_eq_true hk) ?_
   refine X9 (u7 (b:=x1) (v:=p) ?_)
   refine X9 (Z9 (B9a (T:=T) (x:=x) (p:=p) (pl:=pl) (sl:=sl) (fl:=fl) ag.tol8 hz hc hb (by have:=dF.aH;omega) dF.aH dF.sub (At.bD ?_)))
   exact j1 (W.inr (U9 hq.sub))
  ·rw[if_neg (fun e=>hk e.2),if_neg (by omega),if_neg (by omega),if_neg (by omega)] at aK
   subst aK
   refine o8 (by rw[lq];exact decide_eq_false hk) ?_
   refine j1 (W.inl ?_)
   refine B93 tx ?_
   refine Z9 (A3P (O:=W3 .i64) (T:=T) (c:=x.c) (code:=130) A4f ag.tol8 hz (by omega) (by omega) (At.bD ?_))
   exact U9 hq.sub
 rw[if_neg (fun e=>h8 e.1)] at aK
 refine o8 (by simpa using h8) ?_
 refine X9 ?_
 by_cases gm:p.1=10
 ·refine A1s (by simpa using gm) ?_
  refine X9 (A1j (fun r=>r.1=decide (1≤p.2.2.2.2.1∧p.2.2.2.2.1≤65535∧fl≠[])) (fun K hK=>?_) (fun r3 lq=>?_))
  ·refine A0s (fun g1=>?_) (fun g1=>U9 (hK _ ?_))
   ·rw[gz] at g1
    refine W.load (b:=x1) (v:=A4A p) ?_
    refine U9 (hK _ ?_)
    have g1:=of_decide_eq_true g1
    cases fl with
    |nil=>simp[bZ]
    |cons a l=>simp[bZ,g1]
   ·rw[gz] at g1
    have g1:=of_decide_eq_false g1
    exact(decide_eq_false fun e=>g1 ⟨e.1,e.2.1⟩).symm
  by_cases hk:1≤p.2.2.2.2.1∧p.2.2.2.2.1≤65535∧fl≠[]
  ·rw[if_pos ⟨gm,hk⟩] at aK
   subst aK
   refine A1s (by rw[lq];exact decide_eq_true hk) ?_
   refine X9 (u7 (b:=x1) (v:=p) ?_)
   refine X9 (Z9 (B5t (T:=T) (x:=x) (p:=p) (pl:=pl) (sl:=sl) (fl:=fl) ag.tol8 hb dF.eU (At.bD ?_)))
   exact j1 (j1 (W.inr (U9 hq.sub)))
  ·rw[if_neg (fun e=>hk e.2),if_neg (by omega),if_neg (by omega)] at aK
   subst aK
   refine o8 (by rw[lq];exact decide_eq_false hk) ?_
   refine j1 (j1 (W.inl ?_))
   refine B93 tx ?_
   refine Z9 (A3P (O:=W3 .i64) (T:=T) (c:=x.c) (code:=130) A4f ag.tol8 hz (by omega) (by omega) (At.bD ?_))
   exact U9 hq.sub
 rw[if_neg (fun e=>gm e.1)] at aK
 refine o8 (by simpa using gm) ?_
 refine B93 tx ?_
 by_cases sd:p.1=12
 ·rw[if_pos sd] at aK
  subst aK
  refine A1s (by simpa using sd) ?_
  refine B7N (k:=.i64) (l6 13 0 0) rfl rfl ?_
  refine X9 (Z9 (B48 (X:=A0x) (O:=W3 .i64) (T:=T) (c:=x.c) (o:=l6 13 0 0) (ci:=⟨none,0,0⟩) (pi:=⟨none,0,0⟩) A4f (by omega) (At.bD ?_)))
  exact j1 (j1 (W.inr (U9 hq.sub)))
 rw[if_neg sd] at aK
 refine o8 (by simpa using sd) ?_
 by_cases rZ:p.1=14
 ·rw[if_pos rZ] at aK
  subst aK
  refine A1s (by simpa using rZ) ?_
  refine X9 (W.load (b:=x1) (v:=p.2.2.2.2.2.2.2.1) ?_)
  have e:(p.2.2.2.2.2.2.2.1==4)=decide (p.2.2.2.2.2.2.2.1=4):=rfl
  refine X9 (Z9 (B9j (O:=W3 .i64) (T:=T) (c:=x.c) (aX:=p.2.2.2.2.2.2.2.1==4) A4f ag.tol8 hz (by omega) (by omega) (At.bD ?_)))
  rw[e]
  exact j1 (j1 (W.inr (U9 hq.sub)))
 rw[if_neg rZ] at aK
 subst aK
 refine o8 (by simpa using rZ) ?_
 refine j1 (j1 (W.inl ?_))
 refine Z9 (A3P (O:=W3 .i64) (T:=T) (c:=x.c) (code:=130) A4f ag.tol8 hz (by omega) (by omega) (At.bD ?_))
 exact U9 hq.sub
end
section
open Go.H Go.Proofs
variable {h h0:Heap} {L L' L1 L2 L3 L4 R:List Asn} {Q:Value→Heap→Prop}
theorem C3t{b:Nat}:∀h,sat h (cells b #[.int .i64 0,.slice none 0 0]::R)→sat h (A0x b 0 []::R):=fun h hs=>by
 have h1:=Z2 (enc:=eQ) (size:=1) hs
 have h2:sat h (b8 (fun p:Nat×W7=>rsA p.1 p.2) []::V1 eQ 1 ⟨none,0,0⟩ []::cells b #[.int .i64 0,.slice none 0 0]::R):=A2F.2 h1
 exact A0W.2 ⟨⟨none,0,0⟩,[],rfl,h2.re [2,1,0]⟩
theorem B5w{b:Nat}{last:Int}{A:List W7}:∀h R,sat h (A0x b last A::R)→∃(S:Slc) (M:{M:List (Nat×W7) // M.map (·.2)=A}),sat h (cells b #[.int .i64 last,.slice S.a S.len S.cap]::V1 eQ 1 S (M.1.map (·.1))::b8 (fun p=>rsA p.1 p.2) M.1::R):=fun h R hs=>by
 obtain⟨S,M,hM,h1⟩:=A0W.1 hs
 exact⟨S,⟨M,hM⟩,h1⟩
theorem C4q{r n:Nat}{full:Bool}{T:V6}{p:Pk}{pl:List r8}{sl:List A0L}{fl:List B4p}(ag:Y1 T.b n)(hz:Szs T.b)(dF:C6Z p pl sl fl)
  (hq:At (rbA r full (W3 .i64) T::L1) (Q (.int .i64 (A6J (pkI p pl sl fl) T.b))))(hx:Has L (rbA r full (W3 .i64) T) L1:=by repeat first|with_reducible exact V5|apply V7):
  FW prog 147 #[at0 r,A2B .i64 p] L Q:=by
 refine fun h hs=>B0Z (some ⟨r,0,none⟩) p h Q ((?_:W (rbA r full (W3 .i64) T::L1) _ _) h (hx.s hs))
 clear hs h hx
 unfold A6J at hq
 dsimp only at hq
 delta B1I ad az bn ci cp ie jb jt kc kp kt nn nw pu vi vz
 refine Y8 fun x1=>?_
 refine j0 (b:=x1) (i:=14) (v:=p.2.2.2.2.2.2.2.2.2.2.2.2.2.2.1) ?_
 refine j2 (C3z dF.aX (At.un (x:=A2X (p.2.2.2.2.2.2.2.2.2.2.2.2.2.2.1)) ?_))
 refine A1j (fun r=>r.1=(p.2.2.2.2.2.2.2.2.2.2.2.2.2.1&& !a8 (p.2.2.2.2.2.2.2.2.2.2.2.2.2.2.1))) (fun K hK=>?_) (fun r0 hr=>?_)
 ·refine W.load (b:=x1) (v:=p.2.2.2.2.2.2.2.2.2.2.2.2.2.1) ?_
  refine A0s (fun h3=>?_) (fun h3=>?_)
  ·refine U9 (At.sub (hK _ ?_))
   simp only[h3,G5]
   unfold A2X
   cases a8 (p.2.2.2.2.2.2.2.2.2.2.2.2.2.2.1)<;>rfl
  ·refine U9 (hK _ ?_)
   simp[h3]
 obtain⟨r0,_⟩:=r0
 simp only at hr
 subst hr
 refine A0s (fun h1=>?_) (fun h1=>?_)
 ·rw[if_pos (by simpa using h1)] at hq
  exact U9 hq.sub
 rw[if_neg (by simpa using h1)] at hq
 refine W9 ?_
 refine A1F (g:=fun q R=>rbL r full (W3 .i64) T q R) (fun h R=>A0m.1) fun q=>?_
 refine Y7 (X7 (enc:=y7) (size:=8) (s:=q.sc) (xs:=T.b.aB)) fun hl=>?_
 refine j0 (b:=r) (i:=3) (v:=q.sc) ?_
 by_cases rX:64≤T.b.aB.length
 ·rw[if_pos rX] at hq
  refine Y5 (by rw[hl];exact decide_eq_true (by omega)) ?_
  refine W.rb (O:=W3 .i64) T q ?_
  exact U9 hq.sub
 rw[if_neg rX] at hq
 refine X1 (by rw[hl];exact decide_eq_false (by omega)) ?_
 refine Y8 fun x8=>?_
 refine C77 (A:=A0x x8 0 []) (B:=cells x8 #[.int .i64 0,.slice none 0 0]) (fun h hs=>C3t h hs) ?_
 refine W.load (b:=x1) (v:=p.2.2.2.2.2.2.2.2.2.2.1) ?_
 refine Z9 (C0A (b:=x8) (last:=0) (A:=[]) (c:=p.2.2.2.2.2.2.2.2.2.2.1) (clean:=false) (aO:=false) dF.aD (S7 _) (by decide) (by simp) (by simp) (by simp) (At.bD (x:=((A0c 0 [] (p.2.2.2.2.2.2.2.2.2.2.1) false false).1.2.1,(A0c 0 [] (p.2.2.2.2.2.2.2.2.2.2.1) false false).1.2.2,(A0c 0 [] (p.2.2.2.2.2.2.2.2.2.2.1) false false).1.1,())) ?_))
 have kG:(A0c 0 [] (p.2.2.2.2.2.2.2.2.2.2.1) false false).1.1=if i7 (p.2.2.2.2.2.2.2.2.2.2.1) then 0 else 133:=by
  unfold A0c
  by_cases hg:i7 (p.2.2.2.2.2.2.2.2.2.2.1)
  ·simp[hg,ofS]
  ·simp[hg]
 by_cases hg:i7 (p.2.2.2.2.2.2.2.2.2.2.1)
 case neg=>
  rw[if_pos hg] at hq
  refine Y5 (by rw[kG,if_neg hg];rfl) ?_
  refine W.rb (O:=W3 .i64) T q ?_
  exact U9 hq.sub
 rw[if_neg (fun e=>e hg)] at hq
 refine X1 (by rw[kG,if_pos hg];rfl) ?_
 clear kG
 refine W9 ?_
 refine j0 (b:=r) (i:=0) (v:=some ⟨q.tb,0,none⟩) ?_
 refine W.load (b:=x1) (v:=p.2.2.2.2.2.2.2.2.2.2.1) ?_
 refine j2 (B9m (b:=q.tb) (last:=T.b.last) (A:=T.b.aG) (c:=p.2.2.2.2.2.2.2.2.2.2.1) hz.aG ag.dV (fun ho=>At.un (x:=none) ?_) (fun s ho nb ob ib=>At.un (x:=some ⟨nb,0,none⟩) ?_))
 ·rw[ho] at hq
  refine A1s rfl ?_
  refine X9 (W9 ?_)
  refine X9 (j0 (b:=r) (i:=0) (v:=some ⟨q.tb,0,none⟩) ?_)
  refine X9 (W9 ?_)
  refine A7t (g:=fun S (M:{M:List (Nat×W7) // M.map (·.2)=T.b.aG}) R=>cells q.tb #[.int .i64 T.b.last,.slice S.a S.len S.cap]::V1 eQ 1 S (M.1.map (·.1))::b8 (fun p=>rsA p.1 p.2) M.1::R) (fun h R hs=>B5w h R hs) fun S M=>?_
  refine Y7 (X7 (enc:=eQ) (size:=1) (s:=S) (xs:=M.1.map (·.1))) fun en=>?_
  have tN:(M.1.map (·.1)).length=T.b.aG.length:=by have:=congrArg List.length M.2;rw[C0] at this;rw[C0];exact this
  rw[tN] at en
  refine X9 (W.load (b:=q.tb) (v:=S) ?_)
  refine B0j (A:=A0x q.tb T.b.last T.b.aG) (B:=cells q.tb #[.int .i64 T.b.last,.slice S.a S.len S.cap]) (C:=V1 eQ 1 S (M.1.map (·.1))) (D:=b8 (fun p=>rsA p.1 p.2) M.1) (fun h hs=>A0W.2 ⟨S,M.1,M.2,hs⟩) ?_
  refine W.rb (O:=W3 .i64) T q ?_
  refine j1 ?_
  by_cases eK:32≤T.b.aG.length
  ·rw[if_pos ⟨rfl,eK⟩] at hq
   refine Y5 (by rw[en];exact decide_eq_true (by omega)) ?_
   exact U9 hq.sub
  ·rw[if_neg (fun e=>eK e.2)] at hq
   refine X1 (by rw[en];exact decide_eq_false (by omega)) ?_
   exact U9 hq.sub
 ·rw[ho,if_neg (by simp)] at hq
  refine o8 rfl (j1 ?_)
  refine X1 rfl ?_
  refine A8T (A:=A0x q.tb T.b.last T.b.aG) (B:=cells nb (rqC s ob ib)) (C:=a7 ob s.out) (D:=A05 ib s.bA) (E:=A2K q.tb T.b.last T.b.aG s nb) (fun h ae=>A5i h ae) ?_
  refine W.rb (O:=W3 .i64) T q ?_
  exact U9 hq.sub
end
section
open Go.H Go.Proofs
variable {h h0:Heap} {L L' L1 L2 L3 L4 R:List Asn} {Q:Value→Heap→Prop}
theorem C7R{α β γ:Type}{m:HM γ}{f:γ→HM α}{g:α→HM β}{Q':β→Heap→Prop}(hw:W L (HM.bind (HM.bind m f) g) Q'):W L (HM.bind m fun x=>HM.bind (f x) g) Q':=hw
theorem C4I{full:Bool}{c:B4p}{T:V6}(h:l8 T.b)(cd:(T.b.aB.map (·.c)).Nodup):(A1c full c T).b.aB.length≤T.b.aB.length:=by
 unfold A1c
 split
 ·rw[(C0T h cd).2.2.2.1];exact D2 _ _
 ·exact D9 _
theorem C2b{r n:Nat}{full:Bool}{T:V6}{c:Int}{p:Pk}{pl:List r8}{sl:List A0L}{fl:List B4p}(ag:Y1 T.b n)(hn:n≤1000000)(hz:Szs T.b)(iy:A1I c T.b.aB=none)(bN: -9223372036854775808≤c∧c≤9223372036854775807)(hb:T.outs.length≤10000000)(hp:T.aT.length≤100000000)(dF:C6Z p pl sl fl)
  (hq:At (rbA r full (W3 .i64) (A1T full c (pkI p pl sl fl) T)::L2) (Q (.tuple #[])))(hx:Has L (rbA r full (W3 .i64) T) L1:=by repeat first|with_reducible exact V5|apply V7)(hy:Has L1 (V1 X6 4 (A0y p) pl) L2:=by repeat first|with_reducible exact V5|apply V7):
  FW prog 92 #[at0 r,.int .i64 c,A2B .i64 p] L Q:=by
 refine fun h hs=>A93 (some ⟨r,0,none⟩) c p h Q ((?_:W (rbA r full (W3 .i64) T::V1 X6 4 (A0y p) pl::L2) _ _) h ((hx.then hy).s hs))
 clear hs h hx hy
 have cd:=hz.nd
 delta B0q ad az bn cc ci cp cx g2 g7 ie ix jb jc ji jt kb kc ki kp kt nn nw pu rq sn sx ve vi vs vz wi
 refine Y8 fun x1=>?_
 refine u7 (b:=x1) (v:=p) ?_
 refine j2 (C4q (T:=T) (p:=p) (pl:=pl) (sl:=sl) (fl:=fl) ag hz dF (At.un (x:=A6J (pkI p pl sl fl) T.b) ?_))
 unfold A1T at hq
 obtain⟨code,hr⟩:∃code,code=A6J (pkI p pl sl fl) T.b:=⟨_,rfl⟩
 rw[←hr] at hq⊢
 by_cases av:code=0
 case neg=>
  rw[if_pos av] at hq
  refine Y5 (by simp[av]) ?_
  refine B7N (k:=.i64) (l6 2 0 code) rfl rfl ?_
  refine Z9 (B9b (X:=A0x) (O:=W3 .i64) (T:=T) (c:=c) (o:=l6 2 0 code) (ci:=⟨none,0,0⟩) (pi:=⟨none,0,0⟩) A4f (by omega) (At.bD ?_))
  exact U9 hq.sub
 refine X1 (by simp[av]) ?_
 rw[if_neg (fun e=>e av)] at hq
 obtain⟨T1,bP⟩:∃T1,T1=A1c full (p.2.2.2.2.2.2.2.2.2.2.1) T:=⟨_,rfl⟩
 refine W9 ?_
 refine A1F (g:=fun q R=>rbL r full (W3 .i64) T q R) (fun h R=>A0m.1) fun q=>?_
 refine j0 (b:=r) (i:=0) (v:=some ⟨q.tb,0,none⟩) ?_
 refine W.load (b:=x1) (v:=(p.2.2.2.2.2.2.2.2.2.2.1)) ?_
 refine C7R ?_
 refine B94 (fun a=>a.1=match ofS (p.2.2.2.2.2.2.2.2.2.2.1) T.b.aG with|some s=>s.id|none=>0) (fun _=>rbA r full (W3 .i64) T1::cells x1 (aS2 p)::V1 X6 4 (A0y p) pl::L2) (fun K hK=>?_) (fun a ha=>?_)
 ·clear hq
  unfold A1c at bP
  refine j2 (B9m (b:=q.tb) (last:=T.b.last) (A:=T.b.aG) (c:=(p.2.2.2.2.2.2.2.2.2.2.1)) hz.aG ag.dV (fun ho=>At.un (x:=none) ?_) (fun s ho nb ob ib=>At.un (x:=some ⟨nb,0,none⟩) ?_))
  ·rw[ho] at bP hK
   simp only at bP
   subst bP
   refine X1 rfl (U9 ?_)
   refine At.rb (O:=W3 .i64) T1 q ?_
   exact(hK (0,()) rfl).sub
  ·rw[ho] at bP hK
   simp only at bP
   refine Y5 rfl ?_
   refine W9 ?_
   refine W.load (b:=nb) (v:=s.id) ?_
   refine A8T (A:=A0x q.tb T.b.last T.b.aG) (B:=cells nb (rqC s ob ib)) (C:=a7 ob s.out) (D:=A05 ib s.bA) (E:=A2K q.tb T.b.last T.b.aG s nb) (fun h ae=>A5i h ae) ?_
   refine W.rb (O:=W3 .i64) T q ?_
   refine W.loop (γ:=Nat) (fun g s'=>s'.1=(g:Int)∧g≤T.b.aB.length∧(T.b.aB.take g).filter (fun x=>decide (x.aG=s.id))=[]) (fun g s'=>rbA r full (W3 .i64) T::cells x1 (aS2 p)::V1 X6 4 (A0y p) pl::L2) (fun g=>T.b.aB.length-g) 0 ⟨rfl,C9 _,rfl⟩ ?_ ?_
   ·show Sub _ (rbA r full (W3 .i64) T::cells x1 (aS2 p)::V1 X6 4 (A0y p) pl::L2)
    repeat(first|with_reducible exact U3|with_reducible exact U4|refine U5 (by repeat first|with_reducible exact V5|apply V7) ?_|refine U6 ?_)
   rintro i s' ⟨hi,cF,ay⟩ K' k1 k2
   refine W9 ?_
   refine A1F (g:=fun q R=>rbL r full (W3 .i64) T q R) (fun h R=>A0m.1) fun q2=>?_
   refine Y7 (X7 (enc:=y7) (size:=8) (s:=q2.sc) (xs:=T.b.aB)) fun hl=>?_
   refine j0 (b:=r) (i:=3) (v:=q2.sc) ?_
   by_cases ah:i<T.b.aB.length
   ·refine Y5 (by rw[hi,hl];exact decide_eq_true (by omega)) ?_
    have aP:T.b.aB[i]? =some T.b.aB[i]:=B0 ah
    have aR:T.b.aB.take (i+1)=T.b.aB.take i++[T.b.aB[i]]:=C3 ah
    have rN:T.b.aB[i]∈T.b.aB:=H6 ah
    generalize T.b.aB[i]=z at aP aR rN
    refine W9 ?_
    refine j0 (b:=r) (i:=3) (v:=q2.sc) ?_
    refine b9 (enc:=y7) (xs:=T.b.aB) (i:=i) ah (fun a ha=>?_) (he:=hi)
    refine A3d (k:=1) (x:=z) (v:=z.aG) ha aP ?_
    by_cases rM:z.aG=s.id
    ·refine Y5 (by simpa using rM) ?_
     refine W9 ?_
     refine j0 (b:=r) (i:=3) (v:=q2.sc) ?_
     refine b9 (enc:=y7) (xs:=T.b.aB) (i:=i) ah (fun a ha=>?_) (he:=hi)
     refine A3d (k:=0) (x:=z) (v:=z.c) ha aP ?_
     refine W.rb (O:=W3 .i64) T q2 ?_
     have e:T1=A0O full z.c 142 T:=by rw[bP];unfold A3q;rw[B8t ag.tol8 rN rM]
     subst e
     refine Z9 (A3P (O:=W3 .i64) (T:=T) (c:=z.c) (code:=142) A4f ag.tol8 hz (by omega) (by omega) (At.bD ?_))
     exact U9 (k2 _ _ (U9 (hK (s.id,()) rfl).sub))
    ·refine X1 (by simpa using rM) ?_
     have ig:=k1 (i+1) (IntKind.wrap .i64 (s'.1+1),()) (by omega) ⟨by simp only[hi];rw[W6 (by omega) (by have:=hz.aB;omega)];rfl,ah,by rw[aR,F4,ay,G2 (by simpa using rM)];rfl⟩
     refine W.rb (O:=W3 .i64) T q2 ?_
     exact U9 ig.sub
   ·refine X1 (by rw[hi,hl];exact decide_eq_false (by omega)) (U9 (k2 _ _ (U9 ?_)))
    rw[D1 (by omega)] at ay
    have e:T1=T:=by
     rw[bP];unfold A3q
     rw[E7.2 fun x hx=>by simpa using J3.1 ay x hx]
    subst e
    refine At.rb (O:=W3 .i64) T1 q2 ?_
    exact(hK (s.id,()) rfl).sub
 obtain⟨old,_⟩:=a
 simp only at ha
 have gH:i7 (p.2.2.2.2.2.2.2.2.2.2.1)∧(ofS (p.2.2.2.2.2.2.2.2.2.2.1) T.b.aG=none→T.b.aG.length<32):=by
  rw[av] at hr
  unfold A6J at hr
  simp only at hr
  split at hr
  ·cases hr
  ·split at hr
   ·cases hr
   ·split at hr
    ·cases hr
    ·rename_i hg
     split at hr
     ·cases hr
     ·rename_i eK
      refine⟨O4 hg,fun ho=>?_⟩
      exact Nat.lt_of_not_le fun h=>eK ⟨ho,h⟩
 obtain⟨eo,gD,oV,jf,jx,kD⟩:=B2o (full:=full) (c:=(p.2.2.2.2.2.2.2.2.2.2.1)) ag cd gH.2
 have xC:=C4I (full:=full) (c:=(p.2.2.2.2.2.2.2.2.2.2.1)) ag.tol8 cd
 rw[←bP] at eo gD oV jf jx kD xC
 refine W.load (b:=x1) (v:=A0y p) ?_
 refine Z9 (C3w (S:=A0y p) (pl:=pl) (id:=17) (by have:=dF.props;omega) (At.bD (x:=(prU ((A02 17 pl).getD (0,0,e0S,e0S)),(A02 17 pl).isSome,())) ?_))
 refine Y8 fun pI=>?_
 refine A0u ?_
 refine W9 ?_
 refine A1F (g:=fun q R=>rbL r full (W3 .i64) T1 q R) (fun h R=>A0m.1) fun q4=>?_
 refine j0 (b:=r) (i:=0) (v:=some ⟨q4.tb,0,none⟩) ?_
 refine W.load (b:=x1) (v:=(p.2.2.2.2.2.2.2.2.2.2.1)) ?_
 refine W.load (b:=x1) (v:=(p.2.2.2.2.2.2.2.2.2.2.2.1)) ?_
 refine W.load (b:=pI) (v:=((A02 17 pl).getD (0,0,e0S,e0S)).2.1) ?_
 rw[C0X]
 obtain⟨ow,lI,lJ,lK⟩:=B8N (B:=T1.b) (clean:=(p.2.2.2.2.2.2.2.2.2.2.2.1)) (aO:=A0n pl) gH.1 jx
 refine Z9 (C0A (b:=q4.tb) (last:=T1.b.last) (A:=T1.b.aG) (c:=(p.2.2.2.2.2.2.2.2.2.2.1)) (clean:=(p.2.2.2.2.2.2.2.2.2.2.2.1)) (aO:=A0n pl) dF.aD eo.cZ (by have:=eo.cM;omega) (by have:=eo.n32;omega) eo.nd eo.dV (At.bD (x:=((A0c T1.b.last T1.b.aG (p.2.2.2.2.2.2.2.2.2.2.1) (p.2.2.2.2.2.2.2.2.2.2.2.1) (A0n pl)).1.2.1,(A0c T1.b.last T1.b.aG (p.2.2.2.2.2.2.2.2.2.2.1) (p.2.2.2.2.2.2.2.2.2.2.2.1) (A0n pl)).1.2.2,(A0c T1.b.last T1.b.aG (p.2.2.2.2.2.2.2.2.2.2.1) (p.2.2.2.2.2.2.2.2.2.2.2.1) (A0n pl)).1.1,())) ?_))
 have qx:A1I c T1.b.aB=none:=E7.2 fun y hy=>by
  have:=E7.1 iy y (jf y hy).1
  exact this
 obtain⟨bT,s5,aj,gE⟩:=B7c (B:=T1.b) (o:=ofS (p.2.2.2.2.2.2.2.2.2.2.1) T.b.aG) (aD:=(p.2.2.2.2.2.2.2.2.2.2.1)) (clean:=(p.2.2.2.2.2.2.2.2.2.2.2.1)) (aO:=A0n pl) (x:=⟨c,(j8 (p.2.2.2.2.2.2.2.2.2.2.1) (p.2.2.2.2.2.2.2.2.2.2.2.1) (A0n pl) T1.b).1.1,p.2.2.2.2.2.2.2.2.2.2.2.2.2.1,(p.2.2.2.2.2.2.2.2.2.2.2.2.2.2.1,p.2.2.2.2.2.2.2.2.2.2.2.2.2.2.2.1,p.2.2.2.2.2.2.2.2.2.2.2.2.2.2.2.2.1,p.2.2.2.2.2.2.2.2.2.2.2.2.2.2.2.2.2.1,e0S)⟩) eo kD (fun y hy s hs=>(jf y hy).2 s hs) jx rfl ⟨C4 dF.aX (by decide),bN⟩
 rw[A45] at hq
 dsimp only at hq
 rw[←bP,lI,lJ,lK] at hq
 have xS:T1.b.aB.length≤999999:=by
  have h6:T.b.aB.length<64:=by
   rw[av] at hr
   unfold A6J at hr
   simp only at hr
   split at hr
   ·cases hr
   ·split at hr
    ·cases hr
    ·omega
  omega
 clear bP hr av jf jx kD gH lI lJ lK iy
 generalize(j8 (p.2.2.2.2.2.2.2.2.2.2.1) (p.2.2.2.2.2.2.2.2.2.2.2.1) (A0n pl) T1.b)=r1 at hq ow bT aj gE⊢
 rw[ow]
 clear ow
 dsimp only
 have hold:∀s,ofS (p.2.2.2.2.2.2.2.2.2.2.1) T.b.aG=some s→old=s.id∧1≤s.id:=fun s ho=>by
  rw[ho] at ha
  exact⟨ha,(ag.dQ s (A7a ho).1).1⟩
 have mf:ofS (p.2.2.2.2.2.2.2.2.2.2.1) T.b.aG=none→old=0:=fun ho=>by rw[ho] at ha;exact ha
 refine A1j (fun a=>a.1=match ofS (p.2.2.2.2.2.2.2.2.2.2.1) T.b.aG with|some s=>decide (s.id≠r1.1.1)|none=>false) (fun K hK=>?_) (fun a bQ=>?_)
 ·cases ho:ofS (p.2.2.2.2.2.2.2.2.2.2.1) T.b.aG with
  |none=>rw[ho] at hK;exact X1 (by simp[mf ho]) (U9 (hK _ rfl))
  |some s=>
   rw[ho] at hK
   obtain⟨e1,e2⟩:=hold s ho
   subst e1
   refine Y5 (by
    have:s.id≠0:=by omega
    simp[this]) (U9 (hK _ ?_))
   by_cases e:s.id=r1.1.1
   ·simp[e]
   ·simp[e]
 obtain⟨a,_⟩:=a
 simp only at bQ
 refine W.cut (fun _=>rbA r full (W3 .i64) (tB ⟨r1.2.last,r1.2.aG,A2a (ofS (p.2.2.2.2.2.2.2.2.2.2.1) T.b.aG) r1.1.1 T1.b.aH,T1.b.kept,T1.b.aB⟩ T1)::cells x1 (aS2 p)::V1 X6 4 (A0y p) pl::L2) (fun K hK=>?_) (fun _=>?_)
 ·clear hq bT
  cases ho:ofS (p.2.2.2.2.2.2.2.2.2.2.1) T.b.aG with
  |none=>
   rw[ho] at bQ hK
   have e2:A2a none r1.1.1 T1.b.aH=T1.b.aH:=rfl
   rw[e2] at hK
   refine X1 bQ (U9 ?_)
   refine At.rb (O:=W3 .i64) (tB ⟨r1.2.last,r1.2.aG,T1.b.aH,T1.b.kept,T1.b.aB⟩ T1) q4 ?_
   exact(hK ()).sub
  |some s=>
   rw[ho] at bQ hK
   by_cases e:s.id=r1.1.1
   ·have e2:A2a (some s) r1.1.1 T1.b.aH=T1.b.aH:=by unfold A2a;simp[e]
    rw[e2] at hK
    refine X1 (by rw[bQ];simp[e]) (U9 ?_)
    refine At.rb (O:=W3 .i64) (tB ⟨r1.2.last,r1.2.aG,T1.b.aH,T1.b.kept,T1.b.aB⟩ T1) q4 ?_
    exact(hK ()).sub
   ·have e2:A2a (some s) r1.1.1 T1.b.aH=A1q s.id T1.b.aH:=by unfold A2a;simp[e]
    rw[e2] at hK
    refine Y5 (by rw[bQ];simp[e]) ?_
    refine W9 ?_
    refine j0 (b:=r) (i:=1) (v:=some ⟨q4.sb,0,none⟩) ?_
    rw[(hold s ho).1]
    refine j2 (C0z (b:=q4.sb) (E:=T1.b.aH) (id:=s.id) eo.aH (At.un (U9 ?_)))
    refine At.rb (O:=W3 .i64) (tB ⟨r1.2.last,r1.2.aG,A1q s.id T1.b.aH,T1.b.kept,T1.b.aB⟩ T1) q4 ?_
    exact(hK ()).sub
 clear bQ hold mf ha
 generalize A2a (ofS (p.2.2.2.2.2.2.2.2.2.2.1) T.b.aG) r1.1.1 T1.b.aH=E5 at hq bT⊢
 refine j0 (b:=x1) (i:=14) (v:=p.2.2.2.2.2.2.2.2.2.2.2.2.2.2.1) ?_
 refine j0 (b:=x1) (i:=15) (v:=p.2.2.2.2.2.2.2.2.2.2.2.2.2.2.2.1) ?_
 refine j0 (b:=x1) (i:=16) (v:=p.2.2.2.2.2.2.2.2.2.2.2.2.2.2.2.2.1) ?_
 refine j0 (b:=x1) (i:=17) (v:=p.2.2.2.2.2.2.2.2.2.2.2.2.2.2.2.2.2.1) ?_
 refine Y8 fun uH=>?_
 refine A0u ?_
 refine W9 ?_
 refine A1F (g:=fun q R=>rbL r full (W3 .i64) (tB ⟨r1.2.last,r1.2.aG,E5,T1.b.kept,T1.b.aB⟩ T1) q R) (fun h R=>A0m.1) fun q5=>?_
 refine j0 (b:=r) (i:=3) (v:=q5.sc) ?_
 refine W.load (b:=x1) (v:=p.2.2.2.2.2.2.2.2.2.2.2.2.2.1) ?_
 refine u7 (b:=uH) (v:=(p.2.2.2.2.2.2.2.2.2.2.2.2.2.2.1,p.2.2.2.2.2.2.2.2.2.2.2.2.2.2.2.1,p.2.2.2.2.2.2.2.2.2.2.2.2.2.2.2.2.1,p.2.2.2.2.2.2.2.2.2.2.2.2.2.2.2.2.2.1,e0S,())) ?_
 refine Y8 fun wu=>?_
 refine j0 (b:=r) (i:=3) (v:=q5.sc) ?_
 refine A1t ?_ rfl
 refine B0k (b:=wu) (xs:=T1.b.aB) (enc:=y7) (s:=q5.sc) (⟨c,r1.1.1,p.2.2.2.2.2.2.2.2.2.2.2.2.2.1,(p.2.2.2.2.2.2.2.2.2.2.2.2.2.2.1,p.2.2.2.2.2.2.2.2.2.2.2.2.2.2.2.1,p.2.2.2.2.2.2.2.2.2.2.2.2.2.2.2.2.1,p.2.2.2.2.2.2.2.2.2.2.2.2.2.2.2.2.2.1,e0S)⟩:Z7) (fun s'=>?_) (by omega)
 refine W9 ?_
 refine A4v (b:=r) (i:=3) (cs':=rbC ⟨q5.tb,q5.sb,q5.kb,s',q5.so,q5.sp⟩ full) ?_
 have hlen:(T1.b.aB++[(⟨c,r1.1.1,p.2.2.2.2.2.2.2.2.2.2.2.2.2.1,(p.2.2.2.2.2.2.2.2.2.2.2.2.2.2.1,p.2.2.2.2.2.2.2.2.2.2.2.2.2.2.2.1,p.2.2.2.2.2.2.2.2.2.2.2.2.2.2.2.2.1,p.2.2.2.2.2.2.2.2.2.2.2.2.2.2.2.2.2.1,e0S)⟩:Z7)]).length≤1000000:=by rw[B3];simp only[B7,G1];omega
 generalize T1.b.aB++[(⟨c,r1.1.1,p.2.2.2.2.2.2.2.2.2.2.2.2.2.1,(p.2.2.2.2.2.2.2.2.2.2.2.2.2.2.1,p.2.2.2.2.2.2.2.2.2.2.2.2.2.2.2.1,p.2.2.2.2.2.2.2.2.2.2.2.2.2.2.2.2.1,p.2.2.2.2.2.2.2.2.2.2.2.2.2.2.2.2.2.1,e0S)⟩:Z7)]=C5 at hq bT hlen⊢
 refine W.rb (O:=W3 .i64) (tB ⟨r1.2.last,r1.2.aG,E5,T1.b.kept,C5⟩ T1) ⟨q5.tb,q5.sb,q5.kb,s',q5.so,q5.sp⟩ ?_
 refine B7N (k:=.i64) (A2b r1.1.2) rfl rfl ?_
 refine Z9 (B48 (X:=A0x) (O:=W3 .i64) (T:=tB ⟨r1.2.last,r1.2.aG,E5,T1.b.kept,C5⟩ T1) (c:=c) (o:=A2b r1.1.2) (ci:=⟨none,0,0⟩) (pi:=⟨none,0,0⟩) A4f (by show T1.outs.length≤_;omega) (At.bD ?_))
 have rz:A0N ⟨c,A2b r1.1.2,false⟩ (tB ⟨r1.2.last,r1.2.aG,E5,T1.b.kept,C5⟩ T1)=(⟨⟨r1.2.last,r1.2.aG,E5,T1.b.kept,C5⟩,T1.outs++[⟨c,A2b r1.1.2,false⟩],T1.aT⟩:V6):=rfl
 rw[rz] at hq
 show W (rbA r full (W3 .i64) ⟨⟨r1.2.last,r1.2.aG,E5,T1.b.kept,C5⟩,T1.outs++[⟨c,A2b r1.1.2,false⟩],T1.aT⟩::_) _ _
 have hO:(T1.outs++[(⟨c,A2b r1.1.2,false⟩:u5)]).length≤13300002:=by rw[B3];simp only[B7,G1];omega
 generalize T1.outs++[(⟨c,A2b r1.1.2,false⟩:u5)]=O5 at hq hO⊢
 clear rz
 unfold A01 at hq
 simp only[A3u bT.nd aj gE] at hq
 refine W.load (b:=x1) (v:=A0y p) ?_
 refine Z9 (C3w (S:=A0y p) (pl:=pl) (id:=33) (by have:=dF.props;omega) (At.bD (x:=(prU ((A02 33 pl).getD (0,0,e0S,e0S)),(A02 33 pl).isSome,())) ?_))
 refine Y8 fun ez=>?_
 refine A0u ?_
 refine A1j (fun a=>a.1=A1Y pl) (fun K hK=>?_) (fun a ha=>?_)
 ·unfold A1Y at hK
  clear hq
  cases hf:A02 33 pl with
  |none=>
   rw[hf] at hK
   exact X1 rfl (U9 (hK (64,()) rfl))
  |some z=>
   rw[hf] at hK
   refine Y5 rfl ?_
   refine W.load (b:=ez) (v:=z.2.1) ?_
   exact U9 (hK (z.2.1,()) rfl)
 obtain⟨most,_⟩:=a
 simp only at ha
 subst ha
 refine W9 ?_
 refine A1F (g:=fun q R=>rbL r full (W3 .i64) (⟨⟨r1.2.last,r1.2.aG,E5,T1.b.kept,C5⟩,O5,T1.aT⟩:V6) q R) (fun h R=>A0m.1) fun q6=>?_
 refine j0 (b:=r) (i:=0) (v:=some ⟨q6.tb,0,none⟩) ?_
 refine j2 (C2e (b:=q6.tb) (last:=r1.2.last) (A:=r1.2.aG) (s:=s5) (k:=r1.1.1) (by have:r1.2.aG.length≤32:=bT.n32;omega) bT.nd aj gE (fun nb ob ib=>At.un (x:=some ⟨nb,0,none⟩) ?_))
 refine W9 ?_
 refine W.load (b:=nb) (v:=some ⟨ob,0,none⟩) ?_
 have dj:=B3P (bT.bM s5 aj) (A1Y pl)
 refine j2 (C4o (b:=ob) (o:=s5.out) (most:=A1Y pl) (bT.bM s5 aj) (fun S2=>At.un (x:=S2) ?_))
 refine A8T (A:=A0x q6.tb r1.2.last (Y4 r1.1.1 (Y9 (A0z s5.out (A1Y pl)).1) r1.2.aG)) (B:=cells nb (rqC s5 ob ib)) (C:=a7 ob (A0z s5.out (A1Y pl)).1) (D:=A05 ib s5.bA) (E:=A2K q6.tb r1.2.last r1.2.aG s5 nb) (fun h ae=>A5j (f:=Y9 (A0z s5.out (A1Y pl)).1) gE bT.nd rfl h ae) ?_
 refine W.rb (O:=W3 .i64) (A0S (Y4 r1.1.1 (Y9 (A0z s5.out (A1Y pl)).1) r1.2.aG) ⟨⟨r1.2.last,r1.2.aG,E5,T1.b.kept,C5⟩,O5,T1.aT⟩) q6 ?_
 refine Z9 (A5l (X:=A0x) (O:=W3 .i64) (T:=A0S (Y4 r1.1.1 (Y9 (A0z s5.out (A1Y pl)).1) r1.2.aG) ⟨⟨r1.2.last,r1.2.aG,E5,T1.b.kept,C5⟩,O5,T1.aT⟩) (id:=r1.1.1) (ps:=(A0z s5.out (A1Y pl)).2) A4f (bT.one r1.1.1) (by have:=dj.2;show O5.length+_≤_;omega) hlen (At.bD ?_))
 exact U9 hq.sub
end
section
open Go.H Go.Proofs
variable {h h0:Heap} {L L' L1 L2 L3 L4 R:List Asn} {Q:Value→Heap→Prop}
theorem C4s{r n:Nat}{full full0:Bool}{T:V6}{c:Int}{p:Pk}{pl:List r8}{sl:List A0L}{fl:List B4p}(ag:Y1 T.b n)(hn:n≤1000000)(hz:Szs T.b)(ef:∀s∈T.b.aG,s.bA.ok)(bN: -9223372036854775808≤c∧c≤9223372036854775807)(dF:C6Z p pl sl fl)
  (hq:At (rbA r full (W3 .i64) (j9 full c (pkI p pl sl fl) T.b)::L4) (Q (.tuple #[])))(hx:Has L (rbA r full0 (W3 .i64) T) L1:=by repeat first|with_reducible exact V5|apply V7)(hy:Has L1 (V1 Y6 5 (A0P p) sl) L2:=by repeat first|with_reducible exact V5|apply V7)(hw:Has L2 (V1 A0p 1 (A4A p) fl) L3:=by repeat first|with_reducible exact V5|apply V7)(hv:Has L3 (V1 X6 4 (A0y p) pl) L4:=by repeat first|with_reducible exact V5|apply V7):
  FW prog 49 #[at0 r,.int .i64 c,A2B .i64 p,.bool full] L Q:=by
 refine fun h hs=>B00 (some ⟨r,0,none⟩) c p full h Q ((?_:W (rbA r full0 (W3 .i64) T::V1 Y6 5 (A0P p) sl::V1 A0p 1 (A4A p) fl::V1 X6 4 (A0y p) pl::L4) _ _) h ((hx.eL hy hw hv).s hs))
 clear hs h hx hy hw hv
 delta B1J az ci cp cx g2 ie ix ji kc ki kp nn nw pu ve vi vz
 refine Y8 fun x1=>?_
 refine Z9 (B10 (full:=full) (full0:=full0) (T:=T) (At.bD ?_))
 refine j2 (B5T (X:=A0x) (O:=W3 .i64) (T:=⟨T.b,[],[]⟩) (c:=c) hz.aB (At.un (x:=(match atC c T.b.aB with|some i=>(i:Int)|none=> -1)) ?_))
 unfold j9 at hq
 cases ha:atC c T.b.aB with
 |none=>
  rw[B2O.1 ha] at hq
  simp only at hq
  refine X1 rfl ?_
  refine W.load (b:=x1) (v:=p.1) ?_
  by_cases h1:p.1=1
  ·rw[if_pos h1] at hq
   refine Y5 (by simpa using h1) ?_
   refine u7 (b:=x1) (v:=p) ?_
   refine Z9 (C2b (T:=⟨T.b,[],[]⟩) (c:=c) (p:=p) (pl:=pl) (sl:=sl) (fl:=fl) ag hn hz (B2O.1 ha) bN (C9 _) (C9 _) dF (At.bD ?_))
   exact U9 hq.sub
  ·rw[if_neg h1] at hq
   have hq:At (rbA r full (W3 .i64) (A0N ⟨c,l6 14 0 130,true⟩ ⟨T.b,[],[]⟩)::L4) (Q (.tuple #[])):=hq
   refine X1 (by simpa using h1) ?_
   refine B7N (k:=.i64) (l6 14 0 130) rfl rfl ?_
   refine Z9 (B9b (X:=A0x) (O:=W3 .i64) (T:=⟨T.b,[],[]⟩) (c:=c) (o:=l6 14 0 130) (ci:=⟨none,0,0⟩) (pi:=⟨none,0,0⟩) A4f (C9 _) (At.bD ?_))
   exact U9 hq.sub
 |some i=>
  obtain⟨x,aP,lC,oM⟩:=C1A ha
  rw[lC] at hq
  simp only at hq
  have ah:i<T.b.aB.length:=(D4.1 aP).1
  obtain⟨s,hs,hid⟩:=ag.cl x (A1V lC).1
  refine Y5 (decide_eq_true (by simp only;omega)) ?_
  refine W9 ?_
  refine A1F (g:=fun q R=>rbL r full (W3 .i64) ⟨T.b,[],[]⟩ q R) (fun h R=>A0m.1) fun q=>?_
  refine Y7 (X7 (enc:=y7) (size:=8) (s:=q.sc) (xs:=T.b.aB)) fun hl=>?_
  refine j0 (b:=r) (i:=0) (v:=some ⟨q.tb,0,none⟩) ?_
  refine W9 ?_
  refine j0 (b:=r) (i:=3) (v:=q.sc) ?_
  refine b9 (enc:=y7) (xs:=T.b.aB) (i:=i) ah (fun a ha=>?_) (he:=rfl)
  refine A3d (k:=1) (x:=x) (v:=x.aG) ha aP ?_
  refine j2 (C2e (b:=q.tb) (last:=T.b.last) (A:=T.b.aG) (s:=s) (k:=x.aG) hz.aG ag.nd hs hid (fun nb ob ib=>At.un (x:=some ⟨nb,0,none⟩) ?_))
  refine A8T (A:=A0E nb ob ib x.aG q.tb T.b.last T.b.aG) (B:=cells nb (rqC s ob ib)) (C:=a7 ob s.out) (D:=A05 ib s.bA) (E:=A2K q.tb T.b.last T.b.aG s nb) (fun h ae=>A5k.2 ⟨s,⟨hs,hid⟩,ae⟩) ?_
  refine W.dY (X:=A0E nb ob ib x.aG) (O:=W3 .i64) ⟨T.b,[],[]⟩ q ?_
  refine u7 (b:=x1) (v:=p) ?_
  rw[←oM] at lC⊢
  refine Z9 (C8l (T:=⟨T.b,[],[]⟩) (x:=x) (p:=p) (pl:=pl) (sl:=sl) (fl:=fl) ag hz ef lC (C9 _) (C9 _) dF (At.bD ?_))
  exact U9 hq.sub
theorem C7n{r n:Nat}{full full0:Bool}{T:V6}{c:Int}(ag:Y1 T.b n)(hz:Szs T.b)
  (hq:At (rbA r full (W3 .i64) (A8z full c T.b)::L1) (Q (.tuple #[])))(hx:Has L (rbA r full0 (W3 .i64) T) L1:=by repeat first|with_reducible exact V5|apply V7):
  FW prog 46 #[at0 r,.int .i64 c,.bool full] L Q:=by
 refine fun h hs=>B29 (some ⟨r,0,none⟩) c full h Q ((?_:W (rbA r full0 (W3 .i64) T::L1) _ _) h (hx.s hs))
 clear hs h hx
 unfold A8z at hq
 delta B5E cx pu vi
 refine Z9 (B10 (full:=full) (full0:=full0) (T:=T) (At.bD ?_))
 refine Z9 (B9j (O:=W3 .i64) (T:=⟨T.b,[],[]⟩) (c:=c) (aX:=true) A4f ag.tol8 hz (C9 _) (C9 _) (At.bD ?_))
 exact U9 hq.sub
theorem C2g{r n:Nat}{full0:Bool}{T:V6}{m:MsT}(ag:Y1 T.b n)(hz:Szs T.b)(hm:m.1.size≤9223372036854775800)
  (hq:At (rbA r false (W3 .i64) (A1r m T.b)::L1) (Q (.tuple #[])))(hx:Has L (rbA r full0 (W3 .i64) T) L1:=by repeat first|with_reducible exact V5|apply V7):
  FW prog 47 #[at0 r,vMs m] L Q:=by
 refine fun h hs=>A95 (some ⟨r,0,none⟩) (toU m) h Q ((?_:W (rbA r full0 (W3 .i64) T::L1) _ _) h (hx.s hs))
 clear hs h hx
 unfold A1r at hq
 delta B0s az cx g7 nw pu
 refine Y8 fun x1=>?_
 refine Z9 (B10 (full:=false) (full0:=full0) (T:=T) (At.bD ?_))
 refine u7 (b:=x1) (v:=toU m) ?_
 refine Z9 (C3v (O:=W3 .i64) (T:=⟨T.b,[],[]⟩) (m:=m) A4f ag.tol8 hz (C9 _) hm (At.bD ?_))
 exact U9 hq.sub
theorem C6x{B:i6}{c:Int}(h:Szs B):Szs (A5O B c):=by
 unfold A5O
 split
 ·exact h
 ·rw[B5c];exact h.ended rfl
theorem B6z{B:i6}{c:Int}:(A5O B c).aB=B.aB.filter fun y=>decide (y.c≠c):=by
 unfold A5O
 cases hg:A1I c B.aB with
 |none=>exact(H3.2 fun y hy=>by have:=E7.1 hg y hy;simpa using this).symm
 |some x=>simp only;rw[B5c]
theorem C2c{r n:Nat}{full0:Bool}{T:V6}(ag:Y1 T.b n)(hz:Szs T.b)
  (hq:At (rbA r false (W3 .i64) ⟨A2d T.b,[],[]⟩::L1) (Q (.tuple #[])))(hx:Has L (rbA r full0 (W3 .i64) T) L1:=by repeat first|with_reducible exact V5|apply V7):
  FW prog 48 #[at0 r] L Q:=by
 refine fun h hs=>A94 (some ⟨r,0,none⟩) h Q ((?_:W (rbA r full0 (W3 .i64) T::L1) _ _) h (hx.s hs))
 clear hs h hx
 delta B0r bn cx ie ix kc ki nn pu vi
 refine Z9 (B10 (full:=false) (full0:=full0) (T:=T) (At.bD ?_))
 refine W.loop (γ:=i6) (fun B _=>Y1 B n∧Szs B∧(B.aB.map (·.c)).foldl A5O B=A2d T.b) (fun B _=>rbA r false (W3 .i64) ⟨B,[],[]⟩::L1) (fun B=>B.aB.length) T.b ⟨ag,hz,A86.symm⟩ ?_ ?_
 ·show Sub _ (rbA r false (W3 .i64) ⟨T.b,[],[]⟩::L1)
  repeat(first|with_reducible exact U3|with_reducible exact U4|refine U5 (by repeat first|with_reducible exact V5|apply V7) ?_|refine U6 ?_)
 rintro B s ⟨aL,dz,hf⟩ K k1 k2
 refine W9 ?_
 refine A1F (g:=fun q R=>rbL r false (W3 .i64) ⟨B,[],[]⟩ q R) (fun h R=>A0m.1) fun q=>?_
 refine Y7 (X7 (enc:=y7) (size:=8) (s:=q.sc) (xs:=B.aB)) fun hl=>?_
 refine j0 (b:=r) (i:=3) (v:=q.sc) ?_
 by_cases ah:0<B.aB.length
 ·refine Y5 (by rw[hl];exact decide_eq_true (by omega)) ?_
  have rW:B.aB[0]? =some B.aB[0]:=B0 ah
  have iQ:B.aB=B.aB[0]::B.aB.drop 1:=by
   have:=E0 ah
   rwa[T4] at this
  generalize B.aB[0]=y at rW iQ
  have au:=dz.nd
  have vN:(A5O B y.c).aB=B.aB.drop 1:=by
   rw[B6z]
   rw[iQ,B5,G0] at au
   conv=>lhs;rw[iQ]
   rw[G2 (by simp)]
   refine H3.2 fun z hz=>decide_eq_true fun e=>au.1 ?_
   rw[←e]
   exact B4 hz
  have ig:=k1 (A5O B y.c) () (by rw[vN,R3];omega) ⟨B9O aL,C6x dz,by
   rw[vN,←hf]
   conv=>rhs;rw[iQ]
   rfl⟩
  refine W9 ?_
  refine j0 (b:=r) (i:=3) (v:=q.sc) ?_
  refine b9 (enc:=y7) (xs:=B.aB) (i:=0) ah (fun a ha=>?_) (he:=rfl)
  refine A3d (k:=0) (x:=y) (v:=y.c) ha rW ?_
  refine W.rb (O:=W3 .i64) ⟨B,[],[]⟩ q ?_
  refine Z9 (B9j (O:=W3 .i64) (T:=⟨B,[],[]⟩) (c:=y.c) (aX:=false) A4f aL.tol8 dz (C9 _) (C9 _) (At.bD ?_))
  rw[C2Q]
  exact U9 ig.sub
 ·refine X1 (by rw[hl];exact decide_eq_false (by omega)) (U9 (k2 _ _ (U9 ?_)))
  have e:B.aB=[]:=L8.1 (by omega)
  rw[e] at hf
  have hf:B=A2d T.b:=hf
  refine At.rb (O:=W3 .i64) ⟨B,[],[]⟩ q ?_
  rw[hf]
  exact hq.sub
theorem C7o(hq:∀b,At (A1W b 64 []::L) (Q (B14 b))):FW prog 45 #[.int .i64 64] L Q:=fun h hs=>C4t hs 64 fun b h' af=>hq b h' af
theorem C8n(hq:∀r,At (rbA r false (W3 .i64) ⟨⟨0,[],[],[],[]⟩,[],[]⟩::L) (Q (at0 r))):FW prog 21 #[] L Q:=by
 refine fun h hs=>B4I h Q ((?_:W L _ _) h hs)
 clear hs h
 delta B74 az cp nw pu vi vz
 refine j2 (C7o (fun b=>At.un (x:=some ⟨b,0,none⟩) ?_))
 refine Y8 fun x2=>?_
 refine C77 (A:=A0x x2 0 []) (B:=cells x2 #[.int .i64 0,.slice none 0 0]) (fun h hs=>C3t h hs) ?_
 refine Y8 fun x3=>?_
 refine A4u b6 3 ?_
 refine W.dB (A:=A0l x3 []) (B:=cells x3 #[.slice none 0 0]) (C:=V1 b6 3 ⟨none,0,0⟩ []) (fun h hs=>A06.2 ⟨⟨none,0,0⟩,hs⟩) ?_
 refine Y8 fun x4=>?_
 refine A4u Z5 5 ?_
 refine A4u y7 8 ?_
 refine W.sub (L':=cells x4 (rbC ⟨x2,x3,b,⟨none,0,0⟩,⟨none,0,0⟩,⟨none,0,0⟩⟩ false)::V1 Z5 5 ⟨none,0,0⟩ []::V1 y7 8 ⟨none,0,0⟩ []::A0x x2 0 []::A0l x3 []::A1W b 64 []::L) ?_
 refine U9 (fun h hs=>?_)
 have h1:=B18 (k:=.i64) hs
 exact hq x4 h (A0m.2 ⟨⟨x2,x3,b,⟨none,0,0⟩,⟨none,0,0⟩,⟨none,0,0⟩⟩,h1.re [1,0,2,3,4,5,6]⟩)
end
section
open Go.H Go.Proofs
variable {h h0:Heap} {L L' L1 L2 L3 L4 R:List Asn} {Q:Value→Heap→Prop}
def C9b(c:Int)(out:List Int)(k:Nat)(put:Bool)(l:List Int):Prop:=match put with
 |false=>l=out.take k∧∀x∈out.take k,x≤c
 |true=>∃a b,l=a++c::b∧out.take k=a++b∧(∀x∈a,x≤c)∧(∀x∈b,c≤x)∧∀x∈out.drop k,c≤x
theorem C5Q{r:Nat}{full:Bool}{T:V6}(hl:T.b.aB.length≤1000000)
  (hq:∀S:Slc,At (V1 eI 1 S (Z0 (T.b.aB.map (·.c)))::rbA r full (W3 .i64) T::L1) (Q (.slice S.a S.len S.cap)))(hx:Has L (rbA r full (W3 .i64) T) L1:=by repeat first|with_reducible exact V5|apply V7):
  FW prog 53 #[at0 r] L Q:=by
 refine fun h hs=>B1K (some ⟨r,0,none⟩) h Q ((?_:W (rbA r full (W3 .i64) T::L1) _ _) h (hx.s hs))
 clear hs h hx
 delta B33 az bn ie ix kc ki li nn nw pu vi wi
 refine A4u eI 1 ?_
 refine W.loop (γ:=Nat×List Int) (fun g s=>s.2.1=(g.1:Int)∧g.1≤T.b.aB.length∧g.2=Z0 ((T.b.aB.take g.1).map (·.c))) (fun g s=>rbA r full (W3 .i64) T::V1 eI 1 s.1 g.2::L1) (fun g=>T.b.aB.length-g.1) (0,[]) ⟨rfl,C9 _,by simp[Z0]⟩ ?_ ?_
 ·show Sub _ (rbA r full (W3 .i64) T::V1 eI 1 ⟨none,0,0⟩ []::L1)
  repeat(first|with_reducible exact U3|with_reducible exact U4|refine U5 (by repeat first|with_reducible exact V5|apply V7) ?_|refine U6 ?_)
 rintro⟨i,out⟩ s ⟨hi,cF,iu⟩ K k1 k2
 simp only at hi cF iu
 obtain⟨oS,i0,_⟩:=s
 simp only at hi
 dsimp only
 refine W9 ?_
 refine A1F (g:=fun q R=>rbL r full (W3 .i64) T q R) (fun h R=>A0m.1) fun q=>?_
 refine Y7 (X7 (enc:=y7) (size:=8) (s:=q.sc) (xs:=T.b.aB)) fun cA=>?_
 refine Y7 (X7 (enc:=eI) (size:=1) (s:=oS) (xs:=out)) fun gl=>?_
 refine j0 (b:=r) (i:=3) (v:=q.sc) ?_
 by_cases ah:i<T.b.aB.length
 ·refine Y5 (by rw[hi,cA];exact decide_eq_true (by omega)) ?_
  have aP:T.b.aB[i]? =some T.b.aB[i]:=B0 ah
  have aR:T.b.aB.take (i+1)=T.b.aB.take i++[T.b.aB[i]]:=C3 ah
  generalize T.b.aB[i]=y at aP aR
  have vj:out.length=i:=by rw[iu,A2n,C0,D6];omega
  have nO:out.Pairwise (·≤ ·):=by rw[iu];exact A2m _
  refine A4u eI 1 ?_
  refine B94 (fun a=>C9b y.c out out.length a.1 (if a.1=true then Z0 ((T.b.aB.take (i+1)).map (·.c)) else out)) (fun a=>rbL r full (W3 .i64) T q (V1 eI 1 a.2.1 (if a.1=true then Z0 ((T.b.aB.take (i+1)).map (·.c)) else out)::L1)) (fun K2 aQ=>?_) (fun a iK=>?_)
  ·refine W.loop (γ:=Nat×List Int) (fun g s=>s.2.2.1=(g.1:Int)∧g.1≤out.length∧C9b y.c out g.1 s.1 g.2∧g.2.length≤g.1+1) (fun g s=>rbL r full (W3 .i64) T q (V1 eI 1 oS out::V1 eI 1 s.2.1 g.2::L1)) (fun g=>out.length-g.1) (0,[]) ⟨rfl,C9 _,⟨by rw[T5],by rw[T5];intro x hx;cases hx⟩,C9 _⟩ ?_ ?_
   ·show Sub _ (rbL r full (W3 .i64) T q (V1 eI 1 oS out::V1 eI 1 ⟨none,0,0⟩ []::L1))
    repeat(first|with_reducible exact U3|with_reducible exact U4|refine U5 (by repeat first|with_reducible exact V5|apply V7) ?_|refine U6 ?_)
   rintro⟨k,l⟩ s ⟨hk,jw,hI,gB⟩ K3 m1 m2
   obtain⟨put,lS,k0,_⟩:=s
   simp only at hk jw hI gB
   dsimp only
   by_cases bd:k<out.length
   ·refine Y5 (by rw[hk,gl];exact decide_eq_true (by omega)) ?_
    have lB:out[k]? =some out[k]:=B0 bd
    have jO:out.take (k+1)=out.take k++[out[k]]:=C3 bd
    have pe:out.drop k=out[k]::out.drop (k+1):=E0 bd
    have fI:∀x∈out.drop k,out[k]≤x:=by
     have:=nO
     rw[←J0 k out,I6] at this
     have h2:=this.2.1
     rw[pe,H4] at h2
     intro x hx
     rw[pe] at hx
     rcases D3.1 hx with rfl|hx
     ·exact S7 _
     ·exact h2.1 x hx
    generalize out[k]=w at lB jO pe fI
    refine A1j (fun a=>a.1=(!put &&decide (y.c<w))) (fun K4 dh=>?_) (fun a ha=>?_)
    ·refine A0s (fun e=>?_) (fun e=>U9 (dh _ (by show false=(!put &&decide (y.c<w));rw[e];rfl)))
     refine W9 ?_
     refine j0 (b:=r) (i:=3) (v:=q.sc) ?_
     refine b9 (enc:=y7) (xs:=T.b.aB) (i:=i) ah (fun a ha=>?_) (he:=hi)
     refine A3d (k:=0) (x:=y) (v:=y.c) ha aP ?_
     refine b9 (enc:=eI) (xs:=out) (i:=k) bd (fun a ha=>?_) (he:=hk)
     refine A9y (x:=w) (v:=w) ha lB ?_
     exact U9 (At.sub (dh _ (by show decide (y.c<w)=(!put &&decide (y.c<w));rw[e];rfl)))
    obtain⟨a,_⟩:=a
    simp only at ha
    refine B94 (fun a2=>a2.2.1=(put||a)) (fun a2=>rbL r full (W3 .i64) T q (V1 eI 1 oS out::V1 eI 1 a2.1 (if a=true then l++[y.c] else l)::L1)) (fun K4 dh=>?_) (fun a2 bQ=>?_)
    ·cases a with
     |true=>
      rw[if_pos rfl] at dh
      refine Y5 rfl ?_
      refine W9 ?_
      refine j0 (b:=r) (i:=3) (v:=q.sc) ?_
      refine b9 (enc:=y7) (xs:=T.b.aB) (i:=i) ah (fun a ha=>?_) (he:=hi)
      refine A3d (k:=0) (x:=y) (v:=y.c) ha aP ?_
      refine C1H (enc:=eI) (xs:=l) (s:=lS) y.c (fun s'=>?_) (by omega)
      exact U9 (dh (s',true,()) (by simp)).sub
     |false=>
      rw[if_neg (by simp)] at dh
      exact X1 rfl (U9 (dh (lS,put,()) (by simp)).sub)
    obtain⟨lS2,wN,_⟩:=a2
    simp only at bQ
    subst bQ
    have tO:(if a=true then l++[y.c] else l).length≤k+2:=by
     split
     ·rw[B3];simp only[B7,G1];omega
     ·omega
    have pv:C9b y.c out (k+1) (put||a) ((if a=true then l++[y.c] else l)++[w]):=by
     cases put with
     |false=>
      obtain⟨e1,e2⟩:=hI
      by_cases hc:y.c<w
      ·have ea:a=true:=by rw[ha];simp[hc]
       subst ea
       rw[if_pos rfl]
       refine⟨out.take k,[w],by rw[e1];simp,jO,e2,fun x hx=>?_,fun x hx=>?_⟩
       ·rw[B9.1 hx];omega
       ·have:=fI x (by rw[pe];exact C2 _ hx);omega
      ·have ea:a=false:=by rw[ha];simp[hc]
       subst ea
       rw[if_neg (by simp)]
       refine⟨by rw[e1,jO],fun x hx=>?_⟩
       rw[jO] at hx
       rcases C7.1 hx with hx|hx
       ·exact e2 x hx
       ·rw[B9.1 hx];omega
     |true=>
      obtain⟨a1,b1,e1,e2,e3,e4,e5⟩:=hI
      have ea:a=false:=by rw[ha];simp
      subst ea
      rw[if_neg (by simp)]
      refine⟨a1,b1++[w],by rw[e1];simp,by rw[jO,e2];simp,e3,fun x hx=>?_,fun x hx=>?_⟩
      ·rcases C7.1 hx with hx|hx
       ·exact e4 x hx
       ·rw[B9.1 hx];exact e5 w (by rw[pe];exact B6 ..)
      ·exact e5 x (by rw[pe];exact C2 _ hx)
    have qD:((if a=true then l++[y.c] else l)++[w]).length≤k+1+1:=by
     rcases put with _|_
     ·have:=hI.1
      have h1:l.length≤k:=by rw[this,D6];omega
      rw[B3]
      split
      ·rw[B3];simp only[B7,G1];omega
      ·simp only[B7,G1];omega
     ·have ea:a=false:=by rw[ha];simp
      subst ea
      simp;omega
    generalize(if a=true then l++[y.c] else l)=l2 at tO pv qD⊢
    refine b9 (enc:=eI) (xs:=out) (i:=k) bd (fun a3 hP=>?_) (he:=hk)
    refine A9y (x:=w) (v:=w) hP lB ?_
    refine C1H (enc:=eI) (xs:=l2) (s:=lS2) w (fun s'=>?_) (by omega)
    have hn:=m1 (k+1,l2++[w]) (put||a,s',IntKind.wrap .i64 (k0+1),()) (by simp only;omega) ⟨by simp only[hk];rw[W6 (by omega) (by omega)];rfl,bd,pv,qD⟩
    exact U9 hn.sub
   ·refine X1 (by rw[hk,gl];exact decide_eq_false (by omega)) (U9 (m2 _ _ (U9 ?_)))
    have iN:k=out.length:=by omega
    subst iN
    have bC:l=if put=true then Z0 ((T.b.aB.take (i+1)).map (·.c)) else out:=by
     cases put with
     |false=>rw[if_neg (by simp),hI.1,F5]
     |true=>
      obtain⟨a1,b1,e1,e2,e3,e4,e5⟩:=hI
      rw[F5] at e2
      rw[if_pos rfl,aR,B8,e1]
      exact B1c (by rw[←iu,e2]) e3 e4
    rw[bC] at hI⊢
    exact(aQ (put,lS,k0,()) hI).sub
  obtain⟨put,lS,k0,_⟩:=a
  simp only at iK
  dsimp only
  refine B94 (fun _=>True) (fun a=>rbL r full (W3 .i64) T q (V1 eI 1 a.1 (Z0 ((T.b.aB.take (i+1)).map (·.c)))::L1)) (fun K2 aQ=>?_) (fun a _=>?_)
  ·cases put with
   |true=>
    rw[if_pos rfl]
    exact X1 rfl (U9 (aQ (lS,()) trivial).sub)
   |false=>
    rw[if_neg (by simp)] at iK⊢
    have e2:=iK.2
    rw[F5] at e2
    have e3:out++[y.c]=Z0 ((T.b.aB.take (i+1)).map (·.c)):=by
     rw[aR,B8]
     exact B1c (b:=[]) (by rw[←iu,C1]) e2 (fun x hx=>by cases hx)
    rw[←e3] at aQ
    refine Y5 rfl ?_
    refine W9 ?_
    refine j0 (b:=r) (i:=3) (v:=q.sc) ?_
    refine b9 (enc:=y7) (xs:=T.b.aB) (i:=i) ah (fun a ha=>?_) (he:=hi)
    refine A3d (k:=0) (x:=y) (v:=y.c) ha aP ?_
    refine C1H (enc:=eI) (xs:=out) (s:=lS) y.c (fun s'=>?_) (by omega)
    exact U9 (aQ (s',()) trivial).sub
  obtain⟨fS,_⟩:=a
  dsimp only
  refine W.rb (O:=W3 .i64) T q ?_
  have hn:=k1 (i+1,Z0 ((T.b.aB.take (i+1)).map (·.c))) (fS,IntKind.wrap .i64 (i0+1),()) (by simp only;omega) ⟨by simp only[hi];rw[W6 (by omega) (by omega)];rfl,ah,rfl⟩
  exact U9 hn.sub
 ·refine X1 (by rw[hi,cA];exact decide_eq_false (by omega)) (U9 (k2 _ _ (U9 ?_)))
  rw[D1 (by omega)] at iu
  refine At.rb (O:=W3 .i64) T q ?_
  rw[iu]
  exact(hq oS).sub
end
section
open Go.H Go.Proofs
variable {h h0:Heap} {L L' L1 L2 L3 L4 R:List Asn} {Q:Value→Heap→Prop}
def A8S(B:i6):Prop:=∀x∈B.aB,x.aX.1.size≤9223372036854775800
theorem C7F{b n:Nat}{B:i6}(ag:Y1 B n)(hw:A8S B):∀h R,sat h (A0r b B::R)→Szs B∧∀s∈B.aG,s.bA.ok:=fun h R hs=>by
 obtain⟨au,hk⟩:=C25 h R hs
 obtain⟨p,h1⟩:=A0I.1 hs
 obtain⟨hg,ha⟩:=A6L (h1.re [2,0,1,3,4])
 obtain⟨l,hl,-⟩:=A3V.1 (h1.re [3,0,1,2,4])
 obtain⟨M,hM,h3⟩:=A0j.1 (h1.re [1,0,2,3,4])
 obtain⟨m,h4⟩:=s7.1 h3
 refine⟨⟨?_,?_,?_,hk,A9V ag,by have:=ag.n32;omega,au,hw⟩,?_⟩
 ·refine List.Pairwise.imp (fun{a b} dg=>?_) ha
  rcases dg with dg|dg
  ·exact Int.le_of_lt dg
  ·exact Int.le_of_eq dg.1
 ·exact fun e he=>C4 (A2U (A0o (hg e he))) (by decide)
 ·intro m hm
  have h5:=hl.rel.perm.mem_iff.2 hm
  obtain⟨p,hp,rfl⟩:=E3.1 h5
  have:=hl.small p hp
  rw[←hl.rel.kk p hp] at this
  exact this
 ·intro s hs
  rw[←hM] at hs
  obtain⟨q,hq,rfl⟩:=E3.1 hs
  obtain⟨R',h5⟩:=A9v hq (h4.re [2,0,1])
  obtain⟨ob,ib,h6⟩:=A1Q.1 h5
  obtain⟨b2,h7⟩:=A3a.1 (h6.re [2,0,1])
  obtain⟨m2,xv,-⟩:=A07.1 (h7.re [1,0])
  exact xv
end
section
open Go.H Go.Proofs
theorem B8L{full:Bool}{c:Int}{w:Bool}{T:V6}(h:l8 T.b):∀y∈(A4U full c w T).b.aB,y∈T.b.aB:=fun y hy=>by rw[(B9P h).2.2.2.1] at hy;exact(E6.1 hy).1
theorem A4W{full:Bool}{c code:Int}{T:V6}(h:l8 T.b):∀y∈(A0O full c code T).b.aB,y∈T.b.aB:=fun y hy=>by rw[(B0W h).2.2.2.1] at hy;exact(E6.1 hy).1
theorem C22{full:Bool}{x:Z7}{p:PkI}{T:V6}(h:l8 T.b):∀y∈(A8t full x p T).b.aB,y∈T.b.aB:=by
 unfold A8t
 split
 ·exact A4W h
 ·split
  ·exact fun y hy=>hy
  ·rename_i s hs
   simp only
   generalize q7 s.bA p.kind p.eT p.id (if full=true then 151 else 0)=r
   have h1:l8 (A0S (Y4 x.aG (k9 ⟨s.bA.most,s.bA.taken,r.2.2.2⟩) T.b.aG) T).b:=h.fF
   split
   ·exact A4W (T:=A0S (Y4 x.aG (k9 ⟨s.bA.most,s.bA.taken,r.2.2.2⟩) T.b.aG) T) h1
   ·split
    ·exact fun y hy=>by
      rw[(A88 (T:=u0 x.aG (A31 r.2.1 p.id) (A0S (Y4 x.aG (k9 ⟨s.bA.most,s.bA.taken,r.2.2.2⟩) T.b.aG) T)) h1).aB] at hy
      exact hy
    ·exact fun y hy=>hy
theorem B9Z{full:Bool}{x:Z7}{p:PkI}{T:V6}(h:l8 T.b):∀y∈(A37 full x p T).b.aB,y∈T.b.aB:=by
 unfold A37
 split
 ·exact fun y hy=>hy
 ·split
  ·exact A4W h
  ·exact fun y hy=>by rw[A56] at hy;exact hy
theorem C42{x:Z7}{p:PkI}{T:V6}:(A1u x p T).b.aB=T.b.aB:=by
 unfold A1u
 have:∀(l:List A0L) (T:V6),(l.foldl (l0 x.aG) T).b.aB=T.b.aB:=by
  intro l
  induction l with
  |nil=>intro T;rfl
  |cons s l ih=>intro T;exact(ih _).trans (B0y T s)
 rw[this]
theorem C43{full:Bool}{x:Z7}{p:PkI}{T:V6}(h:l8 T.b):∀y∈(B06 full x p T).b.aB,y∈T.b.aB:=by
 unfold B06
 split
 ·exact C22 h
 ·split
  ·exact B9Z h
  ·split
   ·exact fun y hy=>by rw[C42] at hy;exact hy
   ·split
    ·exact fun y hy=>hy
    ·split
     ·exact fun y hy=>hy
     ·split
      ·exact B8L h
      ·exact A4W h
theorem B7M{full:Bool}{c:Int}{p:PkI}{T:V6}{n:Nat}(h:Y1 T.b n)(cd:(T.b.aB.map (·.c)).Nodup):∀y∈(A1T full c p T).b.aB,y∈T.b.aB∨y.aX.1=p.aX.1:=by
 unfold A1T
 by_cases hb:A6J p T.b=0
 ·rw[if_neg (by simpa using hb),A45]
  obtain⟨eo,gD,oV,jf,jx,kD⟩:=B2o (full:=full) (c:=p.aD) h cd (B8O hb).2
  generalize A1c full p.aD T=T1 at*
  obtain⟨lI,lJ,lK⟩:=B4A (B:=T1.b) (aD:=p.aD) (clean:=p.clean) (aO:=A0n p.props)
  rw[lI,lJ,lK,A56]
  intro y hy
  rcases C7.1 hy with hy|hy
  ·exact .inl (jf y hy).1
  ·rw[B9.1 hy];exact .inr rfl
 ·rw[if_pos (by simpa using hb)]
  exact fun y hy=>.inl hy
theorem C34{full:Bool}{c:Int}{p:PkI}{B:i6}{n:Nat}(h:Y1 B n)(cd:(B.aB.map (·.c)).Nodup)(hw:A8S B)(hp:p.aX.1.size≤9223372036854775800):A8S (j9 full c p B).b:=by
 unfold j9
 split
 ·exact fun y hy=>hw y (C43 (T:=⟨B,[],[]⟩) h.tol8 y hy)
 ·split
  ·intro y hy
   rcases B7M (T:=⟨B,[],[]⟩) h cd y hy with h1|h1
   ·exact hw y h1
   ·rw[h1];exact hp
  ·exact hw
theorem C7a{full:Bool}{c:Int}{B:i6}{n:Nat}(h:Y1 B n)(hw:A8S B):A8S (A8z full c B).b:=fun y hy=>hw y (B8L (T:=⟨B,[],[]⟩) h.tol8 y hy)
theorem C1P{m:MsT}{B:i6}{n:Nat}(h:Y1 B n)(hw:A8S B):A8S (A1r m B).b:=fun y hy=>hw y (by
 unfold A1r at hy
 rw[(B6n (T:=⟨B,[],[]⟩) h.tol8).aB] at hy
 exact hy)
theorem C7b{B:i6}{c:Int}(hw:A8S B):A8S (A5O B c):=fun y hy=>by
 rw[B6z] at hy
 exact hw y (E6.1 hy).1
theorem C1O{B:i6}(hw:A8S B):A8S (A2d B):=by
 rw[A86]
 have:∀(l:List Int) (B:i6),A8S B→A8S (l.foldl A5O B):=by
  intro l
  induction l with
  |nil=>intro B h;exact h
  |cons c l ih=>intro B h;exact ih _ (C7b h)
 exact this _ B hw
theorem C8b:A8S ⟨0,[],[],[],[]⟩:=fun y hy=>by cases hy
def p8(T:V6):Prop:=∀o∈T.outs,A6p o.pk
def A5J(ps:List PkO):Prop:=∀p∈ps,A6p p
theorem B9J{m:MsT}{id:Int}{d:Bool}:A6p (A0G m id d):=by
 refine⟨⟨S7 0,(by show(0:Int)<256;decide)⟩,fun c hc=>(by cases hc),C9 _,?_⟩
 show(C1X _).length≤_
 unfold C1X
 split<;>simp
theorem A76{k id c:Int}(h:0≤c∧c<256):A6p (l6 k id c):=⟨h,fun c hc=>(by cases hc),C9 _,C9 _⟩
theorem C8z{s:Bool}:A6p (A2b s):=⟨⟨S7 0,(by show(0:Int)<256;decide)⟩,fun c hc=>(by cases hc),C9 _,C9 _⟩
theorem A2t:A5J []:=fun p hp=>by cases hp
theorem A5J.cons{p:PkO}{ps:List PkO}(h:A6p p)(hs:A5J ps):A5J (p::ps):=fun q hq=>by
 rcases D3.1 hq with rfl|hq
 ·exact h
 ·exact hs q hq
theorem A5J.app{ps qs:List PkO}(h:A5J ps)(hs:A5J qs):A5J (ps++qs):=fun q hq=>by
 rcases C7.1 hq with hq|hq
 ·exact h q hq
 ·exact hs q hq
theorem C2H:∀(w:List MsT) (o:b7),A5J (goF o w).2
 |[],o=>A2t
 |m::w,o=>by
  unfold goF
  split
  ·exact A2t
  ·split
   ·exact A5J.cons B9J (C2H w _)
   ·exact A5J.cons B9J (C2H w _)
theorem A7i{o:b7}:A5J (Z6 o).2:=by
 unfold Z6
 split
 ·exact C2H _ _
 ·exact A2t
theorem B8D{o:b7}{m:MsT}:A5J (Z1 o m).1.2:=by
 unfold Z1
 split
 ·exact A2t
 ·split
  ·exact A2t
  ·split
   ·exact A2t
   ·exact A7i
theorem C6q{o:b7}{k id c:Int}:A5J (A09 o k id c).1.2:=by
 unfold A09
 split
 ·exact A2t
 ·split
  ·exact A2t
  ·split
   ·split
    ·exact A2t
    ·exact A7i
   ·split
    ·split
     ·exact A2t
     ·split
      ·exact A7i
      ·exact A5J.cons (A76 (by decide)) A7i
    ·split
     ·exact A2t
     ·exact A7i
theorem C2I{o:b7}{most:Int}:A5J (A0z o most).2:=by
 unfold A0z
 refine A5J.app (fun p hp=>?_) A7i
 obtain⟨f,hf,rfl⟩:=E3.1 hp
 unfold A1E
 split
 ·exact A76 (by decide)
 ·exact B9J
theorem p8.send{T:V6}{o:u5}(h:p8 T)(ho:A6p o.pk):p8 (A0N o T):=fun q hq=>by
 rcases C7.1 hq with hq|hq
 ·exact h q hq
 ·rw[B9.1 hq];exact ho
theorem p8.sendAll{T:V6}{id:Int}{ps:List PkO}(h:p8 T)(hp:A5J ps):p8 (u0 id ps T):=fun q hq=>by
 rcases C7.1 hq with hq|hq
 ·exact h q hq
 ·unfold A2v at hq
  obtain⟨x,_,hx⟩:=T8.1 hq
  obtain⟨p,rR,rfl⟩:=E3.1 hx
  exact hp p rR
theorem p8.out{T:V6}{id:Int}{f:b7→b7×List PkO}(h:p8 T)(hf:∀o,A5J (f o).2):p8 (A01 id f T):=by
 unfold A01
 split
 ·exact h
 ·rename_i s _
  exact p8.sendAll (T:=A0S (Y4 id (Y9 (f s.out).1) T.b.aG) T) h (hf s.out)
theorem p8.fold{α:Type}{f:V6→α→V6}(hf:∀T x,p8 T→p8 (f T x)):∀(l:List α) {T:V6},p8 T→p8 (l.foldl f T)
 |[],T,h=>h
 |x::l,T,h=>p8.fold hf l (hf T x h)
theorem p8.hand{T:V6}{m:MsT}(h:p8 T):p8 (A0Q m T):=by
 unfold A0Q
 refine p8.fold (fun T x hT=>p8.out hT fun o=>B8D) _ ?_
 unfold A2i
 split
 ·exact h
 ·exact h
theorem p8.eO{T:V6}{m:MsT}(h:p8 T):p8 (A4d m T):=p8.hand h
theorem p8.fin{T:V6}{full:Bool}{c:Int}{w:Bool}(h:p8 T):p8 (A4U full c w T):=by
 unfold A4U
 split
 ·exact h
 ·simp only
  split
  ·exact p8.eO (by exact h)
  ·exact h
theorem p8.refuse{T:V6}{full:Bool}{c code:Int}(h:p8 T)(hc:0≤code∧code<256):p8 (A0O full c code T):=p8.fin (p8.send h (A76 hc))
theorem C4a{s:y9}{k q id why:Int}(hw:0≤why∧why<256):(0≤(q7 s k q id why).2.2.1∧(q7 s k q id why).2.2.1<256)∧A5J (A31 (q7 s k q id why).2.1 id):=by
 have one:∀{a c:Int},0≤c∧c<256→A5J (A31 (some (a,c)) id):=fun hc=>A5J.cons (A76 hc) A2t
 have non:A5J (A31 none id):=A2t
 unfold q7
 split
 ·exact⟨by constructor<;>(try dsimp only)<;>decide,non⟩
 ·split
  ·exact⟨by constructor<;>(try dsimp only)<;>decide,non⟩
  ·split
   ·exact⟨by constructor<;>(try dsimp only)<;>decide,one (by split<;>constructor<;>(try dsimp only)<;>decide)⟩
   ·split
    ·exact⟨by constructor<;>(try dsimp only)<;>decide,one hw⟩
    ·split
     ·exact⟨by constructor<;>(try dsimp only)<;>decide,one (by constructor<;>(try dsimp only)<;>decide)⟩
     ·split
      ·exact⟨by constructor<;>(try dsimp only)<;>decide,non⟩
      ·exact⟨by constructor<;>(try dsimp only)<;>decide,one hw⟩
theorem C49{o:b7}{k id c:Int}:0≤(A09 o k id c).2∧(A09 o k id c).2<256:=by
 unfold A09
 split
 ·constructor<;>(try dsimp only)<;>decide
 ·split
  ·constructor<;>(try dsimp only)<;>decide
  ·split
   ·split<;>constructor<;>(try dsimp only)<;>decide
   ·split
    ·split
     ·constructor<;>(try dsimp only)<;>decide
     ·split<;>constructor<;>(try dsimp only)<;>decide
    ·split<;>constructor<;>(try dsimp only)<;>decide
theorem C6n{full:Bool}{x:Z7}{p:PkI}{T:V6}(h:p8 T):p8 (A8t full x p T):=by
 unfold A8t
 split
 ·exact p8.refuse h (by decide)
 ·split
  ·exact h
  ·rename_i s hs
   simp only
   have hr:=C4a (s:=s.bA) (k:=p.kind) (q:=p.eT) (id:=p.id) (why:=if full=true then 151 else 0) (by split<;>decide)
   generalize q7 s.bA p.kind p.eT p.id (if full=true then 151 else 0)=r at hr
   split
   ·exact p8.refuse (T:=A0S (Y4 x.aG (k9 ⟨s.bA.most,s.bA.taken,r.2.2.2⟩) T.b.aG) T) h hr.1
   ·have h2:=p8.sendAll (T:=A0S (Y4 x.aG (k9 ⟨s.bA.most,s.bA.taken,r.2.2.2⟩) T.b.aG) T) (id:=x.aG) h hr.2
    split
    ·exact p8.eO h2
    ·exact h2
theorem C2J{full:Bool}{x:Z7}{p:PkI}{T:V6}(h:p8 T):p8 (A37 full x p T):=by
 unfold A37
 split
 ·exact h
 ·split
  ·exact p8.refuse h C49
  ·exact p8.out h fun o=>C6q
theorem C5a{E:List Ent}{id q:Int}{f:B4p}:0≤(A2P E id f q).1∧(A2P E id f q).1<256:=by
 unfold A2P
 split
 ·exact⟨(by show(0:Int)≤143;decide),(by show(143:Int)<256;decide)⟩
 ·split
  ·exact⟨(by show(0:Int)≤155;decide),(by show(155:Int)<256;decide)⟩
  ·split
   ·exact⟨(by show(0:Int)≤0;decide),(by show(0:Int)<256;decide)⟩
   ·split
    ·exact⟨(by show(0:Int)≤151;decide),(by show(151:Int)<256;decide)⟩
    ·exact⟨(by show(0:Int)≤0;decide),(by show(0:Int)<256;decide)⟩
theorem B7g{id:Int}:∀(l:List A0L) (E:List Ent),(∀c∈(l9 id l E).2,0≤c∧c<256)∧(l9 id l E).2.length=l.length
 |[],E=>⟨fun c hc=>(by cases hc),rfl⟩
 |s::l,E=>by
  unfold l9
  have ih:=B7g (id:=id) l (A2P E id s.1 s.2.1).2
  refine⟨fun c hc=>?_,by simp only[B7];rw[ih.2]⟩
  rcases D3.1 hc with rfl|hc
  ·split
   ·rename_i h0
    have:=B3R h0
    omega
   ·exact C5a
  ·exact ih.1 c hc
theorem B62{id:Int}:∀(l:List B4p) (E:List Ent),(∀c∈(A0Z id l E).2,0≤c∧c<256)∧(A0Z id l E).2.length=l.length
 |[],E=>⟨fun c hc=>(by cases hc),rfl⟩
 |s::l,E=>by
  unfold A0Z
  have ih:=B62 (id:=id) l (A1S E id s)
  refine⟨fun c hc=>?_,by simp only[B7];rw[ih.2]⟩
  rcases D3.1 hc with rfl|hc
  ·split<;>decide
  ·exact ih.1 c hc
theorem C6p{k id:Int}{cs:List Int}(h:∀c∈cs,0≤c∧c<256)(hl:cs.length≤1000000):A6p (A03 k id cs):=⟨⟨S7 0,(by show(0:Int)<256;decide)⟩,h,hl,C9 _⟩
theorem p8.sub{x:Z7}{s:A0L}{T:V6}(h:p8 T):p8 (l0 x.aG T s):=by
 unfold l0
 split
 ·exact h
 ·exact p8.fold (fun T m hT=>p8.out hT fun o=>B8D) _ h
theorem C7B{full:Bool}{x:Z7}{p:PkI}{T:V6}(h:p8 T)(hs:p.aH.length≤100)(hf:p.bO.length≤100):p8 (B06 full x p T):=by
 unfold B06
 split
 ·exact C6n h
 ·split
  ·exact C2J h
  ·split
   ·unfold A1u
    have ha:=B7g (id:=x.aG) p.aH T.b.aH
    exact p8.fold (fun T s hT=>p8.sub hT) _ (p8.send (T:=A1z (l9 x.aG p.aH T.b.aH).1 T) h (C6p ha.1 (by omega)))
   ·split
    ·unfold A1L
     have ha:=B62 (id:=x.aG) p.bO T.b.aH
     exact p8.send (T:=A1z (A0Z x.aG p.bO T.b.aH).1 T) h (C6p ha.1 (by omega))
    ·split
     ·exact p8.send h (A76 (by decide))
     ·split
      ·exact p8.fin h
      ·exact p8.refuse h (by decide)
theorem C6M{p:PkI}{B:i6}:0≤A6J p B∧A6J p B<256:=by
 unfold A6J
 repeat' split
 all_goals decide
theorem C1c{full:Bool}{c:Int}{p:PkI}{T:V6}(h:p8 T):p8 (A1T full c p T):=by
 unfold A1T
 split
 ·exact p8.send h (A76 C6M)
 ·rw[A45]
  have hk:p8 (A1c full p.aD T):=by
   unfold A1c
   split
   ·unfold A3q
    split
    ·exact h
    ·exact p8.refuse h (by decide)
   ·exact h
  exact p8.out (p8.send (by exact hk) C8z) fun o=>C2I
theorem A9P{B:i6}:p8 ⟨B,[],[]⟩:=fun o ho=>(by cases ho)
theorem C2G{full:Bool}{c:Int}{p:PkI}{B:i6}(hs:p.aH.length≤100)(hf:p.bO.length≤100):p8 (j9 full c p B):=by
 unfold j9
 split
 ·exact C7B A9P hs hf
 ·split
  ·exact C1c A9P
  ·exact p8.send (T:=⟨B,[],[]⟩) (o:=⟨c,l6 14 0 130,true⟩) A9P (A76 (by decide))
theorem C6o{full:Bool}{c:Int}{B:i6}:p8 (A8z full c B):=p8.fin A9P
theorem C1b{m:MsT}{B:i6}:p8 (A1r m B):=p8.hand A9P
variable {h h0:Heap} {L L' L1 L2 L3 R:List Asn} {Q:Value→Heap→Prop}
def evP(x:EvQ):PkI:=pkI x.p.pk (x.p.pl.take 80) (x.p.sl.take 80) (x.p.fl.take 80)
noncomputable def evB(x:EvQ)(B:i6):V6:=
 if Int.tmod x.cK 6=1∨Int.tmod x.cK 6= -1 then A8z x.full x.conn B
 else if Int.tmod x.cK 6=2∨Int.tmod x.cK 6= -2 then A1r x.m B
 else if Int.tmod x.cK 6=3∨Int.tmod x.cK 6= -3 then⟨A2d B,[],[]⟩
 else j9 x.full x.conn (evP x) B
theorem C75{c:Int}(h:(Lit.int .i64 c).wf=true): -9223372036854775808≤c∧c≤9223372036854775807:=by
 simp[Lit.wf,IntKind.min,IntKind.max,IntKind.bits,IntKind.signed] at h
 omega
theorem C6u{x:EvQ}{B:i6}{n:Nat}{hp:Heap}(hx:EvG 1048576 hp x)(h:Y1 B n)(cd:(B.aB.map (·.c)).Nodup)(hk:B.kept.length≤64)(hw:A8S B):
  Y1 (evB x B).b (n+1)∧A8S (evB x B).b∧(evB x B).outs.length≤3300000∧(evB x B).aT.length≤3300000∧p8 (evB x B):=by
 have fe:(evP x).aH.length≤100:=C4 (K7 _ _) (by decide)
 have en:(evP x).bO.length≤100:=C4 (K7 _ _) (by decide)
 have eY:(evP x).aX.1.size≤1048576:=hx.p.aX
 unfold evB
 split
 ·exact⟨(B58 h).1.mono (S8 n),C7a h hw,(B58 h).2.1,(B58 h).2.2,C6o⟩
 ·split
  ·exact⟨(A9u h).1.mono (S8 n),C1P h hw,(A9u h).2.1,(A9u h).2.2,C1b⟩
  ·split
   ·exact⟨(C0s h).mono (S8 n),C1O hw,C9 _,C9 _,A9P⟩
   ·have h1:=A5p (full:=x.full) (c:=x.conn) (p:=evP x) h cd hk fe (C4 eY (by decide)) (C75 hx.conn)
    exact⟨h1.1,C34 h cd hw (C4 eY (by decide)),h1.2.1,h1.2.2,C2G fe en⟩
theorem B7L{m:MsT}{B:i6}:(A1r m B).aT=[]:=by
 unfold A1r
 rw[A74]
theorem C6l{b r n:Nat}{full0:Bool}{T:V6}{x:EvQ}(ht:TP h0)(ag:Y1 T.b n)(hn:n≤999999)(hw:A8S T.b)(jM:EvG 1048576 h0 x)
  (hq:∀full,At (A0r b (evB x T.b).b::rbA r full (W3 .i64) (evB x T.b)::old h0::L3) (Q (.bool true)))
  (hx:Has L (A0r b T.b) L1:=by repeat first|with_reducible exact V5|apply V7)(hy:Has L1 (rbA r full0 (W3 .i64) T) L2:=by repeat first|with_reducible exact V5|apply V7)(hz:Has L2 (old h0) L3:=by repeat first|with_reducible exact V5|apply V7):
  FW prog 22 #[at0 b,at0 r,.agg (B8I x).toArray] L Q:=by
 have hp:=jM.p
 have hr:=hp.rows
 obtain⟨cK,conn,⟨⟨vk,vd,vr,vq,vi,vt,vp,vc,s8,s9,cz,cy,cn,cq,cR,cX,cV,cT,dx,cv,cw,vu,ck,cg,dq,dp,⟨⟩⟩,cl,pl,wl,sl,fl⟩,full,⟨mt,mp,mq,mr,mg⟩⟩:=x
 dsimp only at hr hp
 refine fun h hs=>B08 (some ⟨b,0,none⟩) (some ⟨r,0,none⟩) (cK,conn,vk,vd,vr,vq,vi,vt,vp,vc,s8,s9,cz,cy,cn,cq,cR,cX,cV,cT,dx,cv,cw,vu,ck,cg,dq,dp,full,mt,mp,mq,mr,mg,()) h Q ((?_:W (A0r b T.b::rbA r full0 (W3 .i64) T::old h0::L3) _ _) h ((hx.cQ hy hz).s hs))
 clear hs h hx hy hz
 delta B2n ad az bn cb cc cx g2 A1h g7 ie jb jc ji kc nn nw pu sn sw vi vs vz
 refine Y7 (fun h R hs=>C7F (b:=b) ag hw h R hs) fun hsz=>?_
 refine Y7 (fun h R hs=>C25 (b:=b) (B:=T.b) h R hs) fun au=>?_
 obtain⟨jW,pX,tG,tA,uf⟩:=C6u jM ag au.1 au.2 hw
 obtain⟨T9,aK⟩:∃T9,T9=evB ⟨cK,conn,⟨(vk,vd,vr,vq,vi,vt,vp,vc,s8,s9,cz,cy,cn,cq,cR,cX,cV,cT,dx,cv,cw,vu,ck,cg,dq,dp,()),cl,pl,wl,sl,fl⟩,full,(mt,mp,mq,mr,mg)⟩ T.b:=⟨_,rfl⟩
 rw[←aK] at hq jW pX tG tA uf
 unfold evB evP at aK
 dsimp only at aK
 refine Y8 fun x1=>?_
 refine W.cells (b:=x1) #[.int .i64 cK,.int .i64 conn,.int .i64 vk,.bool vd,.bool vr,.int .i64 vq,.int .i64 vi,.string vt,.string vp,.int .u8 vc,.slice s8.a s8.len s8.cap,.slice s9.a s9.len s9.cap,.string cz,.bool cy,.int .i64 cn,.bool cq,.string cR,.string cX,.int .i64 cV,.bool cT,.slice dx.a dx.len dx.cap,.bool cv,.bool cw,.string vu,.string ck,.bool cg,.slice dq.a dq.len dq.cap,.slice dp.a dp.len dp.cap,.bool full,.string mt,.string mp,.int .i64 mq,.bool mr,.string mg] ?_
 refine Y8 fun x2=>?_
 refine W.load (b:=x1) (v:=cK) ?_
 refine A1t ?_ (by decide)
 generalize Int.tmod cK 6=w6 at aK⊢
 refine A1j (fun a=>a.1=decide (w6=1∨w6= -1)) (fun K hK=>A0s (fun e=>U9 (hK _ (by simp only[Q0] at e;simp[e]))) (fun e=>U9 (hK _ (by simp only[H9,ne_eq] at e;by_cases e2:w6= -1<;>simp[e,e2])))) (fun a ha=>?_)
 refine C7M (X:=Slc×Slc×Bool) (fun _ _=>True) (fun g _=>cells x2 #[.slice g.1.a g.1.len g.1.cap,.slice g.2.1.a g.2.1.len g.2.1.cap]::W3 .u8 g.1 T9.outs::V1 Z5 5 g.2.1 T9.aT::A0r b T9.b::rbA r g.2.2 (W3 .i64) T9::old h0::L3) (fun K hK=>?_) (fun g _ _=>?_)
 ·clear hq jW pX tG tA uf
  by_cases h1:w6=1∨w6= -1
  ·rw[if_pos h1] at aK
   refine Y5 (by rw[ha];exact decide_eq_true h1) ?_
   refine W.load (b:=x1) (v:=conn) ?_
   refine W.load (b:=x1) (v:=full) ?_
   refine j2 (C7H (b:=b) ht ag (fun so sp=>At.un (x:=(so,sp,())) ?_))
   refine A0u (b:=x2) ?_
   refine W.load (b:=x1) (v:=conn) ?_
   refine W.load (b:=x1) (v:=full) ?_
   refine Z9 (C7n (T:=T) (full0:=full0) ag hsz.1 (At.bD ?_))
   subst aK
   exact U9 (hK (so,sp,full) () trivial).sub
  rw[if_neg h1] at aK
  refine X1 (by rw[ha];exact decide_eq_false h1) ?_
  clear ha h1
  refine A1j (fun a=>a.1=decide (w6=2∨w6= -2)) (fun K hK=>A0s (fun e=>U9 (hK _ (by simp only[Q0] at e;simp[e]))) (fun e=>U9 (hK _ (by simp only[H9,ne_eq] at e;by_cases e2:w6= -2<;>simp[e,e2])))) (fun a ha=>?_)
  by_cases h1:w6=2∨w6= -2
  ·rw[if_pos h1] at aK
   refine A1s (by rw[ha];exact decide_eq_true h1) ?_
   refine X9 (A8p (b:=x1) (i:=29) (v:=(mt,mp,mq,mr,mg,())) ?_)
   refine X9 (j2 (C3a (b:=b) (m:=(mt,mp,mq,mr,mg)) ht ag (C4 jM.cD (by decide)) (fun so=>At.un (x:=so) ?_)))
   refine X9 (W.store (b:=x2) (cs':=#[.slice so.a so.len so.cap,.slice none 0 0]) ?_)
   refine X9 (A8p (b:=x1) (i:=29) (v:=(mt,mp,mq,mr,mg,())) ?_)
   refine X9 (Z9 (C2g (T:=T) (full0:=full0) (m:=(mt,mp,mq,mr,mg)) ag hsz.1 (C4 jM.cD (by decide)) (At.bD ?_)))
   refine j1 ?_
   refine A4u Z5 5 ?_
   have qn:=B7L (m:=(mt,mp,mq,mr,mg)) (B:=T.b)
   rw[←aK] at qn⊢
   rw[qn] at hK
   exact U9 (hK (so,p6,false) () trivial).sub
  rw[if_neg h1] at aK
  refine o8 (by rw[ha];exact decide_eq_false h1) ?_
  clear ha h1
  refine X9 ?_
  refine A1j (fun a=>a.1=decide (w6=3∨w6= -3)) (fun K hK=>A0s (fun e=>U9 (hK _ (by simp only[Q0] at e;simp[e]))) (fun e=>U9 (hK _ (by simp only[H9,ne_eq] at e;by_cases e2:w6= -3<;>simp[e,e2])))) (fun a ha=>?_)
  by_cases h1:w6=3∨w6= -3
  ·rw[if_pos h1] at aK
   refine X9 (A1s (by rw[ha];exact decide_eq_true h1) ?_)
   refine X9 (Z9 (C28 (b:=b) ht ag (At.bD ?_)))
   refine X9 (Z9 (C2c (T:=T) (full0:=full0) ag hsz.1 (At.bD ?_)))
   refine j1 (j1 ?_)
   subst aK
   refine A4u Z5 5 ?_
   refine W.sub (L':=V1 Z5 5 ⟨none,0,0⟩ []::cells x2 #[.slice none 0 0,.slice none 0 0]::A0r b (A2d T.b)::rbA r false (W3 .i64) ⟨A2d T.b,[],[]⟩::old h0::L3) ?_
   exact U9 (fun h hs=>hK (p6,p6,false) () trivial h ((B18 (k:=.u8) hs).re [2,0,1,3,4,5]))
  rw[if_neg h1] at aK
  refine X9 (o8 (by rw[ha];exact decide_eq_false h1) ?_)
  clear ha h1
  refine X9 (A8p (b:=x1) (i:=2) (v:=(vk,vd,vr,vq,vi,vt,vp,vc,s8,s9,cz,cy,cn,cq,cR,cX,cV,cT,dx,cv,cw,vu,ck,cg,dq,dp,())) ?_)
  obtain⟨cc,gd⟩:∃cc,cc=IntKind.wrap .i64 vc:=⟨_,rfl⟩
  have xQ:vc=cc:=by
   have:=hp.code
   simp[Lit.wf,IntKind.min,IntKind.max,IntKind.bits,IntKind.signed] at this
   rw[gd,W6 (by omega) (by omega)]
  refine X9 (Z9 (C4y hr gd (fun c1 c2 p1 p2 w1 w2 q1 q2 f1 f2=>At.bD (x:=((vk,vd,vr,vq,vi,vt,vp,vc,c1,p1,cz,cy,cn,cq,cR,cX,cV,cT,w1,cv,cw,vu,ck,cg,q1,f1,()),(vk,vd,vr,vq,vi,vt,vp,cc,c2,p2,cz,cy,cn,cq,cR,cX,cV,cT,w2,cv,cw,vu,ck,cg,q2,f2,()),())) ?_)))
  clear gd
  subst xQ
  have oJ:∀{α:Type} (l:List α),(l.take 80).length≤100:=fun l=>C4 (K7 _ _) (by decide)
  have xl:C3d (vk,vd,vr,vq,vi,vt,vp,vc,c1,p1,cz,cy,cn,cq,cR,cX,cV,cT,w1,cv,cw,vu,ck,cg,q1,f1,()) (pl.take 80) (sl.take 80) (fl.take 80):=⟨C4 hp.cD (by decide),C4 hp.aD (by decide),C4 hp.aX (by decide),oJ _,oJ _,fun s hs=>C4 (hp.aH s (List.mem_of_mem_take hs)) (by decide),oJ _,fun f hf=>C4 (hp.eU f (List.mem_of_mem_take hf)) (by decide)⟩
  have xh:C6Z (vk,vd,vr,vq,vi,vt,vp,vc,c2,p2,cz,cy,cn,cq,cR,cX,cV,cT,w2,cv,cw,vu,ck,cg,q2,f2,()) (pl.take 80) (sl.take 80) (fl.take 80):=⟨C4 hp.cD (by decide),C4 hp.aD (by decide),C4 hp.aX (by decide),oJ _,oJ _,fun s hs=>C4 (hp.aH s (List.mem_of_mem_take hs)) (by decide),oJ _⟩
  have bN:=C75 jM.conn
  have e1:j9 full conn (pkI (vk,vd,vr,vq,vi,vt,vp,vc,c1,p1,cz,cy,cn,cq,cR,cX,cV,cT,w1,cv,cw,vu,ck,cg,q1,f1,()) (pl.take 80) (sl.take 80) (fl.take 80)) T.b=T9:=aK.symm
  have e2:j9 full conn (pkI (vk,vd,vr,vq,vi,vt,vp,vc,c2,p2,cz,cy,cn,cq,cR,cX,cV,cT,w2,cv,cw,vu,ck,cg,q2,f2,()) (pl.take 80) (sl.take 80) (fl.take 80)) T.b=T9:=aK.symm
  have ig:n≤1000000:=by omega
  clear aK hr hp jM
  refine X9 (Y8 fun pJ=>?_)
  refine X9 (Y8 fun lQ=>?_)
  refine X9 (A0u (b:=pJ) ?_)
  refine X9 (A0u (b:=lQ) ?_)
  refine W.cells (b:=pJ) #[.int .i64 vk,.bool vd,.bool vr,.int .i64 vq,.int .i64 vi,.string vt,.string vp,.int .u8 vc,.slice c1.a c1.len c1.cap,.slice p1.a p1.len p1.cap,.string cz,.bool cy,.int .i64 cn,.bool cq,.string cR,.string cX,.int .i64 cV,.bool cT,.slice w1.a w1.len w1.cap,.bool cv,.bool cw,.string vu,.string ck,.bool cg,.slice q1.a q1.len q1.cap,.slice f1.a f1.len f1.cap] ?_
  refine W.cells (b:=lQ) #[.int .i64 vk,.bool vd,.bool vr,.int .i64 vq,.int .i64 vi,.string vt,.string vp,.int .i64 vc,.slice c2.a c2.len c2.cap,.slice p2.a p2.len p2.cap,.string cz,.bool cy,.int .i64 cn,.bool cq,.string cR,.string cX,.int .i64 cV,.bool cT,.slice w2.a w2.len w2.cap,.bool cv,.bool cw,.string vu,.string ck,.bool cg,.slice q2.a q2.len q2.cap,.slice f2.a f2.len f2.cap] ?_
  refine X9 (W.load (b:=x1) (v:=conn) ?_)
  refine X9 (u7 (b:=pJ) (v:=(vk,vd,vr,vq,vi,vt,vp,vc,c1,p1,cz,cy,cn,cq,cR,cX,cV,cT,w1,cv,cw,vu,ck,cg,q1,f1,())) ?_)
  refine X9 (W.load (b:=x1) (v:=full) ?_)
  refine X9 (j2 (A9X (b:=b) (n:=n) (B:=T.b) (c:=conn) (p:=(vk,vd,vr,vq,vi,vt,vp,vc,c1,p1,cz,cy,cn,cq,cR,cX,cV,cT,w1,cv,cw,vu,ck,cg,q1,f1,())) (pl:=pl.take 80) (sl:=sl.take 80) (fl:=fl.take 80) (full:=full) ht ag ig xl bN (fun so sp=>At.un (x:=(so,sp,())) ?_)))
  rw[e1]
  refine X9 (A0u (b:=x2) ?_)
  refine X9 (W.load (b:=x1) (v:=conn) ?_)
  refine X9 (u7 (b:=lQ) (v:=(vk,vd,vr,vq,vi,vt,vp,vc,c2,p2,cz,cy,cn,cq,cR,cX,cV,cT,w2,cv,cw,vu,ck,cg,q2,f2,())) ?_)
  refine X9 (W.load (b:=x1) (v:=full) ?_)
  refine X9 (Z9 (C4s (T:=T) (n:=n) (full:=full) (full0:=full0) (c:=conn) (p:=(vk,vd,vr,vq,vi,vt,vp,vc,c2,p2,cz,cy,cn,cq,cR,cX,cV,cT,w2,cv,cw,vu,ck,cg,q2,f2,())) (pl:=pl.take 80) (sl:=sl.take 80) (fl:=fl.take 80) ag ig hsz.1 hsz.2 bN xh (At.bD ?_)))
  rw[e2]
  refine j1 (j1 ?_)
  exact U9 (hK (so,sp,full) () trivial).sub
 ·obtain⟨gs,gp,gf⟩:=g
  dsimp only
  refine X9 (W.load (b:=x2) (v:=gs) ?_)
  refine X9 (W9 ?_)
  refine A1F (g:=fun q R=>rbL r gf (W3 .i64) T9 q R) (fun h R=>A0m.1) fun q=>?_
  refine X9 (j0 (b:=r) (i:=5) (v:=q.so) ?_)
  refine W.sub (L':=W3 .u8 gs T9.outs::W3 .i64 q.so T9.outs::cells x2 #[.slice gs.a gs.len gs.cap,.slice gp.a gp.len gp.cap]::V1 Z5 5 gp T9.aT::A0r b T9.b::cells r (rbC q gf)::V1 Z5 5 q.sp T9.aT::V1 y7 8 q.sc T9.b.aB::A0x q.tb T9.b.last T9.b.aG::A0l q.sb T9.b.aH::A1W q.kb 64 T9.b.kept::old h0::L3) ?_
  refine X9 (j2 (C1M (v:=.bool true) (fun h1 aa Q1 iJ=>C4k (s1:=gs) (s2:=q.so) (os:=T9.outs) (C3C aa) (C3C (aa.re [1,0])) (C4 tG (by decide)) uf iJ) (At.un (x:=true) ?_)))
  refine A1s rfl ?_
  refine X9 (W.load (b:=x2) (v:=gp) ?_)
  refine X9 (W9 ?_)
  refine X9 (j0 (b:=r) (i:=6) (v:=q.sp) ?_)
  refine W.sub (L':=V1 Z5 5 gp T9.aT::V1 Z5 5 q.sp T9.aT::W3 .i64 q.so T9.outs::A0r b T9.b::cells r (rbC q gf)::V1 y7 8 q.sc T9.b.aB::A0x q.tb T9.b.last T9.b.aG::A0l q.sb T9.b.aH::A1W q.kb 64 T9.b.kept::old h0::L3) ?_
  refine X9 (j2 (C1M (v:=.bool true) (fun h1 aa Q1 iJ=>B5s (s1:=gp) (s2:=q.sp) (ms:=T9.aT) (aa.aN (Enc.len (enc:=Z5))) ((aa.re [1,0]).aN (Enc.len (enc:=Z5))) (C4 tA (by decide)) iJ) (At.un (x:=true) ?_)))
  refine j1 (U9 ?_)
  refine At.rb (O:=W3 .i64) T9 q ?_
  exact(hq gf).sub
end
section
open Go.H Go.Proofs
variable {h h0:Heap} {L L' L1 L2 R:List Asn} {Q:Value→Heap→Prop}
theorem C82{γ β:Type}{enc:γ→D0r}{size n:Nat}{N:Int}{s s2:Slc}{xs:List γ}{f:Slc→HM β}{Q':β→Heap→Prop}(hr:e8 enc size h0 s xs)(hN:N=(n:Int))(hw:∀s',e8 enc size h0 s' (xs.take n)→W L (f s') Q')(hs:s2=s:=by rfl):
  W L (HM.bind (HM.slice s none (some (if N<(((s2.len:Nat):Int):Int) then N else((s2.len:Nat):Int))) none size) f) Q':=by
 subst hs hN
 have hl:=hr.1
 by_cases jF:n<xs.length
 ·rw[if_pos (by omega)]
  exact C3Z (n:=n) hr (by omega) hw
 ·rw[if_neg (by omega)]
  have e:xs.take n=xs.take xs.length:=by rw[D1 (by omega),F5]
  refine C3Z (n:=xs.length) hr (D9 _) (fun s' dy=>hw s' (by rw[e];exact dy)) (by rw[hl])
end
section
open Go.H Go.Proofs
variable {h h0:Heap} {L L' L1 L2 L3 R:List Asn} {Q:Value→Heap→Prop}
theorem C3N{γ:Type}{enc:γ→D0r}{size:Nat}{s:Slc}{xs:List γ}[Enc enc size](hs:sat h L)(hx:Has L (V1 enc size s xs) L'):e8 enc size h s xs:=(hx.s hs).aN (Enc.len (enc:=enc))
theorem C0y{r:Nat}{E:List Ent}(hl:E.length≤10000)(hq:∀S:Slc,At (V1 eS 1 S (A0D E)::A0l r E::L1) (Q (.slice S.a S.len S.cap)))(hx:Has L (A0l r E) L1:=by repeat first|with_reducible exact V5|apply V7):
  FW prog 52 #[at9 r] L Q:=fun h hs=>B7y hl (hx.s hs) fun S h' af=>hq S h' af
theorem C83{α:Type}{m:HM α}{Q':α→Heap→Prop}{b:Nat}{last:Int}{S:Slc}{M l1 l2:List (Nat×W7)}{p:Nat×W7}(hM:M=l1++p::l2)
  (hw:∀ob ib,W (cells p.1 (rqC p.2 ob ib)::a7 ob p.2.out::A05 ib p.2.bA::A2K b last (M.map (·.2)) p.2 p.1::L3) m Q')
  (h1:Has L (cells b #[.int .i64 last,.slice S.a S.len S.cap]) L1:=by repeat first|with_reducible exact V5|apply V7)(h2:Has L1 (V1 eQ 1 S (M.map (·.1))) L2:=by repeat first|with_reducible exact V5|apply V7)(h3:Has L2 (b8 (fun p=>rsA p.1 p.2) M) L3:=by repeat first|with_reducible exact V5|apply V7):W L m Q':=fun h hs=>by
 have h4:=(h1.cQ h2 h3).s hs
 subst hM
 obtain⟨ob,ib,h5⟩:=B5v h4
 exact hw ob ib h h5
theorem C6t{E:List Ent}:(A0D E).length≤E.length:=(A78 _ _ rfl).2.1
theorem C4A{A:List W7}(hn:(A.map (·.aD)).Nodup){s:W7}(hs:s∈A):ofS s.aD A=some s:=by
 cases ho:ofS s.aD A with
 |none=>
  have:=E7.1 ho s hs
  simp at this
 |some s'=>
  obtain⟨h1,h2⟩:=A7a ho
  rw[A7b (f:=(·.aD)) hn h1 hs h2]
theorem B88{b r n:Nat}{full:Bool}{T:V6}(ag:Y1 T.b n)(hn:n≤1000000)
  (hq:At (A0r b T.b::rbA r full (W3 .i64) T::L2) (Q (.bool true)))
  (hx:Has L (A0r b T.b) L1:=by repeat first|with_reducible exact V5|apply V7)(hy:Has L1 (rbA r full (W3 .i64) T) L2:=by repeat first|with_reducible exact V5|apply V7):
  FW prog 23 #[at0 b,at0 r] L Q:=by
 refine fun h hs=>A7U (some ⟨b,0,none⟩) (some ⟨r,0,none⟩) h Q ((?_:W (A0r b T.b::rbA r full (W3 .i64) T::L2) _ _) h ((hx.then hy).s hs))
 clear hs h hx hy
 have bg:=A9V ag
 delta A7f ad bn cb cc g5 g7 g9 ie ix jb ji kb kc ki kp kt li lp lt nn nw pu rq sn vs wi
 refine W9 ?_
 refine A1F (g:=fun q R=>rbL r full (W3 .i64) T q R) (fun h R=>A0m.1) fun q=>?_
 refine j0 (b:=r) (i:=1) (v:=some ⟨q.sb,0,none⟩) ?_
 refine j2 (C29 (b:=b) (B:=T.b) ag.aH (fun S1=>At.un (x:=S1) ?_))
 refine j0 (b:=r) (i:=1) (v:=some ⟨q.sb,0,none⟩) ?_
 refine A1t ?_ rfl
 refine j2 (C0y (r:=q.sb) (E:=T.b.aH) ag.aH (fun S2=>At.un (x:=S2) ?_))
 refine j2 (C1y (b:=b) (B:=T.b) ag hn (fun S3=>At.un (x:=S3) ?_))
 refine j2 (C1z (b:=b) (B:=T.b) ag (fun S4=>At.un (x:=S4) ?_))
 refine W.rb (O:=W3 .i64) T q ?_
 refine j2 (C5Q (T:=T) bg (fun S5=>At.un (x:=S5) ?_))
 refine Y7 (X7 (enc:=eS) (size:=1) (s:=S1) (xs:=A0D T.b.aH)) fun l1=>?_
 refine Y7 (X7 (enc:=eS) (size:=1) (s:=S2) (xs:=A0D T.b.aH)) fun l2=>?_
 refine Y7 (X7 (enc:=B6B) (size:=4) (s:=S3) (xs:=T.b.aG.map x9)) fun l3=>?_
 refine Y7 (X7 (enc:=eI) (size:=1) (s:=S4) (xs:=Z0 (T.b.aB.map (·.c)))) fun l4=>?_
 refine Y7 (X7 (enc:=eI) (size:=1) (s:=S5) (xs:=Z0 (T.b.aB.map (·.c)))) fun l5=>?_
 refine A1j (fun a=>a.1=false) (fun K hK=>?_) (fun a ha=>?_)
 ·refine X1 (by rw[l1,l2];simp) ?_
  refine W9 ?_
  refine A1F (g:=fun q R=>rbL r full (W3 .i64) T q R) (fun h R=>A0m.1) fun q2=>?_
  refine j0 (b:=r) (i:=0) (v:=some ⟨q2.tb,0,none⟩) ?_
  refine W9 ?_
  refine A7t (g:=fun S (M:{M:List (Nat×W7) // M.map (·.2)=T.b.aG}) R=>cells q2.tb #[.int .i64 T.b.last,.slice S.a S.len S.cap]::V1 eQ 1 S (M.1.map (·.1))::b8 (fun p=>rsA p.1 p.2) M.1::R) (fun h R hs=>B5w h R hs) fun S M=>?_
  refine Y7 (X7 (enc:=eQ) (size:=1) (s:=S) (xs:=M.1.map (·.1))) fun en=>?_
  have tN:(M.1.map (·.1)).length=T.b.aG.length:=by have:=congrArg List.length M.2;rw[C0] at this;rw[C0];exact this
  rw[tN] at en
  refine W.load (b:=q2.tb) (v:=S) ?_
  refine B0j (A:=A0x q2.tb T.b.last T.b.aG) (B:=cells q2.tb #[.int .i64 T.b.last,.slice S.a S.len S.cap]) (C:=V1 eQ 1 S (M.1.map (·.1))) (D:=b8 (fun p=>rsA p.1 p.2) M.1) (fun h hs=>A0W.2 ⟨S,M.1,M.2,hs⟩) ?_
  refine W.rb (O:=W3 .i64) T q2 ?_
  refine X1 (by rw[l3,en,C0];simp) ?_
  exact U9 (At.sub (hK _ (by rw[l4,l5];simp)))
 refine X1 ha ?_
 clear ha
 have lf:(A0D T.b.aH).length≤10000:=C4 C6t ag.aH
 have lc:(Z0 (T.b.aB.map (·.c))).length≤1000000:=by rw[A2n,C0];exact bg
 refine A9x (A0D T.b.aH).length (fun i x=>x.1=(i:Int)) (fun i x=>_) rfl Sub.rfl (fun i x hi hI=>by rw[hI,l1];exact F8.2 (by omega)) ?_ ?_
 case refine_2=>
  rintro i ⟨_,⟨⟩⟩ ah hI K bh hd
  simp only at hI
  subst hI
  have hy:=B0 ah
  refine b9 (enc:=eS) (xs:=A0D T.b.aH) (i:=i) ah (fun a ha=>?_)
  refine A9y (enc:=eS) (x:=(A0D T.b.aH)[i]) (v:=(A0D T.b.aH)[i]) ha hy ?_
  refine b9 (enc:=eS) (xs:=A0D T.b.aH) (i:=i) ah (fun a2 bQ=>?_)
  refine A9y (enc:=eS) (x:=(A0D T.b.aH)[i]) (v:=(A0D T.b.aH)[i]) bQ hy ?_
  refine X1 (by simp) (U9 (bh _ ?_))
  simp only;rw[W6 (by omega) (by omega)];rfl
 rintro⟨_,⟨⟩⟩ hI K hd
 refine U9 (hd _ _ (W.inl ?_))
 clear hd hI
 generalize Z0 (T.b.aB.map (·.c))=cl at l4 l5 lc⊢
 refine A9x cl.length (fun i x=>x.1=(i:Int)) (fun i x=>_) rfl Sub.rfl (fun i x hi hI=>by rw[hI,l4];exact F8.2 (by omega)) ?_ ?_
 case refine_2=>
  rintro i ⟨_,⟨⟩⟩ ah hI K bh hd
  simp only at hI
  subst hI
  have hy:=B0 ah
  refine b9 (enc:=eI) (xs:=cl) (i:=i) ah (fun a ha=>?_)
  refine A9y (enc:=eI) (x:=cl[i]) (v:=cl[i]) ha hy ?_
  refine b9 (enc:=eI) (xs:=cl) (i:=i) ah (fun a2 bQ=>?_)
  refine A9y (enc:=eI) (x:=cl[i]) (v:=cl[i]) bQ hy ?_
  refine X1 (by simp) (U9 (bh _ ?_))
  simp only;rw[W6 (by omega) (by omega)];rfl
 rintro⟨_,⟨⟩⟩ hI K hd
 refine U9 (hd _ _ (W.inl ?_))
 clear hd hI
 refine A9x T.b.aG.length (fun i x=>x.1=(i:Int)) (fun i x=>V1 B6B 4 S3 (T.b.aG.map x9)::A0r b T.b::rbA r full (W3 .i64) T::L2) rfl ?_ (fun i x hi hI=>by rw[hI,l3,C0];exact F8.2 (by omega)) ?_ ?_
 ·repeat(first|with_reducible exact U3|with_reducible exact U4|refine U5 (by repeat first|with_reducible exact V5|apply V7) ?_|refine U6 ?_)
 ·rintro⟨_,⟨⟩⟩ hI K hd
  exact U9 (hd _ _ (W.inl (U9 hq.sub)))
 ·rintro i ⟨_,⟨⟩⟩ ah hI K bh hd
  simp only at hI
  subst hI
  have n32:=ag.n32
  have tJ:=bh (IntKind.wrap .i64 ((i:Int)+1),()) (by simp only;rw[W6 (by omega) (by omega)];rfl)
  clear bh hd
  refine W9 ?_
  refine A1F (g:=fun q R=>rbL r full (W3 .i64) T q R) (fun h R=>A0m.1) fun q3=>?_
  refine j0 (b:=r) (i:=0) (v:=some ⟨q3.tb,0,none⟩) ?_
  refine W9 ?_
  refine A7t (g:=fun S (M:{M:List (Nat×W7) // M.map (·.2)=T.b.aG}) R=>cells q3.tb #[.int .i64 T.b.last,.slice S.a S.len S.cap]::V1 eQ 1 S (M.1.map (·.1))::b8 (fun p=>rsA p.1 p.2) M.1::R) (fun h R hs=>B5w h R hs) fun S M=>?_
  obtain⟨M,hM⟩:=M
  dsimp only
  refine W.load (b:=q3.tb) (v:=S) ?_
  have qC:M.length=T.b.aG.length:=by have:=congrArg List.length hM;rwa[C0] at this
  have ly:i<M.length:=by omega
  have aP:(M.map (·.1))[i]? =some M[i].1:=by rw[I9,B0 ly];rfl
  have lk:T.b.aG[i]? =some M[i].2:=by rw[←hM,I9,B0 ly];rfl
  have ei:=A9B ly
  have bf:i<(M.map (·.1)).length:=by rw[C0];exact ly
  have cG:i<(T.b.aG.map x9).length:=by rw[C0];exact ah
  generalize M[i]=p at aP lk ei
  obtain⟨nb,s⟩:=p
  dsimp only at aP lk
  have an:s∈T.b.aG:=E9 lk
  have uc:(T.b.aG.map x9)[i]? =some (x9 s):=by rw[I9,lk];rfl
  have bZ:=ag.bM s an
  have gF:=bZ.f64
  have eY:=bZ.wl
  refine b9 (enc:=eQ) (xs:=M.map (·.1)) (i:=i) bf (fun a ha=>?_)
  refine A9y (x:=nb) (v:=some ⟨nb,0,none⟩) ha aP ?_
  refine b9 (enc:=B6B) (xs:=T.b.aG.map x9) (i:=i) cG (fun a3 hP=>?_)
  refine B2S (x:=x9 s) (v:=(s.id,s.aD,s.aO,s.on,())) hP uc ?_
  refine C83 (M:=M) (l1:=M.take i) (l2:=M.drop (i+1)) (p:=(nb,s)) ei (fun ob ib=>?_)
  rw[hM]
  dsimp only
  refine W9 ?_
  refine W.load (b:=nb) (v:=s.id) ?_
  refine W9 ?_
  refine W.load (b:=nb) (v:=s.aD) ?_
  refine W9 ?_
  refine W.load (b:=nb) (v:=s.aO) ?_
  refine W9 ?_
  refine W.load (b:=nb) (v:=s.on) ?_
  refine X1 (by simp) ?_
  refine W9 ?_
  refine W.load (b:=nb) (v:=s.aD) ?_
  refine Z9 (C7I (b:=b) (c:=s.aD) (s:=s) ag (C4A ag.dV an) (fun F1 F2=>At.bD (x:=(F1,F2,())) ?_))
  refine Y7 (X7 (enc:=u4) (size:=7) (s:=F1) (xs:=s.out.aF)) fun lF=>?_
  refine A1j (fun a=>a.1=false) (fun K2 aQ=>?_) (fun a ph=>?_)
  ·refine W9 ?_
   refine W.load (b:=nb) (v:=some ⟨ob,0,none⟩) ?_
   refine W9 ?_
   refine A5H (fun h R=>j6.1) fun pb fs wt=>?_
   refine W.load (b:=ob) (v:=wt) ?_
   refine j2 (C1M (v:=.bool true) (fun h1 aa Q1 iJ=>B5s (s1:=F2) (s2:=wt) (ms:=s.out.waiting) (C3N aa (by repeat first|with_reducible exact V5|apply V7)) (C3N aa (by repeat first|with_reducible exact V5|apply V7)) (C4 eY (by decide)) iJ) (At.un (x:=true) ?_))
   refine X1 rfl ?_
   refine W9 ?_
   refine W.load (b:=nb) (v:=some ⟨ob,0,none⟩) ?_
   refine W9 ?_
   refine W.load (b:=ob) (v:=fs) ?_
   refine Y7 (X7 (enc:=u4) (size:=7) (s:=fs) (xs:=s.out.aF)) fun wR=>?_
   refine A8T (A:=a7 ob s.out) (B:=cells ob #[at0 pb,.int .i64 s.out.most,.bool s.out.on,.slice fs.a fs.len fs.cap,.slice wt.a wt.len wt.cap]) (C:=A0K pb s.out.aU) (D:=V1 u4 7 fs s.out.aF) (E:=V1 Z5 5 wt s.out.waiting) (fun h hs=>j6.2 ⟨pb,fs,wt,hs⟩) ?_
   exact U9 (At.sub (aQ _ (by rw[lF,wR];simp)))
  refine X1 ph ?_
  clear ph
  refine A9x s.out.aF.length (fun i x=>x.1=(i:Int)) (fun i x=>_) rfl Sub.rfl (fun i x hi hI=>by rw[hI,lF];exact F8.2 (by omega)) ?_ ?_
  case refine_2=>
   rintro j ⟨_,⟨⟩⟩ j' hI K5 tI vQ
   simp only at hI
   subst hI
   have jL:=B0 j'
   generalize s.out.aF[j]=f at jL
   obtain⟨fi,⟨ft,fp,fq,fr,fg⟩,fx⟩:=f
   refine W9 ?_
   refine W.load (b:=nb) (v:=some ⟨ob,0,none⟩) ?_
   refine W9 ?_
   refine A5H (fun h R=>j6.1) fun pb fs wt=>?_
   refine W.load (b:=ob) (v:=fs) ?_
   refine b9 (enc:=u4) (xs:=s.out.aF) (i:=j) j' (fun a ha=>?_)
   refine B2S (enc:=u4) (x:=(fi,(ft,fp,fq,fr,fg),fx)) (v:=(fi,ft,fp,fq,fr,fg,fx,())) ha jL ?_
   refine Y8 fun gM=>?_
   refine A0u (b:=gM) ?_
   refine A1j (fun a=>a.1=false) (fun K6 yg=>?_) (fun a rv=>?_)
   ·refine b9 (enc:=u4) (xs:=s.out.aF) (i:=j) j' (fun a2 bQ=>?_)
    refine A3d (enc:=u4) (k:=0) (x:=(fi,(ft,fp,fq,fr,fg),fx)) (v:=fi) bQ jL ?_
    refine W.load (b:=gM) (v:=fi) ?_
    refine X1 (by simp) ?_
    refine b9 (enc:=u4) (xs:=s.out.aF) (i:=j) j' (fun a2 bQ=>?_)
    refine A3d (enc:=u4) (k:=6) (x:=(fi,(ft,fp,fq,fr,fg),fx)) (v:=fx) bQ jL ?_
    refine W.load (b:=gM) (v:=fx) ?_
    refine X1 (by simp) ?_
    refine b9 (enc:=u4) (xs:=s.out.aF) (i:=j) j' (fun a2 bQ=>?_)
    refine D0i (enc:=u4) (k:=1) (x:=(fi,(ft,fp,fq,fr,fg),fx)) (v:=(ft,fp,fq,fr,fg,())) bQ jL ?_
    refine A8p (b:=gM) (i:=1) (v:=(ft,fp,fq,fr,fg,())) ?_
    exact U9 (At.sub (yg _ (by simp)))
   refine X1 rv ?_
   refine A8T (A:=a7 ob s.out) (B:=cells ob #[at0 pb,.int .i64 s.out.most,.bool s.out.on,.slice fs.a fs.len fs.cap,.slice wt.a wt.len wt.cap]) (C:=A0K pb s.out.aU) (D:=V1 u4 7 fs s.out.aF) (E:=V1 Z5 5 wt s.out.waiting) (fun h hs=>j6.2 ⟨pb,fs,wt,hs⟩) ?_
   refine U9 ((tI _ ?_).sub)
   simp only;rw[W6 (by omega) (by omega)];rfl
  rintro⟨_,⟨⟩⟩ hI K5 vQ
  refine U9 (vQ _ _ (W.inl ?_))
  refine A8T (A:=A0x q3.tb T.b.last T.b.aG) (B:=cells nb (rqC s ob ib)) (C:=a7 ob s.out) (D:=A05 ib s.bA) (E:=A2K q3.tb T.b.last T.b.aG s nb) (fun h ae=>A5i h ae) ?_
  refine W.rb (O:=W3 .i64) T q3 ?_
  exact U9 tJ.sub
end
section
open Go.H Go.Proofs
variable {h h0:Heap} {L L' L1 L2 L3 R:List Asn} {Q:Value→Heap→Prop}
theorem B7Q{s1:Slc}{py:List EvQ}(ht:TP h0)(iZ:e8 B8I 34 h0 s1 py)(qP:∀x∈py,EvG 1048576 h0 x)
  (hq:∀h' R,sat h' (old h0::R)→Q (.bool true) h'):FW prog 7 #[.slice s1.a s1.len s1.cap] [old h0] Q:=by
 have fin:∀{L L'},Has L (old h0) L'→At L (Q (.bool true)):=fun hx h hs=>hq h _ (hx.s hs)
 refine fun h hs=>A7g s1 h Q ((?_:W [old h0] _ _) h hs)
 clear hs h
 delta A6c az bn cb cp g0 ie ix nw pu sn wi
 refine j2 (C6N (fun b=>At.un (x:=some ⟨b,0,none⟩) ?_))
 refine j2 (C8n (fun r=>At.un (x:=some ⟨r,0,none⟩) ?_))
 refine j2 (C7c ht (At.un (x:=true) ?_))
 refine X1 rfl ?_
 refine C82 (n:=60) iZ rfl (fun s' hr=>?_)
 have yl:(py.take 60).length≤60:=K7 _ _
 have pc:∀x∈py.take 60,EvG 1048576 h0 x:=fun x hx=>qP x (List.mem_of_mem_take hx)
 clear iZ qP
 generalize py.take 60=xs at hr pc yl
 refine W.loop (γ:=Nat×V6×Bool) (fun g s=>s.1=(g.1:Int)∧g.1≤xs.length∧Y1 g.2.1.b g.1∧A8S g.2.1.b) (fun g s=>rbA r g.2.2 (W3 .i64) g.2.1::A0r b g.2.1.b::[old h0]) (fun g=>xs.length-g.1) (0,⟨⟨0,[],[],[],[]⟩,[],[]⟩,false) ⟨rfl,C9 _,Y1.new,C8b⟩ ?_ ?_
 ·show Sub _ (rbA r false (W3 .i64) ⟨⟨0,[],[],[],[]⟩,[],[]⟩::A0r b ⟨0,[],[],[],[]⟩::[old h0])
  repeat(first|with_reducible exact U3|with_reducible exact U4|refine U5 (by repeat first|with_reducible exact V5|apply V7) ?_|refine U6 ?_)
 rintro⟨i,T,f0⟩ s ⟨hi,cF,ag,hw⟩ K k1 k2
 simp only at hi cF ag hw
 dsimp only
 by_cases ah:i<xs.length
 ·refine Y5 (by rw[hi,hr.1];exact decide_eq_true (by omega)) ?_
  have aP:xs[i]? =some xs[i]:=B0 ah
  have pU:=pc xs[i] (H6 ah)
  generalize xs[i]=u at aP pU
  refine Y7 (fun h R hs=>C25 (b:=b) (B:=T.b) h R hs) fun au=>?_
  obtain⟨jW,pX,-,-,-⟩:=C6u pU ag au.1 au.2 hw
  have hn:=fun full=>k1 (i+1,evB u T.b,full) (IntKind.wrap .i64 (s.1+1),()) (by simp only;omega) ⟨by simp only[hi];rw[W6 (by omega) (by omega)];rfl,ah,jW,pX⟩
  clear k1 k2 pX
  obtain⟨cK,conn,⟨⟨vk,vd,vr,vq,vi,vt,vp,vc,s8,s9,cz,cy,cn,cq,cR,cX,cV,cT,dx,cv,cw,vu,ck,cg,dq,dp,⟨⟩⟩,cl,pl,wl,sl,fl⟩,full,⟨mt,mp,mq,mr,mg⟩⟩:=u
  refine A8n hr ah (fun a ha=>?_) (he:=hi)
  refine B45 (v:=(cK,conn,vk,vd,vr,vq,vi,vt,vp,vc,s8,s9,cz,cy,cn,cq,cR,cX,cV,cT,dx,cv,cw,vu,ck,cg,dq,dp,full,mt,mp,mq,mr,mg,())) hr ha aP ?_
  refine Y8 fun x8=>?_
  refine A0u (b:=x8) ?_
  refine W.cells (b:=x8) #[.int .i64 cK,.int .i64 conn,.int .i64 vk,.bool vd,.bool vr,.int .i64 vq,.int .i64 vi,.string vt,.string vp,.int .u8 vc,.slice s8.a s8.len s8.cap,.slice s9.a s9.len s9.cap,.string cz,.bool cy,.int .i64 cn,.bool cq,.string cR,.string cX,.int .i64 cV,.bool cT,.slice dx.a dx.len dx.cap,.bool cv,.bool cw,.string vu,.string ck,.bool cg,.slice dq.a dq.len dq.cap,.slice dp.a dp.len dp.cap,.bool full,.string mt,.string mp,.int .i64 mq,.bool mr,.string mg] ?_
  refine C7M (X:=Bool) (fun _ a=>a.1=false) (fun g _=>rbA r g (W3 .i64) (evB ⟨cK,conn,⟨(vk,vd,vr,vq,vi,vt,vp,vc,s8,s9,cz,cy,cn,cq,cR,cX,cV,cT,dx,cv,cw,vu,ck,cg,dq,dp,()),cl,pl,wl,sl,fl⟩,full,(mt,mp,mq,mr,mg)⟩ T.b)::A0r b (evB ⟨cK,conn,⟨(vk,vd,vr,vq,vi,vt,vp,vc,s8,s9,cz,cy,cn,cq,cR,cX,cV,cT,dx,cv,cw,vu,ck,cg,dq,dp,()),cl,pl,wl,sl,fl⟩,full,(mt,mp,mq,mr,mg)⟩ T.b).b::[old h0]) (fun K2 aQ=>?_) (fun g a bQ=>?_)
  ·refine u7 (b:=x8) (v:=(cK,conn,vk,vd,vr,vq,vi,vt,vp,vc,s8,s9,cz,cy,cn,cq,cR,cX,cV,cT,dx,cv,cw,vu,ck,cg,dq,dp,full,mt,mp,mq,mr,mg,())) ?_
   refine j2 (C6l (b:=b) (r:=r) (n:=i) (full0:=f0) (T:=T) (x:=⟨cK,conn,⟨(vk,vd,vr,vq,vi,vt,vp,vc,s8,s9,cz,cy,cn,cq,cR,cX,cV,cT,dx,cv,cw,vu,ck,cg,dq,dp,()),cl,pl,wl,sl,fl⟩,full,(mt,mp,mq,mr,mg)⟩) ht ag (by omega) hw pU (fun full2=>At.un (x:=true) ?_))
   refine X1 rfl ?_
   refine j2 (B88 (b:=b) (r:=r) (n:=i+1) (full:=full2) (T:=evB ⟨cK,conn,⟨(vk,vd,vr,vq,vi,vt,vp,vc,s8,s9,cz,cy,cn,cq,cR,cX,cV,cT,dx,cv,cw,vu,ck,cg,dq,dp,()),cl,pl,wl,sl,fl⟩,full,(mt,mp,mq,mr,mg)⟩ T.b) jW (by omega) (At.un (x:=true) ?_))
   exact U9 (aQ full2 (false,()) rfl).sub
  refine X1 bQ ?_
  exact U9 (hn g).sub
 ·exact X1 (by rw[hi,hr.1];exact decide_eq_false (by omega)) (U9 (k2 _ _ (W.inl (U9 (fin (by repeat first|with_reducible exact V5|apply V7))))))
end
end Go.Proofs.YtidlldnlphdhcaaGreatDoor
namespace Go.Proofs.YtidlldnlphdhcaaGreatDoor.brokerPlays
open Go.H
open Go.Proofs.Tryz
open Go.ChangeShapes Go.WideShapes Go.ChangeAt Go.RowKit
open Go.ChangeMaps (open_string shut_string)
theorem own:ownKnob prog.godebug=none:=by kernel_rfl
theorem laidOut:laidOutB prog=true:=by kernel_rfl
theorem walk(w:World)(ht:TP w.heap)(x0:Go.H.Slc×List EvQ)(g0:(Go.R.GoodG B8I 34 1 1048576 w.heap (EvG 1048576 w.heap)) x0):
  Calls prog 7 #[.slice x0.1.a x0.1.len x0.1.cap] w fun e w'=>e=.returned (.bool true)∧Below w.heap.size w w':=by
 exact Go.H.walk_of (B7Q ht g0.row (fun x hx=>g0.bR x hx) (fun h' R hs=>⟨rfl,R,hs⟩) w.heap (Go.H.sat_old w.heap))
theorem C6F(H:Type)(enc:TypeId×Value→H)(W:World)(base:Nat)(args:D0q)(ds gs:List (DataW H))(before:List MemPlace)
  (lX:∀(j:Nat) t v,Tryz.f7.params[j]? =some t→args[j]? =some v→Value.okWide prog W .any base t v)
  (hW:DataW.Whole enc prog Tryz.f7.params.toList Rows.brokerPlaysSpec.vars false W args.toList ds gs before)(hL:laidMetH prog B6c W)(oQ:W.ShapedOpen prog)(kh:Rows.uptoSmall H (ds++gs)=true):
  Calls prog 7 args W fun e W'=>∃v,e=.returned v∧Rows.brokerPlaysSpec.post enc prog Tryz.f7 false true false false W args v W':=by
 have lj:∀(j:Nat) t v,Tryz.f7.params[j]? =some t→args[j]? =some v→Value.okWide prog W .any base t v:=lX
 have xX:=hW
 obtain⟨p,q,wb,hV,rfl,oY,au⟩:=hW
 have hA:DataW.TrodAll enc prog W 0 (fun _=>true) true Tryz.f7.params.toList args.toList ds p:=wb
 rw[params7] at hA lj
 obtain⟨v0,yy,d0,yS,p0,q0,vU,rfl,rfl,h0,r0⟩:=trodAll_cons hA
 obtain⟨rfl,rfl,rfl⟩:=trodAll_nil r0
 obtain rfl:args=#[v0]:=by cases args;simp_all
 obtain⟨rfl,rfl⟩:=trodVars_none hV
 have hk:=of_decide_eq_true kh
 simp only[C1,G7,F0,Rows.uptoBulkAll] at hk
 have w0:okB 53 d0:=by unfold okB;omega
 clear hk
 obtain⟨a0,sO,uF,rfl⟩:=okWide_slice underlying53 (lj 0 53 v0 rfl rfl)
 have k0:=h0
 have wP:∀x∈p0,x.block<W.heap.size:=by obtain⟨m,hm⟩:=k0;exact DataW.trod_lt m _ _ _ hm
 obtain⟨x0,e0,g0⟩:∃x:Go.H.Slc×List EvQ,(Value.slice a0 sO uF=.slice x.1.a x.1.len x.1.cap)∧(Go.R.GoodG B8I 34 1 1048576 W.heap (EvG 1048576 W.heap)) x:=by
  obtain⟨fuel,hf⟩:=h0
  obtain⟨x,hx,hg⟩:=C0x C7s fuel _ _ hf w0
  exact⟨x,by simpa[Value.cells] using hx,hg⟩
 cases e0
 clear wb lX
 refine(walk W (C1V hL oQ) x0 g0).mono fun e W' ⟨he,bel⟩=>?_
 subst he
 exact⟨_,rfl,_,_,_,[],_,[],xX,trodAll_mk1 (shut_bool underlying4 _),(trodAll_cons_mk (Below.trod laidOut (by kernel_rfl) (of_decide_eq_true (by kernel_rfl)) k0 bel wP) trodAll_mk0),rfl,bel.frame _,fun h=>by cases h⟩
theorem reads(os:Os){H:Type}(enc:TypeId×Value→H):∃places,DataW.whole enc prog ((B3t os).forCall (fun _ _=>0) ⟨#[],#[.slice none 0 0],[]⟩).memory Tryz.f7.params.toList Rows.brokerPlaysSpec.vars false #[(.slice none 0 0:Value)].toList 8=some ([.nil],[],places):=
 ⟨[],by kernel_rfl⟩
theorem lifted(os:Os)(started:os.Started)(H:Type)(enc:TypeId×Value→H)(F:Stop.Interp):
  ReturnsInHanded {} checked os 7 .any ((Rows.OpenSpec.upto Rows.brokerPlaysSpec).preRow enc prog Tryz.f7 Rows.brokerPlaysUptoRow.domain false Rows.brokerPlaysUptoRow.laid) (((Rows.OpenSpec.upto Rows.brokerPlaysSpec).at F).post enc prog Tryz.f7 false true false false):=by
 obtain⟨places,hx⟩:=reads os enc
 refine returnsInHanded_of_row (C:=checked) (s:=Rows.OpenSpec.upto Rows.brokerPlaysSpec) own started (by kernel_rfl) Tryz.func7
  (witness_row_atRef (enc:=enc) (C:=checked) false (B3t os) #[.slice none 0 0] rfl (by kernel_rfl) (by kernel_rfl) (by kernel_rfl)
   (OpenSpec.preRow_of_cond 8 hx (by kernel_rfl) (fun k hk=>by cases hk;kernel_rfl) (by kernel_rfl) (C6c os _))) ?_
 intro W base args ds gs before lj hW _ kh _ hL oQ _
 exact C6F H enc W base args ds gs before lj hW hL oQ (kh _ rfl)
theorem C9I:(Rows.brokerPlaysUptoRow.wf (OpenSpec.ofChange (Rows.OpenSpec.upto Rows.brokerPlaysSpec).bare))=true:=by kernel_rfl
theorem C9H:(laidOutB Tryz.pinned.checked.prog)=true:=by kernel_rfl
theorem C9G:(mapsRowed Tryz.pinned.checked.prog)=true:=by kernel_rfl
theorem C9F:(Tryz.f7.params.all (Tryz.pinned.checked.prog.readableRec ·))=true:=by kernel_rfl
theorem C9E:(namedTie Tryz.pinned.checked.prog Rows.brokerPlaysUptoRow.named (Rows.OpenSpec.upto Rows.brokerPlaysSpec).bare.vars)=true:=by kernel_rfl
theorem C9D:((Rows.brokerPlaysUptoRow.stops==[]))=true:=by kernel_rfl
theorem C9C:((Tryz.pinned.checked.prog.stops==[]))=true:=by kernel_rfl
theorem C9B:((Rows.brokerPlaysUptoRow.knobs==[]))=true:=by kernel_rfl
theorem C9A:((Tryz.pinned.checked.prog.stopKnobs==[]))=true:=by kernel_rfl
theorem C9z:((Rows.brokerPlaysUptoRow.inPlace==Tryz.pinned.checked.prog.inPlace 7))=true:=by kernel_rfl
theorem C8V:((Rows.brokerPlaysUptoRow.unfollowed==Tryz.pinned.checked.prog.unfollowed 7))=true:=by kernel_rfl
theorem C8U:((Rows.brokerPlaysUptoRow.recurses==Tryz.pinned.checked.prog.recurses 7))=true:=by kernel_rfl
theorem C8T:((Rows.brokerPlaysUptoRow.named==Tryz.pinned.checked.prog.varsNamed 7))=true:=by kernel_rfl
theorem C8S:((Rows.brokerPlaysUptoRow.maps==(Tryz.f7.params.toList++(Rows.OpenSpec.upto Rows.brokerPlaysSpec).bare.plain.varTypes Tryz.pinned.checked.prog).any (Tryz.pinned.checked.prog.mapsRec ·)))=true:=by kernel_rfl
theorem C8R:((Rows.brokerPlaysUptoRow.ifaces==(Tryz.f7.params.toList++(Rows.OpenSpec.upto Rows.brokerPlaysSpec).bare.plain.varTypes Tryz.pinned.checked.prog).any (Tryz.pinned.checked.prog.ifacesRec ·)))=true:=by kernel_rfl
theorem C8Q:((Rows.brokerPlaysUptoRow.mapsOut==Tryz.pinned.checked.prog.mapsAmong Tryz.f7.resultTypes.toList))=true:=by kernel_rfl
theorem C8P:((Rows.brokerPlaysUptoRow.loops==(Tryz.f7.params.toList++(Rows.OpenSpec.upto Rows.brokerPlaysSpec).bare.plain.varTypes Tryz.pinned.checked.prog).any (Tryz.pinned.checked.prog.loopsFrom ·)))=true:=by kernel_rfl
theorem C8O:((Rows.brokerPlaysUptoRow.wideKeys==(Tryz.f7.params.toList++(Rows.OpenSpec.upto Rows.brokerPlaysSpec).bare.plain.varTypes Tryz.pinned.checked.prog++Tryz.f7.resultTypes.toList).any (Tryz.pinned.checked.prog.wideKeysFrom ·)))=true:=by kernel_rfl
theorem C8N:((Rows.OpenSpec.upto Rows.brokerPlaysSpec).bare.vars.all (Tryz.pinned.checked.prog.varReadable ·))=true:=by kernel_rfl
theorem C8M:(Tryz.f7.resultTypes.all (fun t=>Tryz.pinned.checked.prog.readableRec t&&decide (t<Tryz.pinned.checked.prog.types.size)))=true:=by kernel_rfl
theorem C8L:((Rows.brokerPlaysUptoRow.ifacesOut==Tryz.f7.resultTypes.toList.any (Tryz.pinned.checked.prog.ifacesRec ·)))=true:=by kernel_rfl
theorem C8K:((Rows.brokerPlaysUptoRow.loopsOut==Tryz.f7.resultTypes.toList.any (Tryz.pinned.checked.prog.loopsFrom ·)))=true:=by kernel_rfl
theorem C8J:((Rows.brokerPlaysUptoRow.plainKeys==Tryz.pinned.checked.prog.plainKeys))=true:=by kernel_rfl
theorem C8I:(Rows.brokerPlaysUptoRow.shortTexts.isNone)=true:=by kernel_rfl
theorem C8H:(Tryz.pinned.checked.prog.stopsHeard)=true:=by kernel_rfl
theorem C8G:(Tryz.pinned.checked.prog.mayEnter)=true:=by kernel_rfl
theorem C8F:((Rows.brokerPlaysUptoRow.lifted==Tryz.pinned.checked.prog.liftsFinal))=true:=by kernel_rfl
theorem C8E:((Tryz.pinned.checked.prog.make==some Rows.brokerPlaysUptoRow.make))=true:=by kernel_rfl
theorem C8D:((Rows.brokerPlaysUptoRow.kinds==(if Rows.brokerPlaysUptoRow.domain.isEmpty then[] else Tryz.f7.params.toList.map fun t=>match Tryz.pinned.checked.prog.underlying t with|some (.int k)=>some k|_=>none)))=true:=by kernel_rfl
theorem C8C:((Rows.brokerPlaysUptoRow.pinned==Rows.brokerPlaysUptoRow.pinnedBy))=true:=by kernel_rfl
theorem C8B:((Rows.brokerPlaysUptoRow.veiled==(Tryz.f7.params.toList++(Rows.OpenSpec.upto Rows.brokerPlaysSpec).bare.plain.varTypes Tryz.pinned.checked.prog++Tryz.f7.resultTypes.toList).any (Tryz.pinned.checked.prog.veiledRec ·)))=true:=by kernel_rfl
theorem C8A:(Rows.brokerPlaysUptoRow.veiledFits Tryz.pinned.checked.prog Tryz.f7.params.toList (Tryz.f7.params.toList++(Rows.OpenSpec.upto Rows.brokerPlaysSpec).bare.plain.varTypes Tryz.pinned.checked.prog++Tryz.f7.resultTypes.toList))=true:=by kernel_rfl
theorem A2O{a b:Bool}(ha:a=true)(hb:b=true):(a&&b)=true:=by rw[ha,hb];rfl
theorem facts:joinedFacts Tryz.pinned.checked.prog 7 Tryz.f7 (Rows.OpenSpec.upto Rows.brokerPlaysSpec).bare Rows.brokerPlaysUptoRow=true:=by
 unfold joinedFacts
 exact(A2O (A2O (A2O (A2O (A2O (A2O (A2O (A2O (A2O (A2O (A2O (A2O (A2O (A2O (A2O (A2O (A2O (A2O (A2O (A2O (A2O (A2O (A2O (A2O (A2O (A2O (A2O (A2O (A2O (A2O (A2O C9I C9H) C9G) C9F) C9E) C9D) C9C) C9B) C9A) C9z) C8V) C8U) C8T) C8S) C8R) C8Q) C8P) C8O) C8N) C8M) C8L) C8K) C8J) C8I) C8H) C8G) C8F) C8E) C8D) C8C) C8B) C8A)
end Go.Proofs.YtidlldnlphdhcaaGreatDoor.brokerPlays