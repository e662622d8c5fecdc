/-
  Our texts, packed by program.
-/
import Derived.Test.YtidlldnlphdhcaaGreatDoorQBrokerFull3
set_option linter.unusedSimpArgs false
set_option linter.unusedVariables false
set_option maxHeartbeats 16000000
set_option maxRecDepth 100000
set_option synthInstance.maxSize 100000
set_option synthInstance.maxHeartbeats 400000
namespace Go.Proofs.YtidlldnlphdhcaaGreatDoor
open Go.H
open Go.Proofs.Tryz
section
open Go.H Go.Proofs Go.Lib
variable {h h0:Heap} {R:List Asn}
theorem B6N{s t:Slc}{xs ys:List B3O}(hr:Z5 eS 1 h s xs)(ht:Z5 eS 1 h t ys)(hl:xs.length≤1000000){Q:Value→Heap→Prop}(hq:Q (.bool (eqL xs ys)) h):
  V2 prog 37 #[.slice s.a s.len s.cap,.slice t.a t.len t.cap,.func (.func 38) #[] #[]] h Q:=by
 refine A63 s t _ h Q ?_
 delta A6l bn ie ix lt pu wi
 have ru:=hr.1
 have ah:=ht.1
 (try dsimp only);rw[U6]
 by_cases bz:xs.length=ys.length
 ·rw[if_neg (by simp[ru,ah,bz])]
  (try dsimp only);rw[U0]
  refine l6 (γ:=Nat) (fun g c h'=>h'=h∧c.1=(((xs.length-g:Nat)):Int)∧g≤xs.length∧eqL xs ys=eqL (xs.drop (xs.length-g)) (ys.drop (xs.length-g))) (fun g=>g) xs.length ⟨rfl,by simp,D6 _,by simp⟩ ?_
  rintro g ⟨c,⟨⟩⟩ h' ⟨rfl,hc,hg,hf⟩
  simp only at hc
  subst hc
  (try dsimp only);rw[U6]
  by_cases hi:xs.length-g<xs.length
  ·rw[if_pos (by simp only[decide_eq_true_eq,ru];omega)]
   obtain⟨x,hx⟩:∃x,xs[xs.length-g]? =some x:=⟨_,B0 hi⟩
   obtain⟨y,hy⟩:∃y,ys[xs.length-g]? =some y:=⟨_,B0 (by omega)⟩
   rw[A6L hx,A6L hy] at hf
   (try dsimp only);rw[U0]
   refine X6 hr hx fun a ha=>?_
   refine⟨x,by have:=ha 0 (.string x) rfl;rwa[Go.H.add_zero] at this,?_⟩
   (try dsimp only);rw[U0]
   refine X6 ht hy fun a' iV=>?_
   refine⟨y,by have:=iV 0 (.string y) rfl;rwa[Go.H.add_zero] at this,?_⟩
   refine⟨38,#[],#[],rfl,call38,?_⟩
   refine A8l x y h' _ ?_
   delta A8m bn ie pu
   have fin:∀z:Bool,z=(decide (x=r6)||decide (x=y))→(if(!z)=true then Q (.bool false) h' else Go.H.Next (fun g (c:Int×Unit) aR=>aR=h'∧c.1=(((xs.length-g:Nat)):Int)∧g≤xs.length∧eqL xs ys=eqL (xs.drop (xs.length-g)) (ys.drop (xs.length-g))) (fun g=>g) g (IntKind.wrap .i64 ((((xs.length-g:Nat)):Int)+1),()) h'):=by
    rintro z rfl
    simp only[eqL] at hf
    have aw:xs.length-g+1=xs.length-(g-1):=by omega
    rw[aw] at hf
    cases hz:(decide (x=r6)||decide (x=y)) with
    |false=>
     rw[hz,J6] at hf
     rw[hf] at hq
     rw[if_pos (by rfl)]
     exact hq
    |true=>
     rw[hz,G2] at hf
     rw[if_neg (by simp)]
     exact .mk (g-1) (by omega) ⟨rfl,by simp only;rw[V5 (by omega) (by omega)];omega,by omega,hf⟩
   refine V3 (fun z aR=>aR=h'∧z.1=(decide (x=r6)||decide (x=y))) ?_ ?_
   ·(try dsimp only);rw[U6]
    by_cases h1:x=r6
    ·rw[if_pos (by simpa[r6] using h1)]
     exact⟨rfl,by simp[h1]⟩
    ·rw[if_neg (by simpa[r6] using h1)]
     exact⟨rfl,by simp[h1]⟩
   rintro⟨z,⟨⟩⟩ aR ⟨rfl,hz⟩
   refine⟨z,rfl,?_⟩
   have bY:=fin z hz
   (try dsimp only);rw[U6]
   by_cases uo:(!z)=true
   ·rw[if_pos uo] at bY⊢
    exact bY
   ·rw[if_neg uo] at bY⊢
    exact bY
  ·rw[if_neg (by simp only[decide_eq_true_eq,ru];omega)]
   simp only[D3,E6,V0]
   have h1:xs.drop (xs.length-g)=[]:=by simp;omega
   have h2:ys.drop (xs.length-g)=[]:=by simp;omega
   rw[h1,h2] at hf
   rw[hf] at hq
   exact hq
 ·have nQ:∀(xs ys:List B3O),xs.length≠ys.length→eqL xs ys=false:=by
   intro xs
   induction xs with
   |nil=>intro ys hh;cases ys with
    |nil=>exact absurd rfl hh
    |cons=>rfl
   |cons x xs ih=>intro ys hh;cases ys with
    |nil=>rfl
    |cons y ys=>simp only[eqL,ih ys (by simpa using hh),Bool.and_false]
  rw[nQ xs ys bz] at hq
  rw[if_pos (by simp[ru,ah];omega)]
  exact hq
theorem A7G(b c:UInt8):((b.toNat:Int)==(c.toNat:Int))=decide (b=c):=by
 by_cases h:b=c
 ·simp[h]
 ·rw[decide_eq_false h]
  simp only[H4,ne_eq]
  intro e
  exact h (UInt8.toNat_inj.1 (by omega))
theorem C2n(hs:sat h (old h0::R))(ht:TP h0){f n:B3O}(oJ:f.size≤9223372036854775807)(rp:n.size≤9223372036854775807){Q:Value→Heap→Prop}
  (hq:∀h',sat h' (old h0::R)→Q (.bool (Y9 f n)) h'):V2 prog 14 #[.string f,.string n] h Q:=by
 refine B0O f n h Q ?_
 delta B3j bn cb cc cu ie ix lt pu vs wi
 refine V3 (fun x h'=>sat h' (old h0::R)∧x.1= !(X4 f&&Y8 n)) ?_ ?_
 ·refine U5 (A6W hs ht oJ fun h1 aa=>⟨_,rfl,?_⟩)
  unfold A9X
  (try dsimp only);rw[U6]
  cases hf:X4 f with
  |false=>rw[if_pos (by rfl)];exact⟨aa,rfl⟩
  |true=>
   rw[if_neg (by simp)]
   refine U5 (A3n aa ht rp fun h2 ae=>⟨_,rfl,?_⟩)
   unfold A2t
   cases hn:Y8 n<;>exact⟨ae,rfl⟩
 rintro⟨x,⟨⟩⟩ h1 ⟨aa,hx⟩
 simp only at hx
 subst hx
 unfold Y9 at hq
 (try dsimp only);rw[U6]
 cases ag:(X4 f&&Y8 n) with
 |false=>
  rw[ag] at hq
  rw[if_pos (by rfl)]
  exact hq _ aa
 |true=>
 rw[ag,G2] at hq
 rw[if_neg (by simp)]
 rw[E8] at ag
 have i':=A0T.1 (A0u ag.1)
 have eK:=A0T.1 (A4C ag.2)
 have xi:A38 (levels f)=true:=by
  have:=ag.1
  unfold X4 at this
  rw[E8] at this
  exact this.2
 refine V3 (fun x h'=>h'=h1∧x.1=A3T f n) ?_ ?_
 ·unfold A3T
  refine⟨n.get! 0,by decide,A3h (k:=0) (by omega),?_⟩
  (try dsimp only);rw[U6]
  have vP:=A7G (n.get! 0) 36
  by_cases jN:n.get! 0=36
  ·rw[if_pos (by rw[show(36:Int)=((36:UInt8).toNat:Int) from rfl,vP,jN];rfl)]
   refine⟨0,1,⟨rfl,by omega⟩,rfl,?_⟩
   (try dsimp only);rw[U6]
   by_cases en:f.get! 0=43
   ·rw[if_pos (by simpa using(B2Z i'.2.1 43).2 en)]
    exact⟨rfl,by simp[jN,en]⟩
   ·rw[if_neg (by simpa using fun e=>en ((B2Z i'.2.1 43).1 e))]
    refine⟨0,1,⟨rfl,by omega⟩,rfl,rfl,?_⟩
    have xS:decide (f.extract 0 1=ByteArray.mk #[35])=decide (f.get! 0=35):=by rw[F9];exact B2Z i'.2.1 35
    simp only[jN,en,decide_true,decide_false,G2,R8]
    exact xS
  ·rw[if_neg (by rw[show(36:Int)=((36:UInt8).toNat:Int) from rfl,vP];simpa using jN)]
   exact⟨rfl,by simp[jN]⟩
 rintro⟨x,⟨⟩⟩ h2 ⟨rfl,hx⟩
 simp only at hx
 subst hx
 (try dsimp only);rw[U6]
 cases iA:A3T f n with
 |true=>
  rw[iA] at hq
  rw[if_pos rfl]
  exact hq _ aa
 |false=>
 rw[iA,S3,G2,B5v _ _ (B2L f) xi] at hq
 rw[if_neg (by simp)]
 refine U5 (A4g aa ht i'.2.2.1 fun sf h3 aj=>⟨sf,rfl,?_⟩)
 refine U5 (A4g aj.p1 ht eK.2.2.1 fun sn h4 ak=>⟨sn,rfl,?_⟩)
 have pO:=ak.aO A1C
 have nE:=(ak.re [2,0,1]).aO A1C
 have ai:sat h4 (old h0::R):=(ak.re [0,2,1]).drop.drop
 have uT:(levels f).length≤32:=i'.2.2.2
 have jU:(levels n).length≤32:=eK.2.2.2
 have bz:1≤(levels f).length:=by
  have:=A7j f
  omega
 clear ak aj
 generalize levels f=lf at*
 generalize levels n=ln at*
 have fc:=nE.1
 have fg:=pO.1
 have hw:IntKind.wrap .i64 ((sf.len:Int)-1)=((lf.length-1:Nat):Int):=by rw[fc,V5 (by omega) (by omega)];omega
 rw[hw]
 obtain⟨x,hx⟩:∃x,lf[lf.length-1]? =some x:=⟨_,B0 (by omega)⟩
 have cW:B3c lf=decide (x=o3):=by unfold B3c;rw[hx];simp
 (try dsimp only);rw[U0]
 refine X6 nE hx fun a ha=>?_
 refine⟨x,by have:=ha 0 (.string x) rfl;rwa[Go.H.add_zero] at this,?_⟩
 refine V3 (fun x h'=>h'=h4∧Z5 eS 1 h4 x.1 (A6O lf)) ?_ ?_
 ·unfold A6O
  (try dsimp only);rw[U6]
  by_cases hh:x=o3
  ·rw[if_pos (by simpa[o3] using hh),if_pos (by rw[cW];simpa using hh)]
   (try dsimp only);rw[U0]
   exact B2j nE (by omega) fun s' af=>⟨rfl,af⟩
  ·rw[if_neg (by simpa[o3] using hh),if_neg (by rw[cW];simpa using hh)]
   exact⟨rfl,nE⟩
 rintro⟨sc,⟨⟩⟩ h5 ⟨rfl,sU⟩
 simp only at sU
 have kQ:=sU.1
 have ba:(A6O lf).length≤32:=by
  unfold A6O
  split
  ·simp;omega
  ·exact uT
 refine V3 (fun x h'=>h'=h5∧x.1=decide (ln.length<(A6O lf).length∨(B3c lf=false∧(A6O lf).length<ln.length))) ?_ ?_
 ·(try dsimp only);rw[U6]
  by_cases hh:ln.length<(A6O lf).length
  ·rw[if_pos (by simp only[decide_eq_true_eq];omega)]
   exact⟨rfl,by simp[hh]⟩
  ·rw[if_neg (by simp only[decide_eq_true_eq];omega)]
   (try dsimp only);rw[U6]
   by_cases kH:x=o3
   ·rw[if_neg (by simpa[o3] using kH)]
    exact⟨rfl,by simp[hh,cW,kH]⟩
   ·rw[if_pos (by simpa[o3] using kH)]
    refine⟨rfl,?_⟩
    simp only[F9,cW,kH,decide_false,true_and]
    omega
 rintro⟨y,⟨⟩⟩ h6 ⟨rfl,hy⟩
 simp only at hy
 subst hy
 unfold B8K at hq
 (try dsimp only);rw[U6]
 by_cases hc:ln.length<(A6O lf).length∨(B3c lf=false∧(A6O lf).length<ln.length)
 ·rw[if_pos hc] at hq
  rw[if_pos (by simpa using hc)]
  exact hq _ ai
 ·rw[if_neg hc] at hq
  rw[if_neg (by simpa using hc)]
  (try dsimp only);rw[U0]
  refine B2j (n:=sc.len) pO (by omega) fun s' af=>?_
  rw[kQ] at af
  (try dsimp only)
  refine U5 (B6N sU af (by omega) ⟨_,rfl,?_⟩)
  exact hq _ ai
end
section
open Go.Proofs Go.Shelf
def B3m:Go.Shelf.Ren:=⟨fun n=>match n with|6=>84|8=>130|9=>131|11=>187|13=>123|12=>188|23=>180|24=>181|14=>229|15=>230|16=>231|17=>232|18=>233|19=>234|20=>235|21=>236|22=>237|25=>260|26=>214|27=>215|28=>261|29=>262|30=>263|31=>271|n=>n,fun n=>match n with|26=>9|28=>216|24=>43|0=>0|3=>3|37=>263|48=>315|50=>317|4=>4|40=>308|39=>307|45=>180|5=>5|9=>9|51=>343|55=>347|57=>378|58=>361|33=>107|n=>n,fun n=>n⟩
theorem C6l:SlLaysZ.n6 prog B3m where
 mixed:=by kernel_rfl
 f6:=⟨f84.name,by kernel_rfl,func84.trans (congrArg some (by kernel_rfl))⟩
 f8:=⟨f130.name,by kernel_rfl,func130.trans (congrArg some (by kernel_rfl))⟩
 f11:=⟨f187.name,by kernel_rfl,func187.trans (congrArg some (by kernel_rfl))⟩
 t0:=underlying0
 a0:=isAgg0
 z0:=sizeOf0
 v0:=zeroValue0
 t24:=underlying43
 a24:=isAgg43
 z24:=sizeOf43
 v24:=zeroValue43
 t26:=underlying9
 a26:=isAgg9
 z26:=sizeOf9
 v26:=zeroValue9
 t28:=underlying216
 a28:=isAgg216
 z28:=sizeOf216
 v28:=zeroValue216
 i26:=by kernel_rfl
def B4P:Go.Shelf.Ren:=⟨fun n=>match n with|6=>131|8=>123|9=>188|19=>180|20=>181|21=>229|22=>230|23=>231|24=>232|25=>233|26=>234|27=>235|28=>236|29=>237|36=>260|31=>214|32=>215|37=>261|38=>262|39=>263|41=>271|n=>n,fun n=>match n with|27=>43|29=>9|3=>3|32=>263|26=>43|0=>0|44=>315|46=>317|4=>4|36=>308|35=>307|41=>180|5=>5|9=>9|53=>343|57=>347|63=>378|64=>361|n=>n,fun n=>n⟩
theorem C7l:SlLaysM.n6 prog B4P where
 mixed:=by kernel_rfl
 f6:=⟨f131.name,by kernel_rfl,func131.trans (congrArg some (by kernel_rfl))⟩
 f8:=func123.trans (congrArg some (by kernel_rfl))
 f9:=⟨f188.name,by kernel_rfl,func188.trans (congrArg some (by kernel_rfl))⟩
 f19:=func180.trans (congrArg some (by kernel_rfl))
 f20:=func181.trans (congrArg some (by kernel_rfl))
 f21:=⟨f229.name,by kernel_rfl,func229.trans (congrArg some (by kernel_rfl))⟩
 f22:=⟨f230.name,by kernel_rfl,func230.trans (congrArg some (by kernel_rfl))⟩
 f23:=⟨f231.name,by kernel_rfl,func231.trans (congrArg some (by kernel_rfl))⟩
 f24:=⟨f232.name,by kernel_rfl,func232.trans (congrArg some (by kernel_rfl))⟩
 f25:=⟨f233.name,by kernel_rfl,func233.trans (congrArg some (by kernel_rfl))⟩
 f26:=⟨f234.name,by kernel_rfl,func234.trans (congrArg some (by kernel_rfl))⟩
 f27:=⟨f235.name,by kernel_rfl,func235.trans (congrArg some (by kernel_rfl))⟩
 f28:=⟨f236.name,by kernel_rfl,func236.trans (congrArg some (by kernel_rfl))⟩
 f29:=⟨f237.name,by kernel_rfl,func237.trans (congrArg some (by kernel_rfl))⟩
 f31:=func214.trans (congrArg some (by kernel_rfl))
 f32:=func215.trans (congrArg some (by kernel_rfl))
 f36:=⟨Tryz.f260.name,by kernel_rfl,func260.trans (congrArg some (by kernel_rfl))⟩
 f37:=⟨f261.name,by kernel_rfl,func261.trans (congrArg some (by kernel_rfl))⟩
 f38:=⟨f262.name,by kernel_rfl,func262.trans (congrArg some (by kernel_rfl))⟩
 f39:=⟨f263.name,by kernel_rfl,func263.trans (congrArg some (by kernel_rfl))⟩
 f41:=⟨f271.name,by kernel_rfl,func271.trans (congrArg some (by kernel_rfl))⟩
 t0:=underlying0
 a0:=isAgg0
 z0:=sizeOf0
 v0:=zeroValue0
 t3:=underlying3
 a3:=isAgg3
 z3:=sizeOf3
 v3:=zeroValue3
 t4:=underlying4
 a4:=isAgg4
 z4:=sizeOf4
 v4:=zeroValue4
 t5:=underlying5
 a5:=isAgg5
 z5:=sizeOf5
 v5:=zeroValue5
 t9:=underlying9
 a9:=isAgg9
 z9:=sizeOf9
 v9:=zeroValue9
 t26:=underlying43
 a26:=isAgg43
 z26:=sizeOf43
 v26:=zeroValue43
 t27:=underlying43
 a27:=isAgg43
 z27:=sizeOf43
 v27:=zeroValue43
 t29:=underlying9
 a29:=isAgg9
 z29:=sizeOf9
 v29:=zeroValue9
 t32:=underlying263
 a32:=isAgg263
 z32:=sizeOf263
 v32:=zeroValue263
 t35:=underlying307
 a35:=isAgg307
 z35:=sizeOf307
 v35:=zeroValue307
 t36:=underlying308
 a36:=isAgg308
 z36:=sizeOf308
 v36:=zeroValue308
 t41:=underlying180
 a41:=isAgg180
 z41:=sizeOf180
 v41:=zeroValue180
 t44:=underlying315
 a44:=isAgg315
 z44:=sizeOf315
 v44:=zeroValue315
 t46:=underlying317
 a46:=isAgg317
 z46:=sizeOf317
 v46:=zeroValue317
 t53:=underlying343
 a53:=isAgg343
 z53:=sizeOf343
 v53:=zeroValue343
 t57:=underlying347
 a57:=isAgg347
 z57:=sizeOf347
 v57:=zeroValue347
 t63:=underlying378
 a63:=isAgg378
 z63:=sizeOf378
 v63:=zeroValue378
 t64:=underlying361
 a64:=isAgg361
 z64:=sizeOf361
 v64:=zeroValue361
open Go.Proofs Go.Shelf
def A7m:Go.Shelf.Ren:=⟨fun n=>match n with|7=>165|10=>212|n=>n,fun n=>match n with|23=>177|26=>9|3=>204|28=>216|0=>0|27=>215|33=>107|4=>4|n=>n,fun n=>n⟩
theorem C5h:SlLaysZ.n7 prog A7m where
 mixed:=by kernel_rfl
 f7:=⟨Tryz.f165.name,by kernel_rfl,func165.trans (congrArg some (by kernel_rfl))⟩
 f10:=⟨f212.name,by kernel_rfl,func212.trans (congrArg some (by kernel_rfl))⟩
 t0:=underlying0
 a0:=isAgg0
 z0:=sizeOf0
 v0:=zeroValue0
 t4:=underlying4
 a4:=isAgg4
 z4:=sizeOf4
 v4:=zeroValue4
 t23:=underlying177
 a23:=isAgg177
 z23:=sizeOf177
 v23:=zeroValue177
 t26:=underlying9
 a26:=isAgg9
 z26:=sizeOf9
 v26:=zeroValue9
 t27:=underlying215
 a27:=isAgg215
 z27:=sizeOf215
 v27:=zeroValue215
 t28:=underlying216
 a28:=isAgg216
 z28:=sizeOf216
 v28:=zeroValue216
 t33:=underlying107
 a33:=isAgg107
 z33:=sizeOf107
 v33:=zeroValue107
open Go.H Go.Proofs Go.Lib
abbrev B1m(b:Nat):Value:=.pointer (some ⟨b,0,none⟩)
abbrev j6:=B3O×B3O×Int×Unit
abbrev kM:Kind:=.agg [.str,.str,.int .i64]
abbrev vM(m:j6):Value:=.agg #[.string m.1,.string m.2.1,.int .i64 m.2.2.1]
abbrev z6(m:j6):C9w:=[.string m.1,.string m.2.1,.int .i64 m.2.2.1]
abbrev eKS(s:B3O):Value:=.string s
def zM:j6:=(ByteArray.mk #[],ByteArray.mk #[],0,())
theorem A3M:∀x:j6,(z6 x).length=3:=fun _=>rfl
theorem A7B:∀x:j6,∀v∈z6 x,v.oneCell'=true:=fun x v hv=>by
 simp only[z6,D7,Q9,or_false] at hv
 rcases hv with rfl|rfl|rfl<;>rfl
theorem C6z:∀a b:B3O,eKS a=eKS b→a=b:=fun a b h=>by cases h;rfl
def B6R(b:Nat)(most:Int)(l:List (B3O×j6)):Asn:=exA fun m:Nat=>star (cells b #[.int .i64 most,.map (some m)]) (mapA eKS (Kind.val kM) m l)
variable {h h0:Heap} {R:List Asn}
theorem A4R{b:Nat}{most:Int}{l:List (B3O×j6)}:sat h (B6R b most l::R)↔∃m:Nat,sat h (cells b #[.int .i64 most,.map (some m)]::mapA eKS (Kind.val kM) m l::R):=by
 unfold B6R
 rw[sat.bA]
 constructor
 ·rintro⟨m,hs⟩;exact⟨m,sat.aI.1 hs⟩
 ·rintro⟨m,hs⟩;exact⟨m,sat.aI.2 hs⟩
def B8H(n:Int):Int:=if 0<(if 64<n then 64 else n) then(if 64<n then 64 else n) else 0
theorem B9H(hs:sat h R)(n:Int){Q:Value→Heap→Prop}(hq:∀b h',sat h' (B6R b (B8H n) []::R)→Q (B1m b) h'):V2 prog 29 #[.int .i64 n] h Q:=by
 refine B2n n h Q ?_
 delta B4X az bn nw pu vi
 (try dsimp only);rw[U0]
 refine A7e (ek:=eKS) (ev:=Kind.val kM) hs fun m h1 aa=>?_
 refine V4 aa fun b h2 ae=>?_
 exact hq b h2 (A4R.2 ⟨m,ae⟩)
def C3u(most:Int)(l:List (B3O×j6))(m:j6):Int×List (B3O×j6):=
 if Y8 m.1=false then(144,l)
 else if m.2.2.1<0∨2<m.2.2.1 then(155,l)
 else if m.2.1=ByteArray.mk #[] then(0,mdel l m.1)
 else if W0 l m.1=none∧most≤l.length then(151,l)
 else(0,mset l m.1 m)
theorem C51{b:Nat}{most:Int}{l:List (B3O×j6)}{m:j6}(hs:sat h (B6R b most l::old h0::R))(ht:TP h0)(hsz:m.1.size≤9223372036854775807){Q:Value→Heap→Prop}
  (hq:∀h',sat h' (B6R b most (C3u most l m).2::old h0::R)→Q (.int .u8 (C3u most l m).1) h'):V2 prog 79 #[B1m b,vM m] h Q:=by
 refine A69 (some ⟨b,0,none⟩) m h Q ?_
 obtain⟨mb,hs⟩:=A4R.1 hs
 delta A6t az bn cu es ie ji jt ki km nn nw pu rq sn ve vi
 refine V4 hs fun x h1 aa=>?_
 (try dsimp only);rw[U6,if_neg (by simp)]
 refine⟨m.1,by rw[U2];exact aa.cell 0,?_⟩
 refine U5 (A3n (aa.re [3,0,1,2]) ht hsz fun h2 aY=>⟨_,rfl,?_⟩)
 have ae:sat h2 (cells x #[.string m.1,.string m.2.1,.int .i64 m.2.2.1]::cells b #[.int .i64 most,.map (some mb)]::mapA eKS (Kind.val kM) mb l::old h0::R):=aY.re [1,2,3,0]
 clear aY aa hs
 have fin:∀{h'},sat h' (cells x #[.string m.1,.string m.2.1,.int .i64 m.2.2.1]::cells b #[.int .i64 most,.map (some mb)]::mapA eKS (Kind.val kM) mb l::old h0::R)→sat h' (B6R b most l::old h0::R):=fun hh=>A4R.2 ⟨mb,hh.drop⟩
 unfold C3u at hq
 (try dsimp only);rw[U6]
 cases hn:Y8 m.1 with
 |false=>
  rw[if_pos hn] at hq
  rw[if_pos (by simp[A2t,hn])]
  exact hq _ (fin ae)
 |true=>
 rw[if_neg (by simp[hn])] at hq
 rw[if_neg (by simp[A2t,hn])]
 refine V3 (fun z h'=>h'=h2∧z.1=decide (m.2.2.1<0∨2<m.2.2.1)) ?_ ?_
 ·refine⟨m.2.2.1,by rw[U2];exact ae.cell 2,?_⟩
  (try dsimp only);rw[U6]
  by_cases h1:m.2.2.1<0
  ·rw[if_pos (by simpa using h1)]
   exact⟨rfl,by simp[h1]⟩
  ·rw[if_neg (by simpa using h1)]
   refine⟨m.2.2.1,by rw[U2];exact ae.cell 2,rfl,?_⟩
   simp[h1]
 rintro⟨z,⟨⟩⟩ h3 ⟨rfl,hz⟩
 simp only at hz
 subst hz
 (try dsimp only);rw[U6]
 by_cases dT:m.2.2.1<0∨2<m.2.2.1
 ·rw[if_pos dT] at hq
  rw[if_pos (by simpa using dT)]
  exact hq _ (fin ae)
 rw[if_neg dT] at hq
 rw[if_neg (by simpa using dT)]
 refine⟨m.2.1,by rw[U2];exact ae.cell 1,?_⟩
 (try dsimp only);rw[U6]
 by_cases hp:m.2.1=ByteArray.mk #[]
 ·rw[if_pos hp] at hq
  rw[if_pos (by simpa using hp)]
  refine⟨_,rfl,some mb,by rw[U2];exact ae.p1.cell 1,?_⟩
  refine⟨m.1,by rw[U2];exact ae.cell 0,?_⟩
  (try dsimp only);rw[U0]
  refine A5N A88 (ae.re [2,0,1]) fun h4 ak=>?_
  exact hq _ (A4R.2 ⟨mb,(ak.re [1,2,0]).drop⟩)
 rw[if_neg hp] at hq
 rw[if_neg (by simpa using hp)]
 refine⟨_,rfl,some mb,by rw[U2];exact ae.p1.cell 1,?_⟩
 refine⟨m.1,by rw[U2];exact ae.cell 0,?_⟩
 (try dsimp only);rw[U0]
 refine u4 (kind:=kM) (z:=zM) A88 rfl (ae.re [2,0,1]) ?_
 refine V4 ae fun y h4 bq=>?_
 have ak:sat h4 (cells y #[.string (ByteArray.mk #[]),.string (ByteArray.mk #[]),.int .i64 0]::cells x #[.string m.1,.string m.2.1,.int .i64 m.2.2.1]::cells b #[.int .i64 most,.map (some mb)]::mapA eKS (Kind.val kM) mb l::old h0::R):=bq
 clear bq
 (try dsimp only);rw[U0]
 refine u4 (kind:=kM) (z:=zM) A88 rfl (ak.re [3,0,1,2]) ?_
 refine⟨rfl,?_⟩
 refine⟨m.1,by rw[U2];exact ak.p1.cell 0,rfl,?_⟩
 refine⟨some mb,by rw[U2];exact(ak.re [2,0,1]).cell 1,rfl,?_⟩
 (try dsimp only);rw[U0]
 refine l0 ak rfl rfl fun h5 fo=>?_
 have ai:sat h5 (cells x #[.string m.1,.string m.2.1,.int .i64 m.2.2.1]::cells b #[.int .i64 most,.map (some mb)]::mapA eKS (Kind.val kM) mb l::old h0::R):=fo.drop
 clear fo
 refine V3 (fun z h'=>h'=h5∧z.1=decide (W0 l m.1=none∧most≤l.length)) ?_ ?_
 ·(try dsimp only);rw[U6]
  cases hg:W0 l m.1 with
  |none=>
   rw[if_pos (by rfl)]
   refine⟨_,rfl,some mb,by rw[U2];exact ai.p1.cell 1,?_⟩
   (try dsimp only);rw[U0]
   refine A85 (ai.re [2,0,1]) ?_
   refine⟨_,rfl,most,by rw[U2];exact ai.p1.cell 0,rfl,?_⟩
   simp
  |some v=>
   rw[if_neg (by simp)]
   exact⟨rfl,by simp⟩
 rintro⟨z,⟨⟩⟩ h6 ⟨rfl,hz⟩
 simp only at hz
 subst hz
 (try dsimp only);rw[U6]
 by_cases hc:W0 l m.1=none∧most≤l.length
 ·rw[if_pos hc] at hq
  rw[if_pos (by simpa using hc)]
  exact hq _ (fin ai)
 rw[if_neg hc] at hq
 rw[if_neg (by simpa using hc)]
 refine⟨_,rfl,some mb,by rw[U2];exact ai.p1.cell 1,?_⟩
 refine⟨m.1,by rw[U2];exact ai.cell 0,?_⟩
 refine Y4 (ts:=[.str,.str,.int .i64]) m ai rfl ?_
 (try dsimp only);rw[U0]
 refine A4z (x:=m) A88 C6z (ai.re [2,0,1]) fun h7 aL=>?_
 exact hq _ (A4R.2 ⟨mb,(aL.re [1,2,0]).drop⟩)
def B8U(l:List (B3O×j6))(f:B3O)(ns:List B3O):List j6:=(ns.filter (Y9 f)).map fun n=>(W0 l n).getD zM
theorem C55{b:Nat}{most:Int}{l:List (B3O×j6)}{f:B3O}(hs:sat h (B6R b most l::old h0::R))(ht:TP h0)(hsz:f.size≤9223372036854775807)(hl:l.length≤64)(hk:∀p∈l,p.1.size≤256){Q:Value→Heap→Prop}
  (hq:∀(sl:Slc) h',sat h' (U4 z6 3 sl (B8U l f (A5t (l.map (·.1))))::B6R b most l::old h0::R)→Q (.slice sl.a sl.len sl.cap) h'):V2 prog 110 #[B1m b,.string f] h Q:=by
 refine A5W (some ⟨b,0,none⟩) f h Q ?_
 obtain⟨mb,hs⟩:=A4R.1 hs
 delta A4Z az bn cb cc ie ix km lt nn nw pu ve vi wi
 (try dsimp only);rw[U6,if_neg (by simp)]
 refine⟨_,rfl,some mb,by rw[U2];exact hs.cell 1,?_⟩
 refine U5 ?_
 refine C1G (ρk:=A7m) C5h (some mb) ?_
 refine⟨_,rfl,?_⟩
 have ae:=(hs.bJ (T:=A7m.t 23) (cs:=#[.map (some mb)]))
 refine U5 ?_
 refine B8i (ρk:=A7m) (ρs:=B3m) (ρt:=B4P) C5h C6l C7l rfl (enters_of func131 (by kernel_rfl) rfl) (enters_of func212 (by kernel_rfl) rfl) (ae.re [2,0,1])
  (fun p hp=>?_) (by omega) (ae.cell 0) fun sl h1 aj=>?_
 ·have:=hk p hp
  unfold maxLen
  omega
 have ak:=(aj.re [2,0,1,3,4]).drop
 clear aj ae hs
 have ic:(A5t (l.map (·.1))).length=l.length:=by simp[A5t,O7]
 have an:∀n∈A5t (l.map (·.1)),n.size≤256:=by
  intro n hn
  unfold A5t at hn
  obtain⟨x,hx,rfl⟩:=E4.1 hn
  obtain⟨y,hy,rfl⟩:=E4.1 ((Q8 _ _).mem_iff.1 hx)
  obtain⟨p,hp,rfl⟩:=E4.1 hy
  exact hk p hp
 generalize A5t (l.map (·.1))=ns at ak ic an hq
 have hlen:=ak.aW
 refine⟨sl,rfl,?_⟩
 (try dsimp only);rw[U0]
 refine l6 (γ:=Nat) (hb:=fun s=>by
   repeat' with_reducible first
    |refine @A0n _ _ _ _ ?_ (fun _=>?_)
    |refine @A0V _ _ _ _ ?_ ?_
   all_goals infer_instance)
  (fun g c h'=>c.2.1=(((ns.length-g:Nat)):Int)∧g≤ns.length∧sat h' (U4 z6 3 c.1 (B8U l f (ns.take (ns.length-g)))::U4 eS 1 sl ns::cells b #[.int .i64 most,.map (some mb)]::mapA eKS (Kind.val kM) mb l::old h0::R)) (fun g=>g) ns.length
  ⟨by simp,D6 _,by
   rw[Q0]
   exact Z3 (ak.re [0,2,1])⟩ ?_
 rintro g ⟨out,c,⟨⟩⟩ h2 ⟨hc,hg,ai⟩
 simp only at hc ai
 subst hc
 (try dsimp only);rw[U6]
 by_cases hi:ns.length-g<ns.length
 ·rw[if_pos (by simp only[decide_eq_true_eq,hlen];omega)]
  obtain⟨n,hn⟩:∃n,ns[ns.length-g]? =some n:=⟨_,B0 hi⟩
  have rp:n.size≤256:=an n (F1 hn)
  have hw:IntKind.wrap .i64 ((((ns.length-g:Nat)):Int)+1)=((ns.length-(g-1):Nat):Int):=by rw[V5 (by omega) (by omega)];omega
  have fk:ns.take (ns.length-(g-1))=ns.take (ns.length-g)++[n]:=by
   rw[show ns.length-(g-1)=ns.length-g+1 by omega,H7,hn]
   rfl
  (try dsimp only);rw[U0]
  refine X6 (ai.p1.aO A1C) hn fun a ha=>?_
  refine⟨n,by have:=ha 0 (.string n) rfl;rwa[Go.H.add_zero] at this,?_⟩
  refine U5 (C2n (ai.re [4,0,1,2,3]) ht hsz (by omega) fun h3 gE=>⟨_,rfl,?_⟩)
  have ay:sat h3 (U4 z6 3 out (B8U l f (ns.take (ns.length-g)))::U4 eS 1 sl ns::cells b #[.int .i64 most,.map (some mb)]::mapA eKS (Kind.val kM) mb l::old h0::R):=gE.re [1,2,3,4,0]
  clear gE ai
  refine V3 (fun z h'=>sat h' (U4 z6 3 z.1 (B8U l f (ns.take (ns.length-(g-1))))::U4 eS 1 sl ns::cells b #[.int .i64 most,.map (some mb)]::mapA eKS (Kind.val kM) mb l::old h0::R)) ?_ ?_
  ·rw[fk]
   unfold B8U
   rw[E9,B8]
   (try dsimp only);rw[U6]
   cases hm:Y9 f n with
   |true=>
    rw[if_pos rfl]
    refine⟨_,rfl,some mb,by rw[U2];exact(ay.re [2,0,1]).cell 1,?_⟩
    (try dsimp only);rw[U0]
    refine u4 (kind:=kM) (z:=zM) A88 rfl (ay.re [3,0,1,2]) ?_
    have jB:(B8U l f (ns.take (ns.length-g))).length≤64:=by
     unfold B8U
     rw[B9]
     refine C4 (D1 _ _) ?_
     rw[E1]
     omega
    refine A00 (x:=(W0 l n).getD zM) A3M A7B rfl ay (by decide) (by decide) (by omega) fun s' h4 aL=>?_
    simp only[H5,hm,if_true,J4,B6,I3]
    exact aL
   |false=>
    rw[if_neg (by simp)]
    simp only[H5,hm,H6,if_false,J4,I3,C1]
    exact ay
  rintro⟨z,⟨⟩⟩ h4 aL
  simp only[D3,E6,V0]
  exact .mk (g-1) (by omega) ⟨by simp only[hw],by omega,aL⟩
 ·rw[if_neg (by simp only[decide_eq_true_eq,hlen];omega)]
  rw[D2 (by omega)] at ai
  exact hq out h2 (((A4R.2 ⟨mb,ai.re [2,3,0,1]⟩).re [2,1,0]).drop.p1.re [1,0])
end
section
open Go.H Go.Proofs Go.Lib
variable {h h0:Heap} {R:List Asn}
theorem drop_byte{s:B3O}{i:Nat}(hi:i<s.size):s.data.toList.drop i=s.get! i::s.data.toList.drop (i+1):=by
 have h1:i<s.data.toList.length:=by rw[N0];exact hi
 rw[D9 h1]
 congr 1
 have h2:i<s.data.size:=hi
 show s.data.toList[i]=s.data[i]!
 rw[getElem!_pos s.data i h2]
 simp
theorem B1P{s:B3O}(hsz:s.size≤9223372036854775800){c:UInt8}{Q:Value→Heap→Prop}(hq:Q (.bool (hasB c s)) h):
  V2 prog 239 #[.string s,.int .u8 (c.toNat:Int)] h Q:=by
 refine B4h s _ h Q ?_
 delta B7u bn ie pu wi
 (try dsimp only);rw[U0]
 refine l6 (γ:=Nat) (fun g k h'=>h'=h∧k.1=(((s.size-g:Nat)):Int)∧g≤s.size∧hasB c s=decide (c∈s.data.toList.drop (s.size-g))) (fun g=>g) s.size ⟨rfl,by simp,D6 _,by simp[hasB]⟩ ?_
 rintro g ⟨k,⟨⟩⟩ h' ⟨rfl,hc,hg,hf⟩
 simp only at hc
 subst hc
 (try dsimp only);rw[U6]
 by_cases hi:s.size-g<s.size
 ·rw[if_pos (by simp only[decide_eq_true_eq];omega)]
  rw[drop_byte hi] at hf
  refine⟨s.get! (s.size-g),by omega,by rw[N9];exact A3h hi,?_⟩
  (try dsimp only);rw[U6,A7G]
  by_cases hb:s.get! (s.size-g)=c
  ·rw[if_pos (by simpa using hb)]
   rw[hf,show decide (c∈s.get! (s.size-g)::s.data.toList.drop (s.size-g+1))=true by simp[hb]] at hq
   simp only[D3,E6,V0]
   exact hq
  ·rw[if_neg (by simpa using hb)]
   simp only[D3,E6,V0]
   refine .mk (g-1) (by omega) ⟨rfl,by simp only;rw[V5 (by omega) (by omega)];omega,by omega,?_⟩
   rw[hf,show s.size-(g-1)=s.size-g+1 by omega]
   simp[Ne.symm hb]
 ·rw[if_neg (by simp only[decide_eq_true_eq];omega)]
  have:s.data.toList.drop (s.size-g)=[]:=by
   rw[List.drop_eq_nil_iff,N0]
   show s.size≤_
   omega
  rw[hf,this] at hq
  simp only[D3,E6,V0]
  simpa using hq
theorem C0t{s:B3O}{i:Nat}(hi:i<s.size):(s.extract i (i+1)).data.toList=[s.get! i]:=by
 have h1:=drop_byte hi
 have h2:(s.extract i (i+1)).data.toList=(s.data.toList.drop i).take 1:=by
  simp[ByteArray.data_extract,Array.toList_extract,List.extract]
 rw[h2,h1]
 rfl
theorem A4A(hs:sat h R){s:B3O}(hsz:s.size≤256){Q:Value→Heap→Prop}
  (hq:∀(sl:Slc) h',sat h' (U4 eS 1 sl (levels s)::R)→Q (.slice sl.a sl.len sl.cap) h'):
  V2 prog 241 #[.string s] h Q:=by
 refine B0n s h Q ?_
 delta B1f az bn ie nw pu ve wi
 (try dsimp only);rw[U0]
 refine l6 (γ:=Nat) (fun g k h'=>∃xs:List B3O,sat h' (U4 eS 1 k.1 xs::R)∧k.2.2.1=(((s.size-g:Nat)):Int)∧g≤s.size∧xs.length≤s.size-g∧k.2.1.size≤s.size-g∧
  xs.map (·.data.toList)++lev 47 k.2.1.data.toList (s.data.toList.drop (s.size-g))=(levels s).map (·.data.toList)) (fun g=>g) s.size
  ⟨[],Z3 hs,by simp,D6 _,C9 _,C9 _,by simp[A2P]⟩ ?_
 rintro g ⟨sl,x,i,⟨⟩⟩ h1 ⟨xs,aa,hc,hg,ye,eE,hf⟩
 simp only at hc aa eE hf
 subst hc
 (try dsimp only);rw[U6]
 by_cases hi:s.size-g<s.size
 ·rw[if_pos (by simp only[decide_eq_true_eq];omega)]
  rw[drop_byte hi] at hf
  have aw:s.size-g+1=s.size-(g-1):=by omega
  rw[aw] at hf
  have hw:IntKind.wrap .i64 ((((s.size-g:Nat)):Int)+1)=((s.size-(g-1):Nat):Int):=by rw[V5 (by omega) (by omega)];omega
  refine V3 (fun k h'=>∃xs:List B3O,sat h' (U4 eS 1 k.1 xs::R)∧xs.length≤s.size-(g-1)∧k.2.1.size≤s.size-(g-1)∧
   xs.map (·.data.toList)++lev 47 k.2.1.data.toList (s.data.toList.drop (s.size-(g-1)))=(levels s).map (·.data.toList)) ?_ ?_
  ·refine⟨s.get! (s.size-g),by omega,by rw[N9];exact A3h hi,?_⟩
   (try dsimp only);rw[U6,show(47:Int)=((47:UInt8).toNat:Int) from rfl,A7G]
   by_cases hb:s.get! (s.size-g)=47
   ·rw[if_pos (by simpa using hb)]
    refine A00 (x:=x) A1C B4C rfl aa (by decide) (by decide) (by omega) fun s' h2 ae=>?_
    refine⟨xs++[x],ae,by simp;omega,C9 _,?_⟩
    simp only[lev,if_pos hb] at hf
    rw[←hf]
    simp
   ·rw[if_neg (by simpa using hb)]
    refine⟨s.size-g,s.size-g+1,⟨by rw[hw];omega,by omega⟩,⟨rfl,by omega⟩,?_⟩
    have he:=C0t hi
    have hz:(s.extract (s.size-g) (s.size-g+1)).size=1:=by
     rw[ByteArray.size_extract]
     omega
    refine⟨by rw[hz];omega,xs,aa,by omega,?_,?_⟩
    ·simp only[ByteArray.size_append]
     omega
    ·simp only[lev,if_neg hb] at hf
     rw[←hf]
     simp only[ByteArray.data_append,Array.toList_append,he]
  rintro⟨sl',x',⟨⟩⟩ h2 ⟨xs',ae,sB,sA,nR⟩
  simp only[D3,E6,V0]
  exact .mk (g-1) (by omega) ⟨xs',ae,by simp only[hw],by omega,sB,sA,nR⟩
 ·rw[if_neg (by simp only[decide_eq_true_eq];omega)]
  have:s.data.toList.drop (s.size-g)=[]:=by
   rw[List.drop_eq_nil_iff,N0]
   show s.size≤_
   omega
  rw[this] at hf
  simp only[lev] at hf
  simp only[D3,E6,V0]
  have he:xs++[x]=levels s:=A7h (by simpa using hf)
  refine A00 (x:=x) A1C B4C rfl aa (by decide) (by decide) (by omega) fun s' h2 ae=>?_
  rw[he] at ae
  exact hq s' h2 ae
theorem B3p(hs:sat h R){s:B3O}(hsz:s.size≤9223372036854775800){Q:Value→Heap→Prop}
  (hq:∀h',sat h' R→Q (.bool (A1g s)) h'):V2 prog 238 #[.string s] h Q:=by
 refine B1d s h Q ?_
 delta B3A bn cc ie pu
 refine u6 (B3E hs s hsz ⟨(match p7 s with|some n=>((n:Int),true,())|none=>(0,false,())),by cases p7 s<;>rfl,?_⟩)
 refine V3 (fun x h'=>h'=h∧x.1= !((p7 s).isNone&&decide (s.size≠0)&&decide (s.size≤256))) ?_ ?_
 ·(try dsimp only);rw[U6]
  cases hf:p7 s with
  |some n=>
   rw[if_pos rfl]
   exact⟨rfl,rfl⟩
  |none=>
   rw[if_neg (by simp)]
   (try dsimp only);rw[U6]
   by_cases h0:s.size=0
   ·rw[if_pos (by simp[h0])]
    exact⟨rfl,by simp[h0]⟩
   ·rw[if_neg (by simpa using h0)]
    refine⟨rfl,?_⟩
    by_cases h1:s.size≤256
    ·simp[h0,h1];omega
    ·simp[h0,h1];omega
 rintro⟨x,⟨⟩⟩ h1 ⟨rfl,hx⟩
 simp only at hx
 subst hx
 unfold A1g at hq
 (try dsimp only);rw[U6]
 cases hz:((p7 s).isNone&&decide (s.size≠0)&&decide (s.size≤256)) with
 |false=>
  rw[hz] at hq
  rw[if_pos (by rfl)]
  exact hq _ hs
 |true=>
  rw[hz,G2] at hq
  rw[if_neg (by simp)]
  have hle:s.size≤256:=by
   simp only[E8,decide_eq_true_eq] at hz
   exact hz.2
  refine U5 (A4A hs hle fun sl h2 ae=>⟨sl,rfl,?_⟩)
  have hl:=ae.aW
  have:=hq _ ae.drop
  have e:decide ((sl.len:Int)≤32)=decide ((levels s).length≤32):=by rw[F9,hl];omega
  simp only[V0]
  rw[e]
  exact this
theorem A4i(hs:sat h R){s:B3O}(hsz:s.size≤9223372036854775800){Q:Value→Heap→Prop}
  (hq:∀h',sat h' R→Q (.int .i64 (A2t s)) h'):V2 prog 190 #[.string s] h Q:=by
 refine A8b s h Q ?_
 delta A7V bn cb ie pu
 refine U5 (B3p hs hsz fun h1 aa=>⟨_,rfl,?_⟩)
 refine U5 (B1P (c:=43) hsz ⟨_,rfl,?_⟩)
 refine U5 (B1P (c:=35) hsz ⟨_,rfl,?_⟩)
 refine V3 (fun x h'=>h'=h1∧x.1= !Y8 s) ?_ ?_
 ·unfold Y8
  (try dsimp only);rw[U6]
  cases A1g s with
  |false=>rw[if_pos (by rfl)];exact⟨rfl,rfl⟩
  |true=>
   rw[if_neg (by simp)]
   (try dsimp only);rw[U6]
   cases hasB 43 s with
   |true=>rw[if_pos rfl];exact⟨rfl,rfl⟩
   |false=>rw[if_neg (by simp)];exact⟨rfl,by simp⟩
 rintro⟨x,⟨⟩⟩ h2 ⟨rfl,hx⟩
 simp only at hx
 subst hx
 have:=hq _ aa
 unfold A2t at this
 (try dsimp only);rw[U6]
 cases hn:Y8 s with
 |true=>rw[hn,if_pos rfl] at this;rw[if_neg (by simp)];exact this
 |false=>rw[hn,if_neg (by simp)] at this;rw[if_pos (by rfl)];exact this
theorem A5y(hs:sat h R){s:B3O}(hsz:s.size≤9223372036854775800){Q:Value→Heap→Prop}
  (hq:∀h',sat h' R→Q (.int .i64 (A9X s)) h'):V2 prog 240 #[.string s] h Q:=by
 refine A6x s h Q ?_
 delta A5x bn cb cc ie ix lt pu wi
 refine U5 (B3p hs hsz fun h1 aa=>⟨_,rfl,?_⟩)
 unfold A9X X4 at hq
 (try dsimp only);rw[U6]
 cases hz:A1g s with
 |false=>
  rw[hz] at hq
  rw[if_pos (by rfl)]
  exact hq _ aa
 |true=>
 rw[hz,G2] at hq
 rw[if_neg (by simp)]
 have hle:=A3y hz
 refine U5 (A4A aa hle fun sl h2 ae=>⟨sl,rfl,?_⟩)
 have hlen:=ae.aW
 have aM:=ae.aO A1C
 have hn:(levels s).length≤32:=(A0T.1 hz).2.2.2
 have eE:∀x∈levels s,x.size≤256:=fun x hx=>C4 (C3R hx) hle
 generalize levels s=l at hlen aM hn hq eE
 have aj:=ae.drop
 clear ae
 (try dsimp only);rw[U0]
 refine l6 (γ:=Nat) (fun g c h'=>h'=h2∧c.1=(((l.length-g:Nat)):Int)∧g≤l.length∧A38 l=A38 (l.drop (l.length-g))) (fun g=>g) l.length ⟨rfl,by simp,D6 _,by simp⟩ ?_
 rintro g ⟨c,⟨⟩⟩ h' ⟨rfl,hc,hg,hf⟩
 simp only at hc
 subst hc
 (try dsimp only);rw[U6]
 by_cases ah:l.length-g<l.length
 ·rw[if_pos (by simp only[decide_eq_true_eq,hlen];omega)]
  obtain⟨x,hx⟩:∃x,l[l.length-g]? =some x:=⟨_,B0 ah⟩
  have yd:x.size≤256:=eE x (F1 hx)
  have ld:∀{Q:B3O→Heap→Prop},Q x h'→(HM.bind (A4q sl.a sl.len (((l.length-g:Nat)):Int) 1) fun a=>o9 .str a) h' Q:=by
   intro Q hQ
   (try dsimp only);rw[U0]
   refine X6 aM hx fun a ha=>?_
   exact⟨x,by have:=ha 0 (.string x) rfl;rwa[Go.H.add_zero] at this,hQ⟩
  have qX:∀{β:Type} {k:B3O→HM β} {Q:β→Heap→Prop},k x h' Q→(HM.bind (A4q sl.a sl.len (((l.length-g:Nat)):Int) 1) fun a=>HM.bind (o9 .str a) k) h' Q:=fun hk=>ld (Q:=fun y aR=>_) hk
  rw[A6L hx,A7x] at hf
  have fp:(l.drop (l.length-g+1)).isEmpty=decide (l.length-g+1=l.length):=by
   by_cases he:l.length-g+1=l.length
   ·rw[he];simp
   ·have:l.drop (l.length-g+1)≠[]:=by simp;omega
    cases hh:l.drop (l.length-g+1) with
    |nil=>exact absurd hh this
    |cons=>simp[he]
  rw[fp] at hf
  have hw:IntKind.wrap .i64 ((sl.len:Int)-1)=(l.length:Int)-1:=by rw[hlen];exact V5 (by omega) (by omega)
  have iZ:IntKind.wrap .i64 (((l.length-g:Nat):Int)+1)=((l.length-(g-1):Nat):Int):=by rw[V5 (by omega) (by omega)];omega
  have aw:l.length-g+1=l.length-(g-1):=by omega
  rw[aw] at hf
  rw[hw,iZ]
  refine qX ?_
  refine U5 (B1P (c:=43) (by omega) ⟨_,rfl,?_⟩)
  refine qX ?_
  refine U5 (B1P (c:=35) (by omega) ⟨_,rfl,?_⟩)
  unfold B2N at hf
  refine V3 (fun z aR=>aR=h'∧z.1=(hasB 43 x&&decide (x≠r6))) ?_ ?_
  ·(try dsimp only);rw[U6]
   cases hasB 43 x with
   |true=>
    rw[if_pos rfl]
    refine qX ⟨rfl,?_⟩
    by_cases hp:x=ByteArray.mk #[43]<;>simp[r6,hp]
   |false=>rw[if_neg (by simp)];exact⟨rfl,rfl⟩
  rintro⟨z,⟨⟩⟩ aR ⟨rfl,dv⟩
  simp only at dv
  subst dv
  (try dsimp only);rw[U6]
  cases ha:(hasB 43 x&&decide (x≠r6)) with
  |true=>
   rw[ha,Bool.true_or,N3,J6] at hf
   rw[hf,if_neg (by simp)] at hq
   rw[if_pos rfl]
   simp only[D3,E6,V0]
   exact hq _ aj
  |false=>
  rw[ha,R8] at hf
  rw[if_neg (by simp)]
  refine V3 (fun z h'=>h'=aR∧z.1=(hasB 35 x&&(decide (x≠o3)|| !decide (l.length-(g-1)=l.length)))) ?_ ?_
  ·(try dsimp only);rw[U6]
   cases hasB 35 x with
   |true=>
    rw[if_pos rfl]
    refine qX ?_
    (try dsimp only);rw[U6]
    by_cases kJ:x=o3
    ·rw[if_neg (by simpa[o3] using kJ)]
     refine⟨rfl,?_⟩
     simp only[kJ,ne_eq,not_true_eq_false,decide_false,R8,G2]
     rw[←decide_not,F9]
     omega
    ·rw[if_pos (by simpa[o3] using kJ)]
     exact⟨rfl,by simp[kJ]⟩
   |false=>rw[if_neg (by simp)];exact⟨rfl,rfl⟩
  rintro⟨z,⟨⟩⟩ h3 ⟨rfl,dv⟩
  simp only at dv
  subst dv
  (try dsimp only);rw[U6]
  cases hb:(hasB 35 x&&(decide (x≠o3)|| !decide (l.length-(g-1)=l.length))) with
  |true=>
   rw[hb,N3,J6] at hf
   rw[hf,if_neg (by simp)] at hq
   rw[if_pos rfl]
   simp only[D3,E6,V0]
   exact hq _ aj
  |false=>
   rw[hb,S3,G2] at hf
   rw[if_neg (by simp)]
   simp only[D3,E6,V0]
   exact .mk (g-1) (by omega) ⟨rfl,rfl,by omega,hf⟩
 ·rw[if_neg (by simp only[decide_eq_true_eq,hlen];omega)]
  simp only[D3,E6,V0]
  have:l.drop (l.length-g)=[]:=by simp;omega
  rw[this] at hf
  rw[hf] at hq
  exact hq _ aj
theorem C5C{f n:B3O}(hf:f.size≠0)(hn:n.size≠0){Q:Bool×Unit→Heap→Prop}(hq:Q (A3T f n,()) h):
  (HM.bind (α:=Int) (A5f n 0) fun(x4:Int)=>
   A1s (x4==36) (
   HM.bind (α:=Int) (A5f f 0) fun(x5:Int)=>
   A1s (x5==43) (
   X0 (true,())) (
   HM.bind (α:=Int) (A5f f 0) fun(x6:Int)=>
   X0 (x6==35,()))) (
   X0 (false,()))) h Q:=by
 unfold A3T at hq
 refine⟨n.get! 0,by decide,A3h (k:=0) (by omega),?_⟩
 (try dsimp only);rw[U6,show(36:Int)=((36:UInt8).toNat:Int) from rfl,A7G]
 by_cases jN:n.get! 0=36
 ·rw[if_pos (by simpa using jN)]
  refine⟨f.get! 0,by decide,A3h (k:=0) (by omega),?_⟩
  (try dsimp only);rw[U6,show(43:Int)=((43:UInt8).toNat:Int) from rfl,A7G]
  by_cases en:f.get! 0=43
  ·rw[if_pos (by simpa using en)]
   simp only[jN,en,decide_true,G2,Bool.true_or] at hq
   exact hq
  ·rw[if_neg (by simpa using en)]
   refine⟨f.get! 0,by decide,A3h (k:=0) (by omega),?_⟩
   simp only[V0]
   rw[show(35:Int)=((35:UInt8).toNat:Int) from rfl,A7G]
   simp only[jN,en,decide_true,decide_false,G2,R8] at hq
   exact hq
 ·rw[if_neg (by simpa using jN)]
  simp only[jN,decide_false,J6] at hq
  exact hq
theorem B3D(hs:sat h R){f n:B3O}(oJ:f.size≤9223372036854775800)(rp:n.size≤9223372036854775800){Q:Value→Heap→Prop}
  (hq:∀h',sat h' R→Q (.bool (Y9 f n)) h'):V2 prog 192 #[.string f,.string n] h Q:=by
 refine B1e f n h Q ?_
 delta B3B bn cc ci ie ix lt pu wi
 refine U5 (A5y hs oJ fun h1 aa=>⟨_,rfl,?_⟩)
 refine U5 (A4i aa rp fun h2 ae=>⟨_,rfl,?_⟩)
 refine V3 (fun x h'=>h'=h2∧x.1= !(X4 f&&Y8 n)) ?_ ?_
 ·unfold A9X A2t
  (try dsimp only);rw[U6]
  cases hf:X4 f with
  |false=>rw[if_pos (by rfl)];exact⟨rfl,rfl⟩
  |true=>
   rw[if_neg (by simp)]
   cases hn:Y8 n<;>exact⟨rfl,rfl⟩
 rintro⟨x,⟨⟩⟩ h3 ⟨rfl,hx⟩
 simp only at hx
 subst hx
 unfold Y9 at hq
 (try dsimp only);rw[U6]
 cases ag:(X4 f&&Y8 n) with
 |false=>
  rw[ag] at hq
  rw[if_pos (by rfl)]
  exact hq _ ae
 |true=>
 rw[ag,G2] at hq
 rw[if_neg (by simp)]
 rw[E8] at ag
 have i':=A0T.1 (A0u ag.1)
 have eK:=A0T.1 (A4C ag.2)
 refine V3 (fun x h'=>h'=h3∧x.1=A3T f n) (C5C i'.2.1 eK.2.1 ⟨rfl,rfl⟩) ?_
 rintro⟨x,⟨⟩⟩ h4 ⟨rfl,hx⟩
 simp only at hx
 subst hx
 (try dsimp only);rw[U6]
 cases iA:A3T f n with
 |true=>
  rw[iA] at hq
  rw[if_pos rfl]
  exact hq _ ae
 |false=>
 rw[iA,S3,G2] at hq
 rw[if_neg (by simp)]
 refine U5 (A4A ae i'.2.2.1 fun sf h3 aj=>⟨sf,rfl,?_⟩)
 refine U5 (A4A aj eK.2.2.1 fun sn h4 ak=>⟨sn,rfl,?_⟩)
 have pO:=ak.aO A1C
 have nE:=ak.p1.aO A1C
 have ai:sat h4 R:=ak.drop.drop
 have uT:(levels f).length≤32:=i'.2.2.2
 have jU:(levels n).length≤32:=eK.2.2.2
 clear ak aj
 generalize levels f=lf at*
 generalize levels n=ln at*
 have fc:=nE.1
 have fg:=pO.1
 (try dsimp only);rw[U0]
 refine l6 (γ:=Nat) (fun g c h'=>h'=h4∧c.1=(((lf.length-g:Nat)):Int)∧g≤lf.length∧lf.length-g≤ln.length∧A2m lf ln=A2m (lf.drop (lf.length-g)) (ln.drop (lf.length-g))) (fun g=>g) lf.length ⟨rfl,by simp,D6 _,by simp,by simp⟩ ?_
 rintro g ⟨c,⟨⟩⟩ h' ⟨rfl,hc,hg,rA,hm⟩
 simp only at hc
 subst hc
 (try dsimp only);rw[U6]
 by_cases ah:lf.length-g<lf.length
 ·rw[if_pos (by simp only[decide_eq_true_eq,fc];omega)]
  obtain⟨x,hx⟩:∃x,lf[lf.length-g]? =some x:=⟨_,B0 ah⟩
  have ldf:∀{β:Type} {k:B3O→HM β} {Q:β→Heap→Prop},k x h' Q→(HM.bind (A4q sf.a sf.len (((lf.length-g:Nat)):Int) 1) fun a=>HM.bind (o9 .str a) k) h' Q:=by
   intro β k Q hQ
   (try dsimp only);rw[U0]
   refine X6 nE hx fun a ha=>?_
   exact⟨x,by have:=ha 0 (.string x) rfl;rwa[Go.H.add_zero] at this,hQ⟩
  rw[A6L hx,A34] at hm
  have aw:lf.length-g+1=lf.length-(g-1):=by omega
  have iZ:IntKind.wrap .i64 (((lf.length-g:Nat):Int)+1)=((lf.length-(g-1):Nat):Int):=by rw[V5 (by omega) (by omega)];omega
  rw[iZ]
  refine ldf ?_
  (try dsimp only);rw[U6]
  by_cases kH:x=o3
  ·rw[if_pos kH] at hm
   rw[hm] at hq
   rw[if_pos (by simpa[o3] using kH)]
   simp only[D3,E6,V0]
   exact hq _ ai
  rw[if_neg kH] at hm
  rw[if_neg (by simpa[o3] using kH)]
  (try dsimp only);rw[U6]
  by_cases xa:ln.length≤lf.length-g
  ·rw[if_pos (by simp only[decide_eq_true_eq];omega)]
   rw[show ln.drop (lf.length-g)=[] by simp;omega] at hm
   rw[hm] at hq
   simp only[D3,E6,V0]
   exact hq _ ai
  rw[if_neg (by simp only[decide_eq_true_eq];omega)]
  obtain⟨y,hy⟩:∃y,ln[lf.length-g]? =some y:=⟨_,B0 (by omega)⟩
  rw[A6L hy,aw] at hm
  simp only at hm
  refine V3 (fun z aR=>aR=h'∧z.1=decide (x≠r6∧x≠y)) ?_ ?_
  ·refine ldf ?_
   (try dsimp only);rw[U6]
   by_cases nu:x=r6
   ·rw[if_neg (by simpa[r6] using nu)]
    exact⟨rfl,by simp[nu]⟩
   ·rw[if_pos (by simpa[r6] using nu)]
    refine ldf ?_
    (try dsimp only);rw[U0]
    refine X6 pO hy fun a ha=>?_
    refine⟨y,by have:=ha 0 (.string y) rfl;rwa[Go.H.add_zero] at this,rfl,?_⟩
    by_cases oy:x=y<;>simp[nu,oy]
  rintro⟨z,⟨⟩⟩ aR ⟨rfl,hz⟩
  simp only at hz
  subst hz
  (try dsimp only);rw[U6]
  by_cases hc:x≠r6∧x≠y
  ·rw[if_pos hc] at hm
   rw[hm] at hq
   rw[if_pos (by simpa using hc)]
   simp only[D3,E6,V0]
   exact hq _ ai
  ·rw[if_neg hc] at hm
   rw[if_neg (by simpa using hc)]
   simp only[D3,E6,V0]
   exact .mk (g-1) (by omega) ⟨rfl,rfl,by omega,by omega,hm⟩
 ·rw[if_neg (by simp only[decide_eq_true_eq,fc];omega)]
  simp only[D3,E6,V0]
  rw[show lf.drop (lf.length-g)=[] by simp;omega] at hm
  have he:((sf.len:Int)==(sn.len:Int))=A2m lf ln:=by
   rw[hm]
   simp only[A2m]
   rw[fc,fg]
   by_cases he:lf.length=ln.length
   ·rw[show ln.drop (lf.length-g)=[] by simp;omega]
    simp[he]
   ·cases hd:ln.drop (lf.length-g) with
    |nil=>rw[List.drop_eq_nil_iff] at hd;omega
    |cons=>simpa using fun e=>he (by omega)
  rw[he]
  exact hq _ ai
end
section
open Go.H Go.Proofs Go.Lib
variable {h h0:Heap} {R:List Asn}
def A1L(b:Nat)(most:Int)(L:List j6):Asn:=exA fun s:Slc=>star (cells b #[.int .i64 most,.slice s.a s.len s.cap]) (U4 z6 3 s L)
theorem A2J{b:Nat}{most:Int}{L:List j6}:sat h (A1L b most L::R)↔∃s:Slc,sat h (cells b #[.int .i64 most,.slice s.a s.len s.cap]::U4 z6 3 s L::R):=by
 unfold A1L
 rw[sat.bA]
 constructor
 ·rintro⟨m,hs⟩;exact⟨m,sat.aI.1 hs⟩
 ·rintro⟨m,hs⟩;exact⟨m,sat.aI.2 hs⟩
theorem C3E(hs:sat h R)(n:Int){Q:Value→Heap→Prop}(hq:∀b h',sat h' (A1L b (B8H n) []::R)→Q (B1m b) h'):V2 prog 45 #[.int .i64 n] h Q:=by
 refine B4b n h Q ?_
 delta B7o az bn ie nw pu vi vz
 refine V3 (fun z h'=>h'=h∧z.1=if n<0 then 0 else n) ?_ ?_
 ·(try dsimp only);rw[U6]
  by_cases h1:n<0
  ·rw[if_pos (by simpa using h1)];exact⟨rfl,by simp[h1]⟩
  ·rw[if_neg (by simpa using h1)];exact⟨rfl,by simp[h1]⟩
 rintro⟨x,⟨⟩⟩ h1 ⟨rfl,hx⟩
 simp only at hx
 subst hx
 refine V3 (fun z h'=>h'=h1∧z.1=B8H n) ?_ ?_
 ·(try dsimp only);rw[U6]
  unfold B8H
  by_cases h2:64<(if n<0 then 0 else n)
  ·rw[if_pos (by simpa using h2)]
   refine⟨rfl,?_⟩
   simp only
   split at h2<;>split<;>split<;>omega
  ·rw[if_neg (by simpa using h2)]
   refine⟨rfl,?_⟩
   simp only
   split at h2<;>split<;>split<;>omega
 rintro⟨x,⟨⟩⟩ h2 ⟨rfl,hx⟩
 simp only at hx
 subst hx
 refine V4 hs fun b h3 aj=>?_
 exact hq b h3 (A2J.2 ⟨⟨none,0,0⟩,(Z3 (enc:=z6) (size:=3) aj).p1⟩)
theorem B5y{a:Addr}{m:j6}(ha:∀j v,(z6 m)[j]? =some v→V9 h (a.add j)=some v){Q:j6→Heap→Prop}(hq:Q m h):o4 [.str,.str,.int .i64] a h Q:=
 A0j (ts:=[.str,.str,.int .i64]) m (fun i v hv=>ha i v hv) hq
def A4s(L:List j6)(k:B3O):List j6:=L.filter fun m=>decide (m.1≠k)
theorem B8b{s:Slc}{L:List j6}{k:B3O}(hs:sat h (U4 z6 3 s L::R))(hL:L.length≤1000){Q:Value→Heap→Prop}
  (hq:∀(sl:Slc) h',sat h' (U4 z6 3 sl (A4s L k)::U4 z6 3 s L::R)→Q (.slice sl.a sl.len sl.cap) h'):V2 prog 191 #[.slice s.a s.len s.cap,.string k] h Q:=by
 refine A9q s k h Q ?_
 delta A9N az bn ie ix kt nw pu ve vi wi
 have hlen:=hs.aW
 (try dsimp only);rw[U0]
 refine l6 (γ:=Nat) (fun g c h'=>c.2.1=(((L.length-g:Nat)):Int)∧g≤L.length∧sat h' (U4 z6 3 c.1 (A4s (L.take (L.length-g)) k)::U4 z6 3 s L::R)) (fun g=>g) L.length
  ⟨by simp,D6 _,by rw[Q0];exact Z3 hs⟩ ?_
 rintro g ⟨out,c,⟨⟩⟩ h2 ⟨hc,hg,ai⟩
 simp only at hc ai
 subst hc
 (try dsimp only);rw[U6]
 by_cases hi:L.length-g<L.length
 ·rw[if_pos (by simp only[decide_eq_true_eq,hlen];omega)]
  obtain⟨m,hm⟩:∃m,L[L.length-g]? =some m:=⟨_,B0 hi⟩
  have hw:IntKind.wrap .i64 ((((L.length-g:Nat)):Int)+1)=((L.length-(g-1):Nat):Int):=by rw[V5 (by omega) (by omega)];omega
  have fk:L.take (L.length-(g-1))=L.take (L.length-g)++[m]:=by
   rw[show L.length-(g-1)=L.length-g+1 by omega,H7,hm]
   rfl
  (try dsimp only);rw[U0]
  refine X6 (ai.p1.aO A3M) hm fun a ha=>?_
  refine⟨m.1,ha 0 _ rfl,?_⟩
  refine V3 (fun z h'=>sat h' (U4 z6 3 z.1 (A4s (L.take (L.length-(g-1))) k)::U4 z6 3 s L::R)) ?_ ?_
  ·rw[fk]
   unfold A4s
   rw[E9]
   (try dsimp only);rw[U6]
   by_cases he:m.1=k
   ·rw[if_neg (by simpa using he)]
    simp only[H5,he,ne_eq,not_true_eq_false,decide_false,H6,if_false,J4,C1]
    exact ai
   ·rw[if_pos (by simpa using he)]
    (try dsimp only);rw[U0]
    refine X6 (ai.p1.aO A3M) hm fun a' iV=>?_
    (try dsimp only);rw[U0]
    refine B5y iV ?_
    have jB:(A4s (L.take (L.length-g)) k).length≤1000:=by
     unfold A4s
     refine C4 (D1 _ _) ?_
     rw[E1]
     omega
    refine A00 (x:=m) A3M A7B rfl ai (by decide) (by decide) (by omega) fun s' h4 aL=>?_
    simp only[H5,he,ne_eq,not_false_eq_true,decide_true,if_true,J4]
    exact aL
  rintro⟨z,⟨⟩⟩ h4 aL
  simp only[D3,E6,V0]
  exact .mk (g-1) (by omega) ⟨by simp only[hw],by omega,aL⟩
 ·rw[if_neg (by simp only[decide_eq_true_eq,hlen];omega)]
  rw[D2 (by omega)] at ai
  exact hq out h2 ai
def B0a(most:Int)(L:List j6)(m:j6):Int×List j6:=
 if Y8 m.1=false then(144,L)
 else if m.2.2.1<0∨2<m.2.2.1 then(155,L)
 else if m.2.1.size=0 then(0,A4s L m.1)
 else if(A4s L m.1).length=L.length∧most≤(A4s L m.1).length then(151,L)
 else(0,A2o ltS (·.1) m (A4s L m.1))
def A8F(m:j6):List j6→Bool×List j6
 |[]=>(false,[])
 |x::r=>if ltS m.1 x.1 then(true,m::x::r) else((A8F m r).1,x::(A8F m r).2)
theorem C1K(m:j6):∀L:List j6,A2o ltS (·.1) m L=(if(A8F m L).1=true then(A8F m L).2 else(A8F m L).2++[m])
 |[]=>rfl
 |x::r=>by
  unfold A2o A8F
  split
  ·simp
  ·rw[C1K m r]
   split<;>rename_i h1<;>simp[h1]
def A3f(m:j6)(L:List j6):Bool×List j6:=L.foldl (fun c x=>if c.1=false∧ltS m.1 x.1 then(true,c.2++[m,x]) else(c.1,c.2++[x])) (false,[])
theorem C1L(m:j6)(L:List j6)(x:j6):A3f m (L++[x])=(if(A3f m L).1=false∧ltS m.1 x.1 then(true,(A3f m L).2++[m,x]) else((A3f m L).1,(A3f m L).2++[x])):=by
 unfold A3f
 rw[List.foldl_append]
 rfl
theorem B5D(m:j6):∀(L out:List j6),L.foldl (fun c x=>if c.1=false∧ltS m.1 x.1 then(true,c.2++[m,x]) else(c.1,c.2++[x])) (true,out)=(true,out++L)
 |[],out=>by simp
 |x::r,out=>by
  rw[I0,if_neg (by simp),B5D m r]
  simp
theorem B5E(m:j6):∀(L out:List j6),L.foldl (fun c x=>if c.1=false∧ltS m.1 x.1 then(true,c.2++[m,x]) else(c.1,c.2++[x])) (false,out)=((A8F m L).1,out++(A8F m L).2)
 |[],out=>by simp[A8F]
 |x::r,out=>by
  rw[I0]
  by_cases hx:ltS m.1 x.1
  ·rw[if_pos ⟨rfl,hx⟩,B5D]
   simp[A8F,hx]
  ·rw[if_neg (fun h=>hx h.2),B5E m r]
   simp[A8F,hx]
theorem C3U(m:j6)(L:List j6):A2o ltS (·.1) m L=(if(A3f m L).1=true then(A3f m L).2 else(A3f m L).2++[m]):=by
 unfold A3f
 rw[B5E,C1K]
 simp
theorem B7K(m:j6):∀(L:List j6),(A3f m L).2.length≤L.length+1:=fun L=>by
 unfold A3f
 rw[B5E]
 have:=(A1J ltS (fun x:j6=>x.1) m L).length_eq
 rw[C1K] at this
 simp only[F2,B7] at this⊢
 split at this
 ·omega
 ·simp at this;omega
theorem C3C{b:Nat}{most:Int}{L:List j6}{m:j6}(hs:sat h (A1L b most L::R))(hL:L.length≤64)(hsz:m.1.size≤9223372036854775800){Q:Value→Heap→Prop}
  (hq:∀h',sat h' (A1L b most (B0a most L m).2::R)→Q (.int .i64 (B0a most L m).1) h'):V2 prog 136 #[B1m b,vM m] h Q:=by
 refine B4a (some ⟨b,0,none⟩) m h Q ?_
 obtain⟨s,hs⟩:=A2J.1 hs
 delta B7n az bn cc ci ie ix ji jt kc ki kt nn nw pu sx ve vi vs wi
 refine V4 hs fun x h1 aa=>?_
 refine⟨m.1,by rw[U2];exact aa.cell 0,?_⟩
 refine U5 (A4i aa hsz fun h2 aY=>⟨_,rfl,?_⟩)
 have ae:sat h2 (cells x (z6 m).toArray::cells b #[.int .i64 most,.slice s.a s.len s.cap]::U4 z6 3 s L::R):=aY
 clear aY aa hs
 have fin:∀{h'},sat h' (cells x (z6 m).toArray::cells b #[.int .i64 most,.slice s.a s.len s.cap]::U4 z6 3 s L::R)→sat h' (A1L b most L::R):=fun hh=>A2J.2 ⟨s,hh.drop⟩
 unfold B0a at hq
 (try dsimp only);rw[U6]
 cases hn:Y8 m.1 with
 |false=>
  rw[if_pos hn] at hq
  rw[if_pos (by simp[A2t,hn])]
  exact hq _ (fin ae)
 |true=>
 rw[if_neg (by simp[hn])] at hq
 rw[if_neg (by simp[A2t,hn])]
 refine V3 (fun z h'=>h'=h2∧z.1=decide (m.2.2.1<0∨2<m.2.2.1)) ?_ ?_
 ·refine⟨m.2.2.1,by rw[U2];exact ae.cell 2,?_⟩
  (try dsimp only);rw[U6]
  by_cases h1:m.2.2.1<0
  ·rw[if_pos (by simpa using h1)]
   exact⟨rfl,by simp[h1]⟩
  ·rw[if_neg (by simpa using h1)]
   refine⟨m.2.2.1,by rw[U2];exact ae.cell 2,rfl,?_⟩
   simp[h1]
 rintro⟨z,⟨⟩⟩ h3 ⟨rfl,hz⟩
 simp only at hz
 subst hz
 (try dsimp only);rw[U6]
 by_cases dT:m.2.2.1<0∨2<m.2.2.1
 ·rw[if_pos dT] at hq
  rw[if_pos (by simpa using dT)]
  exact hq _ (fin ae)
 rw[if_neg dT] at hq
 rw[if_neg (by simpa using dT)]
 refine⟨_,rfl,s,by rw[U2];exact ae.p1.cell 1,?_⟩
 refine⟨m.1,by rw[U2];exact ae.cell 0,?_⟩
 refine U5 (B8b (ae.re [2,0,1]) (by omega) fun sl h4 bq=>⟨sl,rfl,?_⟩)
 have ak:sat h4 (cells x (z6 m).toArray::cells b #[.int .i64 most,.slice s.a s.len s.cap]::U4 z6 3 sl (A4s L m.1)::U4 z6 3 s L::R):=bq.re [2,3,0,1]
 clear bq ae
 have wI:(A4s L m.1).length≤64:=C4 (D1 _ _) hL
 generalize A4s L m.1=T at ak hq wI
 have fc:sl.len=T.length:=(ak.re [2,0,1]).aW
 have fg:s.len=L.length:=(ak.re [3,0,1,2]).aW
 refine⟨m.2.1,by rw[U2];exact ak.cell 1,?_⟩
 (try dsimp only);rw[U6]
 by_cases hp:m.2.1.size=0
 ·rw[if_pos hp] at hq
  rw[if_pos (by simp[hp])]
  refine⟨_,rfl,?_⟩
  (try dsimp only);rw[U0,U2]
  refine W5 ak.p1 (by simp) rfl fun h5 ai=>?_
  exact hq _ (A2J.2 ⟨sl,(ai.re [0,2,1,3]).re [0,1]|>.re [2,3,0,1]|>.drop.drop⟩)
 rw[if_neg hp] at hq
 rw[if_neg (by simpa using hp)]
 refine V3 (fun z h'=>h'=h4∧z.1=decide (T.length=L.length∧most≤T.length)) ?_ ?_
 ·refine⟨_,rfl,s,by rw[U2];exact ak.p1.cell 1,?_⟩
  (try dsimp only);rw[U6]
  by_cases he:T.length=L.length
  ·rw[if_pos (by simp[fc,fg,he])]
   refine⟨_,rfl,most,by rw[U2];exact ak.p1.cell 0,rfl,?_⟩
   rw[fc]
   simp[he]
  ·rw[if_neg (by simp[fc,fg];omega)]
   exact⟨rfl,by simp[he]⟩
 rintro⟨z,⟨⟩⟩ h5 ⟨rfl,hz⟩
 simp only at hz
 subst hz
 (try dsimp only);rw[U6]
 by_cases hc:T.length=L.length∧most≤T.length
 ·rw[if_pos hc] at hq
  rw[if_pos (by simpa using hc)]
  exact hq _ (A2J.2 ⟨s,(ak.drop.re [1,0,2]).drop⟩)
 rw[if_neg hc] at hq
 rw[if_neg (by simpa using hc)]
 (try dsimp only);rw[U0]
 refine l6 (γ:=Nat) (hb:=fun s=>by
   repeat' with_reducible first
    |refine @A0n _ _ _ _ ?_ (fun _=>?_)
    |refine @A0V _ _ _ _ ?_ ?_
   all_goals infer_instance)
  (fun g c h'=>c.2.2.1=(((T.length-g:Nat)):Int)∧g≤T.length∧c.1=(A3f m (T.take (T.length-g))).1∧
   sat h' (U4 z6 3 c.2.1 (A3f m (T.take (T.length-g))).2::cells x (z6 m).toArray::cells b #[.int .i64 most,.slice s.a s.len s.cap]::U4 z6 3 sl T::U4 z6 3 s L::R)) (fun g=>g) T.length
  ⟨by simp,D6 _,by simp[A3f],by
   rw[Q0]
   exact Z3 ak⟩ ?_
 rintro g ⟨pb,out,c,⟨⟩⟩ h2 ⟨qD,hg,pU,ai⟩
 simp only at qD ai pU
 subst qD
 subst pU
 (try dsimp only);rw[U6]
 by_cases hi:T.length-g<T.length
 ·rw[if_pos (by simp only[decide_eq_true_eq,fc];omega)]
  obtain⟨y,hy⟩:∃y,T[T.length-g]? =some y:=⟨_,B0 hi⟩
  have hw:IntKind.wrap .i64 ((((T.length-g:Nat)):Int)+1)=((T.length-(g-1):Nat):Int):=by rw[V5 (by omega) (by omega)];omega
  have fk:T.take (T.length-(g-1))=T.take (T.length-g)++[y]:=by
   rw[show T.length-(g-1)=T.length-g+1 by omega,H7,hy]
   rfl
  have dQ:=C1L m (T.take (T.length-g)) y
  rw[←fk] at dQ
  have lz:=B7K m (T.take (T.length-g))
  rw[E1] at lz
  generalize A3f m (T.take (T.length-g))=st at ai dQ lz⊢
  refine V3 (fun z h'=>h'=h2∧z.1=decide (st.1=false∧ltS m.1 y.1)) ?_ ?_
  ·(try dsimp only);rw[U6]
   cases bH:st.1 with
   |true=>rw[if_neg (by simp)];exact⟨rfl,by simp⟩
   |false=>
    rw[if_pos (by rfl)]
    refine⟨m.1,by rw[U2];exact ai.p1.cell 0,?_⟩
    (try dsimp only);rw[U0]
    refine X6 ((ai.re [3,0,1,2]).aO A3M) hy fun a ha=>?_
    refine⟨y.1,ha 0 _ rfl,rfl,?_⟩
    simp only[B99,true_and]
  rintro⟨z,⟨⟩⟩ h6 ⟨rfl,hz⟩
  simp only at hz
  subst hz
  refine V3 (fun z h'=>z.2.1=(A3f m (T.take (T.length-(g-1)))).1∧∃pre,pre++[y]=(A3f m (T.take (T.length-(g-1)))).2∧pre.length≤100∧sat h' (U4 z6 3 z.1 pre::cells x (z6 m).toArray::cells b #[.int .i64 most,.slice s.a s.len s.cap]::U4 z6 3 sl T::U4 z6 3 s L::R)) ?_ ?_
  ·rw[dQ]
   (try dsimp only);rw[U6]
   by_cases fh:st.1=false∧ltS m.1 y.1
   ·rw[if_pos (by simpa using fh),if_pos fh]
    refine Y4 (ts:=[.str,.str,.int .i64]) m ai.p1 rfl ?_
    refine A00 (x:=m) A3M A7B rfl ai (by decide) (by decide) (by omega) fun s' h7 aL=>?_
    exact⟨rfl,st.2++[m],by simp,by simp;omega,aL⟩
   ·rw[if_neg (by simpa using fh),if_neg fh]
    exact⟨rfl,st.2,rfl,by omega,ai⟩
  rintro⟨z1,z2,⟨⟩⟩ h7 ⟨gu,pre,jE,lC,aL⟩
  simp only at gu aL
  (try dsimp only);rw[U0]
  refine X6 ((aL.re [3,0,1,2]).aO A3M) hy fun a ha=>?_
  (try dsimp only);rw[U0]
  refine B5y ha ?_
  refine A00 (x:=y) A3M A7B rfl aL (by decide) (by decide) (by omega) fun s' h8 bu=>?_
  rw[jE] at bu
  simp only[D3,E6,V0]
  exact .mk (g-1) (by omega) ⟨by simp only[hw],by omega,gu,bu⟩
 ·rw[if_neg (by simp only[decide_eq_true_eq,fc];omega)]
  rw[D2 (by omega)] at ai⊢
  have qu:=C3U m T
  have lz:=B7K m T
  generalize A3f m T=st at ai qu lz⊢
  simp only[D3,E6,V0]
  refine V3 (fun z h'=>sat h' (U4 z6 3 z.1 (A2o ltS (·.1) m T)::cells x (z6 m).toArray::cells b #[.int .i64 most,.slice s.a s.len s.cap]::U4 z6 3 sl T::U4 z6 3 s L::R)) ?_ ?_
  ·rw[qu]
   (try dsimp only);rw[U6]
   cases bH:st.1 with
   |true=>rw[if_neg (by simp),if_pos rfl];exact ai
   |false=>
    rw[if_pos (by rfl),if_neg (by simp)]
    refine Y4 (ts:=[.str,.str,.int .i64]) m ai.p1 rfl ?_
    refine A00 (x:=m) A3M A7B rfl ai (by decide) (by decide) (by omega) fun s' h7 aL=>aL
  rintro⟨z,⟨⟩⟩ h7 aL
  simp only at aL
  refine⟨_,rfl,?_⟩
  (try dsimp only);rw[U0,U2]
  refine W5 (aL.re [2,0,1]) (by simp) rfl fun h8 bu=>?_
  exact hq _ (A2J.2 ⟨z,(bu.re [2,3,4,0,1]).drop.drop.drop⟩)
def C7D(L:List j6)(k:B3O):Option j6:=L.find? fun m=>decide (m.1=k)
def A51(L:List j6)(f:B3O):List j6:=L.filter fun m=>Y9 f m.1
theorem C3G{b:Nat}{most:Int}{L:List j6}{f:B3O}(hs:sat h (A1L b most L::R))(hL:L.length≤64)(hk:∀m∈L,m.1.size≤256)(hsz:f.size≤9223372036854775800){Q:Value→Heap→Prop}
  (hq:∀(sl:Slc) h',sat h' (U4 z6 3 sl (A51 L f)::A1L b most L::R)→Q (.slice sl.a sl.len sl.cap) h'):V2 prog 197 #[B1m b,.string f] h Q:=by
 refine B04 (some ⟨b,0,none⟩) f h Q ?_
 obtain⟨s,hs⟩:=A2J.1 hs
 have hl:s.len=L.length:=hs.p1.aW
 delta B3t az bn cb ie ix kc kt nn nw pu ve vi wi
 (try dsimp only);rw[U0]
 refine l6 (γ:=Nat) (hb:=fun s=>by
   repeat' with_reducible first
    |refine @A0n _ _ _ _ ?_ (fun _=>?_)
    |refine @A0V _ _ _ _ ?_ ?_
   all_goals infer_instance)
  (fun g c h'=>c.2.1=(((L.length-g:Nat)):Int)∧g≤L.length∧sat h' (U4 z6 3 c.1 (A51 (L.take (L.length-g)) f)::cells b #[.int .i64 most,.slice s.a s.len s.cap]::U4 z6 3 s L::R)) (fun g=>g) L.length
  ⟨by simp,D6 _,by rw[Q0];exact Z3 hs⟩ ?_
 rintro g ⟨out,c,⟨⟩⟩ h2 ⟨hc,hg,ai⟩
 simp only at hc ai
 subst hc
 refine⟨_,rfl,s,by rw[U2];exact ai.p1.cell 1,?_⟩
 (try dsimp only);rw[U6]
 by_cases hi:L.length-g<L.length
 ·rw[if_pos (by simp only[decide_eq_true_eq,hl];omega)]
  obtain⟨m,hm⟩:∃m,L[L.length-g]? =some m:=⟨_,B0 hi⟩
  have ti:m.1.size≤256:=hk m (F1 hm)
  have hw:IntKind.wrap .i64 ((((L.length-g:Nat)):Int)+1)=((L.length-(g-1):Nat):Int):=by rw[V5 (by omega) (by omega)];omega
  have fk:L.take (L.length-(g-1))=L.take (L.length-g)++[m]:=by
   rw[show L.length-(g-1)=L.length-g+1 by omega,H7,hm]
   rfl
  refine⟨_,rfl,s,by rw[U2];exact ai.p1.cell 1,?_⟩
  (try dsimp only);rw[U0]
  refine X6 ((ai.re [2,0,1]).aO A3M) hm fun a ha=>?_
  refine⟨m.1,ha 0 _ rfl,?_⟩
  refine U5 (B3D ai hsz (by omega) fun h3 gE=>⟨_,rfl,?_⟩)
  have ay:sat h3 (U4 z6 3 out (A51 (L.take (L.length-g)) f)::cells b #[.int .i64 most,.slice s.a s.len s.cap]::U4 z6 3 s L::R):=gE
  clear gE ai
  refine V3 (fun z h'=>sat h' (U4 z6 3 z.1 (A51 (L.take (L.length-(g-1))) f)::cells b #[.int .i64 most,.slice s.a s.len s.cap]::U4 z6 3 s L::R)) ?_ ?_
  ·rw[fk]
   unfold A51
   rw[E9]
   (try dsimp only);rw[U6]
   cases uR:Y9 f m.1 with
   |true=>
    rw[if_pos rfl]
    refine⟨_,rfl,s,by rw[U2];exact ay.p1.cell 1,?_⟩
    (try dsimp only);rw[U0]
    refine X6 ((ay.re [2,0,1]).aO A3M) hm fun a' iV=>?_
    (try dsimp only);rw[U0]
    refine B5y iV ?_
    have jB:(A51 (L.take (L.length-g)) f).length≤64:=by
     unfold A51
     refine C4 (D1 _ _) ?_
     rw[E1]
     omega
    refine A00 (x:=m) A3M A7B rfl ay (by decide) (by decide) (by omega) fun s' h4 aL=>?_
    simp only[H5,uR,if_true,J4]
    exact aL
   |false=>
    rw[if_neg (by simp)]
    simp only[H5,uR,H6,if_false,J4,C1]
    exact ay
  rintro⟨z,⟨⟩⟩ h4 aL
  simp only[D3,E6,V0]
  exact .mk (g-1) (by omega) ⟨by simp only[hw],by omega,aL⟩
 ·rw[if_neg (by simp only[decide_eq_true_eq,hl];omega)]
  rw[D2 (by omega)] at ai
  exact hq out h2 ((A2J.2 ⟨s,ai.re [1,2,0]⟩).p1)
end
section
open Go.H Go.Proofs Go.Lib
structure Sto(most:Int)(l:List (B3O×j6))(L:List j6):Prop where
 rel:Rel ltS (fun m:j6=>m.1) l L
 len:(l.length:Int)≤most
 small:∀p∈l,p.1.size≤256
theorem Sto.nil{most:Int}(h:0≤most):Sto most [] []:=⟨Rel.nil,by simpa using h,by simp⟩
variable {most:Int} {l:List (B3O×j6)} {L:List j6}
theorem Sto.lenL(h:Sto most l L)(hm:most≤64):l.length≤64∧L.length≤64:=by
 have:=h.len
 have:=h.rel.len
 omega
theorem Sto.get(h:Sto most l L)(k:B3O):W0 l k=C7D L k:=h.rel.get C1w k
theorem B5Y(x:B3O):x=ByteArray.mk #[]↔x.size=0:=by
 constructor
 ·rintro rfl;rfl
 ·intro h0
  refine data_inj ?_
  have:x.data.toList.length=0:=by rw[N0];exact h0
  rw[J9.1 this]
theorem B9K{k:B3O}:(A4s L k).length=L.length↔C7D L k=none:=by
 unfold A4s C7D
 rw[N6,E3]
 constructor
 ·intro h x hx;simpa using h x hx
 ·intro h x hx;simpa using h x hx
theorem Sto.set(h:Sto most l L)(m:j6):(C3u most l m).1=(B0a most L m).1∧Sto most (C3u most l m).2 (B0a most L m).2:=by
 unfold C3u B0a
 by_cases h1:Y8 m.1=false
 ·rw[if_pos h1,if_pos h1];exact⟨rfl,h⟩
 rw[if_neg h1,if_neg h1]
 have hsz:m.1.size≤256:=A3y (A4C (by simpa using h1))
 by_cases h2:m.2.2.1<0∨2<m.2.2.1
 ·rw[if_pos h2,if_pos h2];exact⟨rfl,h⟩
 rw[if_neg h2,if_neg h2]
 by_cases h3:m.2.1=ByteArray.mk #[]
 ·rw[if_pos h3,if_pos ((B5Y _).1 h3)]
  refine⟨rfl,h.rel.del m.1,?_,fun p hp=>?_⟩
  ·have:=h.len
   have h4:(mdel l m.1).length≤l.length:=by rw[A1x h.rel.nd];exact D1 _ _
   simp only
   omega
  ·rw[A1x h.rel.nd] at hp
   exact h.small p (E7.1 hp).1
 rw[if_neg h3,if_neg (fun e=>h3 ((B5Y _).2 e))]
 have bt:=h.get m.1
 have gl:=h.rel.len
 by_cases h4:W0 l m.1=none
 ·have h5:=B9K.2 (bt▸h4)
  by_cases h6:most≤l.length
  ·rw[if_pos ⟨h4,h6⟩,if_pos ⟨h5,by rw[h5];omega⟩];exact⟨rfl,h⟩
  ·rw[if_neg (fun e=>h6 e.2),if_neg (fun e=>h6 (by have:=e.2;rw[h5] at this;omega))]
   refine⟨rfl,h.rel.set C1w m,?_,fun p hp=>?_⟩
   ·rw[A3F _ _ _ h4]
    simp only[B4,B7,G8]
    omega
   ·rw[A3F _ _ _ h4] at hp
    rcases C7.1 hp with hp|hp
    ·exact h.small p hp
    ·rw[C0.1 hp];exact hsz
 ·have h5:¬(A4s L m.1).length=L.length:=fun e=>h4 (bt.trans (B9K.1 e))
  rw[if_neg (fun e=>h4 e.1),if_neg (fun e=>h5 e.1)]
  have hp:=B2K (l:=l) (k:=m.1) (x:=m)
  refine⟨rfl,h.rel.set C1w m,?_,fun p iK=>?_⟩
  ·have h6:=hp.length_eq
   have ah:(mdel l m.1).length<l.length:=by
    rw[A1x h.rel.nd]
    refine Nat.lt_of_le_of_ne (D1 _ _) fun e=>?_
    rw[N6] at e
    refine h4 ((A1i _ _).2 fun hm=>?_)
    obtain⟨q,hq,e2⟩:=E4.1 hm
    have:=e q hq
    simp[e2] at this
   have:=h.len
   simp only[B7] at h6
   simp only
   omega
  ·rcases D7.1 (hp.mem_iff.1 iK) with rfl|iK
   ·exact hsz
   ·rw[A1x h.rel.nd] at iK
    exact h.small p (E7.1 iK).1
theorem Sto.hit(h:Sto most l L)(f:B3O):B8U l f (A5t (l.map (·.1)))=A51 L f:=by
 unfold B8U A51
 rw[h.rel.sorted]
 have:∀T:List j6,(∀m∈T,m∈L)→(List.filter (Y9 f) (T.map fun m=>m.1)).map (fun n=>(W0 l n).getD zM)=T.filter fun m=>Y9 f m.1:=by
  intro T
  induction T with
  |nil=>intro _;rfl
  |cons m T ih=>
   intro hT
   have ih:=ih fun m hm=>hT m (C2 _ hm)
   rw[B6,H5,H5]
   split
   ·rw[B6,ih,h.rel.fR C1w (hT m (B5 ..))]
    rfl
   ·exact ih
 exact this L fun _ hm=>hm
end
section
open Go.H Go.Proofs Go.Shelf
def A87:Go.Shelf.Ren:=⟨fun n=>match n with|7=>267|10=>272|n=>n,fun n=>match n with|23=>73|26=>3|3=>4|28=>123|0=>0|27=>122|33=>196|4=>4|n=>n,fun n=>n⟩
theorem C65:SlLaysZI.n7 prog A87 where
 mixed:=by kernel_rfl
 f7:=⟨Tryz.f267.name,by kernel_rfl,func267.trans (congrArg some (by kernel_rfl))⟩
 f10:=⟨f272.name,by kernel_rfl,func272.trans (congrArg some (by kernel_rfl))⟩
 t0:=underlying0
 a0:=isAgg0
 z0:=sizeOf0
 v0:=zeroValue0
 t4:=underlying4
 a4:=isAgg4
 z4:=sizeOf4
 v4:=zeroValue4
 t23:=underlying73
 a23:=isAgg73
 z23:=sizeOf73
 v23:=zeroValue73
 t26:=underlying3
 a26:=isAgg3
 z26:=sizeOf3
 v26:=zeroValue3
 t27:=underlying122
 a27:=isAgg122
 z27:=sizeOf122
 v27:=zeroValue122
 t28:=underlying123
 a28:=isAgg123
 z28:=sizeOf123
 v28:=zeroValue123
 t33:=underlying196
 a33:=isAgg196
 z33:=sizeOf196
 v33:=zeroValue196
def A5s:Go.Shelf.Ren:=⟨fun n=>match n with|6=>40|8=>75|9=>76|11=>121|13=>123|12=>122|23=>180|24=>181|14=>171|15=>172|16=>173|17=>174|18=>175|19=>176|20=>177|21=>178|22=>179|25=>213|26=>214|27=>215|28=>216|29=>217|30=>218|31=>252|n=>n,fun n=>match n with|26=>3|28=>123|24=>64|0=>0|3=>3|37=>263|48=>315|50=>317|4=>4|40=>308|39=>307|45=>180|5=>5|9=>9|51=>343|55=>347|57=>378|58=>361|33=>196|n=>n,fun n=>n⟩
theorem B8j:SlLaysZI.n6 prog A5s where
 mixed:=by kernel_rfl
 f6:=⟨Tryz.f40.name,by kernel_rfl,func40.trans (congrArg some (by kernel_rfl))⟩
 f8:=⟨f75.name,by kernel_rfl,func75.trans (congrArg some (by kernel_rfl))⟩
 f11:=⟨f121.name,by kernel_rfl,func121.trans (congrArg some (by kernel_rfl))⟩
 t0:=underlying0
 a0:=isAgg0
 z0:=sizeOf0
 v0:=zeroValue0
 t24:=underlying64
 a24:=isAgg64
 z24:=sizeOf64
 v24:=zeroValue64
 t26:=underlying3
 a26:=isAgg3
 z26:=sizeOf3
 v26:=zeroValue3
 t28:=underlying123
 a28:=isAgg123
 z28:=sizeOf123
 v28:=zeroValue123
 i26:=by kernel_rfl
def A62:Go.Shelf.Ren:=⟨fun n=>match n with|5=>76|8=>123|7=>122|19=>180|20=>181|10=>171|11=>172|12=>173|13=>174|14=>175|15=>176|16=>177|17=>178|18=>179|30=>213|31=>214|32=>215|33=>216|34=>217|35=>218|40=>252|n=>n,fun n=>match n with|23=>64|25=>3|3=>3|32=>263|22=>64|0=>0|44=>315|46=>317|4=>4|36=>308|35=>307|41=>180|5=>5|9=>9|53=>343|57=>347|63=>378|64=>361|n=>n,fun n=>n⟩
theorem C09:SlLaysM.n5 prog A62 where
 mixed:=by kernel_rfl
 f5:=⟨f76.name,by kernel_rfl,func76.trans (congrArg some (by kernel_rfl))⟩
 f7:=⟨f122.name,by kernel_rfl,func122.trans (congrArg some (by kernel_rfl))⟩
 f8:=func123.trans (congrArg some (by kernel_rfl))
 f10:=⟨f171.name,by kernel_rfl,func171.trans (congrArg some (by kernel_rfl))⟩
 f11:=⟨f172.name,by kernel_rfl,func172.trans (congrArg some (by kernel_rfl))⟩
 f12:=⟨f173.name,by kernel_rfl,func173.trans (congrArg some (by kernel_rfl))⟩
 f13:=⟨f174.name,by kernel_rfl,func174.trans (congrArg some (by kernel_rfl))⟩
 f14:=⟨f175.name,by kernel_rfl,func175.trans (congrArg some (by kernel_rfl))⟩
 f15:=⟨f176.name,by kernel_rfl,func176.trans (congrArg some (by kernel_rfl))⟩
 f16:=⟨f177.name,by kernel_rfl,func177.trans (congrArg some (by kernel_rfl))⟩
 f17:=⟨f178.name,by kernel_rfl,func178.trans (congrArg some (by kernel_rfl))⟩
 f18:=⟨f179.name,by kernel_rfl,func179.trans (congrArg some (by kernel_rfl))⟩
 f19:=func180.trans (congrArg some (by kernel_rfl))
 f20:=func181.trans (congrArg some (by kernel_rfl))
 f30:=⟨Tryz.f213.name,by kernel_rfl,func213.trans (congrArg some (by kernel_rfl))⟩
 f31:=func214.trans (congrArg some (by kernel_rfl))
 f32:=func215.trans (congrArg some (by kernel_rfl))
 f33:=⟨f216.name,by kernel_rfl,func216.trans (congrArg some (by kernel_rfl))⟩
 f34:=⟨Tryz.f217.name,by kernel_rfl,func217.trans (congrArg some (by kernel_rfl))⟩
 f35:=⟨Tryz.f218.name,by kernel_rfl,func218.trans (congrArg some (by kernel_rfl))⟩
 f40:=⟨f252.name,by kernel_rfl,func252.trans (congrArg some (by kernel_rfl))⟩
 t0:=underlying0
 a0:=isAgg0
 z0:=sizeOf0
 v0:=zeroValue0
 t3:=underlying3
 a3:=isAgg3
 z3:=sizeOf3
 v3:=zeroValue3
 t4:=underlying4
 a4:=isAgg4
 z4:=sizeOf4
 v4:=zeroValue4
 t5:=underlying5
 a5:=isAgg5
 z5:=sizeOf5
 v5:=zeroValue5
 t9:=underlying9
 a9:=isAgg9
 z9:=sizeOf9
 v9:=zeroValue9
 t22:=underlying64
 a22:=isAgg64
 z22:=sizeOf64
 v22:=zeroValue64
 t23:=underlying64
 a23:=isAgg64
 z23:=sizeOf64
 v23:=zeroValue64
 t25:=underlying3
 a25:=isAgg3
 z25:=sizeOf3
 v25:=zeroValue3
 t32:=underlying263
 a32:=isAgg263
 z32:=sizeOf263
 v32:=zeroValue263
 t35:=underlying307
 a35:=isAgg307
 z35:=sizeOf307
 v35:=zeroValue307
 t36:=underlying308
 a36:=isAgg308
 z36:=sizeOf308
 v36:=zeroValue308
 t41:=underlying180
 a41:=isAgg180
 z41:=sizeOf180
 v41:=zeroValue180
 t44:=underlying315
 a44:=isAgg315
 z44:=sizeOf315
 v44:=zeroValue315
 t46:=underlying317
 a46:=isAgg317
 z46:=sizeOf317
 v46:=zeroValue317
 t53:=underlying343
 a53:=isAgg343
 z53:=sizeOf343
 v53:=zeroValue343
 t57:=underlying347
 a57:=isAgg347
 z57:=sizeOf347
 v57:=zeroValue347
 t63:=underlying378
 a63:=isAgg378
 z63:=sizeOf378
 v63:=zeroValue378
 t64:=underlying361
 a64:=isAgg361
 z64:=sizeOf361
 v64:=zeroValue361
open Go.H Go.Proofs
theorem A47(x:Int):(eI x).length=1:=rfl
theorem A9e(x:Int):∀v∈eI x,v.oneCell'=true:=by intro v hv;simp at hv;subst hv;rfl
theorem C4n{h:Heap}{R:List Asn}{b:Nat}{s:r8}(hs:sat h (A1k b s::R)){Q:Value→Heap→Prop}
  (hq:∀(sl:Slc) h',sat h' (U4 eI 1 sl (Z0 s.used)::A1k b s::R)→Q (.slice sl.a sl.len sl.cap) h'):V2 prog 251 #[at0 b] h Q:=by
 refine A9x _ h Q ?_
 obtain⟨m,ag,af⟩:=A0Q.1 hs
 have c2:V9 h ⟨b,2,none⟩=some (.map (some m)):=af.cell 2
 delta A9T bn cc ie km nn pu
 simp[c2]
 refine B0r (ρk:=A87) C65 (some m) ?_
 simp only[C4x]
 have ae:=(af.bJ (T:=A87.t 23) (cs:=#[.map (some m)]))
 have hk:=ag.range
 have hl:=ag.len
 have hm:=ag.cO
 refine A61 (ρk:=A87) (ρs:=A5s) (ρt:=A62) C65 B8j C09 rfl (enters_of func76 (by kernel_rfl) rfl) (enters_of func272 (by kernel_rfl) rfl) ae.p2
  (fun p hp=>?_) ?_ (ae.cell 0) fun sl h' aj=>?_
 ·obtain⟨k,gV,rfl⟩:=E4.1 hp
  have:=hk k gV
  simp[Lit.wf,IntKind.min,IntKind.max,IntKind.bits,IntKind.signed]
  omega
 ·simp[A4d];omega
 ·simp only[C0Z,V0]
  refine hq sl h' ?_
  have e:(A4d s.used).map (·.1)=s.used:=by simp[A4d,Q6]
  rw[e] at aj
  exact(A0Q.2 ⟨m,ag,(aj.p3.p3.drop.p2.p1)⟩).p1
theorem C2p{h:Heap}{s:Slc}{xs:List Int}{x:Int}(hx:Z5 eI 1 h s xs)(hb:xs.length≤4611686018427387904){Q:Value→Heap→Prop}
  (ax:x∉xs→Q (.int .i64 (-1)) h)(cN:x∈xs→∀i:Nat,xs[i]? =some x→Q (.int .i64 i) h):
  V2 prog 266 #[.slice s.a s.len s.cap,.int .i64 x] h Q:=by
 refine A97 s x h Q ?_
 delta B0T bn ie ix li pu wi
 simp
 have h1:=hx.1
 refine l6 (γ:=Nat) (fun i c h'=>h'=h∧c.1=(i:Int)∧i≤xs.length∧x∉xs.take i) (fun i=>xs.length-i) 0 ⟨rfl,rfl,C9 _,by simp⟩ ?_
 rintro i ⟨c,⟨⟩⟩ h' ⟨rfl,hc,hi,hn⟩
 simp only at hc
 subst hc
 have next:IntKind.wrap .i64 ((i:Int)+1)=((i+1:Nat):Int):=by rw[V5 (by omega) (by omega)];rfl
 simp
 by_cases ah:i<xs.length
 ·rw[if_pos (by omega)]
  refine X6 hx (B0 ah) fun a ha=>?_
  have c0:V9 h' a=some (.int .i64 xs[i]):=by simpa[Go.H.add_zero] using ha 0 _ rfl
  simp[c0]
  by_cases he:x=xs[i]
  ·rw[if_pos he]
   exact cN (he▸H2 ah) i (by rw[he];exact B0 ah)
  ·rw[if_neg he]
   refine .mk (i+1) (by omega) ⟨rfl,next,by omega,fun hm=>?_⟩
   rw[C3 ah,C7] at hm
   rcases hm with hm|hm
   ·exact hn hm
   ·exact he (C0.1 hm)
 ·rw[if_neg (by omega)]
  rw[D2 (by omega)] at hn
  exact ax hn
theorem B6O{h:Heap}{s:Slc}{xs:List Int}{x:Int}(hx:Z5 eI 1 h s xs)(hb:xs.length≤4611686018427387904){Q:Value→Heap→Prop}
  (hq:Q (.bool (decide (x∈xs))) h):
  V2 prog 250 #[.slice s.a s.len s.cap,.int .i64 x] h Q:=by
 refine A79 s x h Q ?_
 delta A7S ci pu vi vs
 simp
 refine C2p hx hb (fun hn=>?_) (fun hy i hi=>?_)
 ·simpa[hn] using hq
 ·simpa[hy] using hq
theorem C0j{h:Heap}{R:List Asn}{f:Nat}{s:r8}{k:Int}(hs:sat h (A0d f s::R)){Q:Value→Heap→Prop}
  (hq:∀h',sat h' (A0d f s::R)→Q (.bool (decide (k∈s.used))) h'):V2 prog 208 #[at0 f,.int .i64 k] h Q:=by
 refine A8e _ k h Q ?_
 obtain⟨b,hs⟩:=A2R.1 hs
 have c0:V9 h ⟨f,0,none⟩=some (at0 b):=hs.cell 0
 delta A70 cb cc kp nn pu vi vs
 simp[c0]
 refine C4n hs.p1 fun sl h1 aa=>?_
 obtain⟨_,ag,-⟩:=A0Q.1 aa.p1
 have hl:=ag.len
 have hm:=ag.cO
 simp only[C0Z]
 refine B6O (aa.aO A47) (by simp[Z0,O7];omega) ?_
 have e:decide (k∈Z0 s.used)=decide (k∈s.used):=by simp[Z0]
 simp only[C6f,e]
 exact hq h1 (A2R.2 ⟨b,aa.drop.p1⟩)
theorem A1p{h:Heap}{R:List Asn}(hs:sat h R)(k id c:Int){Q:Value→Heap→Prop}
  (hq:∀b h',sat h' (cells b (C6V (C8f k id c))::R)→Q (.slice (some ⟨b,0,none⟩) 1 1) h'):V2 prog 159 #[.int .i64 k,.int .i64 id,.int .u8 c] h Q:=by
 refine A9w k id c h Q ?_
 delta A9S az cc nw pu ve vi vz
 simp only[U0]
 refine V4 hs fun b h1 aa=>?_
 simp only[C57]
 refine B2T ⟨some ⟨b,0,none⟩,1,1⟩ h1 _ ?_
 delta B5G pu
 simp
 exact hq b h1 aa
def q9(k q id:Int):Prop:=(k≠3∧k≠6)∨(k=3∧(q<0∨2<q))∨(¬(k=3∧q=0)∧(id<1∨65535<id))
instance(k q id:Int):Decidable (q9 k q id):=by unfold q9;infer_instance
def k9(s:r8)(k q id why:Int):Bool×Option (Int×Int)×Int×List Int:=
 if q9 k q id then(false,none,130,s.used)
 else if k=3∧q=0 then(true,none,0,s.used)
 else if k=6 then(false,some (7,if id∈s.used then 0 else 146),0,s.used.erase id)
 else if q=1 then(true,some (4,why),0,s.used)
 else if id∈s.used then(false,some (5,0),0,s.used)
 else if(s.used.length:Int)=s.most then(false,none,147,s.used)
 else(true,some (5,why),0,if why<128 then s.used++[id] else s.used)
theorem C0h{h:Heap}{R:List Asn}{f:Nat}{s:r8}{id why:Int}(hs:sat h (A0d f s::R))(h1:1≤id)(h2:id≤65535){Q:Value→Heap→Prop}
  (hn:(k9 s 3 2 id why).2.1=none→∀h',sat h' (A0d f ⟨s.most,s.taken,(k9 s 3 2 id why).2.2.2⟩::R)→Q (.tuple #[.bool (k9 s 3 2 id why).1,.slice none 0 0,.int .u8 (k9 s 3 2 id why).2.2.1]) h')
  (hy:∀k c,(k9 s 3 2 id why).2.1=some (k,c)→∀b h',sat h' (cells b (C6V (C8f k id c))::A0d f ⟨s.most,s.taken,(k9 s 3 2 id why).2.2.2⟩::R)→
   Q (.tuple #[.bool (k9 s 3 2 id why).1,.slice (some ⟨b,0,none⟩) 1 1,.int .u8 (k9 s 3 2 id why).2.2.1]) h'):
  V2 prog 160 #[at0 f,.int .i64 id,.int .u8 why] h Q:=by
 have nb:¬q9 3 2 id:=by unfold q9;omega
 simp[k9,nb] at hn hy
 refine A8d _ id why h Q ?_
 delta A7Z bn cb cc ci cu ie kp nn pu vi
 simp
 refine C0j hs fun h3 aj=>?_
 by_cases g1:id∈s.used
 ·simp[g1] at hy⊢
  exact A1p aj 5 id 0 fun b h4 ak=>by simpa using hy b h4 ak
 ·obtain⟨b,bo⟩:=A2R.1 aj
  have c0:V9 h3 ⟨f,0,none⟩=some (at0 b):=bo.cell 0
  obtain⟨_,ag,-⟩:=A0Q.1 bo.p1
  have hl:=ag.len
  simp[g1,c0] at hn hy⊢
  refine B3g bo.p1 ?_
  by_cases g2:(s.used.length:Int)=s.most
  ·simp[g2] at hn⊢
   exact hn h3 aj
  ·have g3:¬s.most-(s.used.length:Int)=0:=by omega
   simp[g2,g3] at hy⊢
   by_cases g4:why<128
   ·simp[g4,c0] at hy⊢
    have hc:i6 s id=0:=by simp[i6,g1,g2];omega
    refine C2s bo.p1 (fun hx=>absurd hc hx) (fun _ h4 ak=>?_)
    simp
    have ai:=A2R.2 ⟨b,ak.p1⟩
    exact A1p ai 5 id why fun b h5 ai=>by simpa using hy b h5 ai
   ·simp[g4] at hy⊢
    exact A1p aj 5 id why fun b h5 ai=>by simpa using hy b h5 ai
theorem B8S{h:Heap}{R:List Asn}{f:Nat}{s:r8}{p:Pk}{why:Int}(hs:sat h (A0d f s::R)){Q:Value→Heap→Prop}
  (hn:(k9 s p.1 p.2.2.2.1 p.2.2.2.2.1 why).2.1=none→∀h',sat h' (A0d f ⟨s.most,s.taken,(k9 s p.1 p.2.2.2.1 p.2.2.2.2.1 why).2.2.2⟩::R)→Q (.tuple #[.bool (k9 s p.1 p.2.2.2.1 p.2.2.2.2.1 why).1,.slice none 0 0,.int .u8 (k9 s p.1 p.2.2.2.1 p.2.2.2.2.1 why).2.2.1]) h')
  (hy:∀k c,(k9 s p.1 p.2.2.2.1 p.2.2.2.2.1 why).2.1=some (k,c)→∀b h',sat h' (cells b (C6V (C8f k p.2.2.2.2.1 c))::A0d f ⟨s.most,s.taken,(k9 s p.1 p.2.2.2.1 p.2.2.2.2.1 why).2.2.2⟩::R)→
   Q (.tuple #[.bool (k9 s p.1 p.2.2.2.1 p.2.2.2.2.1 why).1,.slice (some ⟨b,0,none⟩) 1 1,.int .u8 (k9 s p.1 p.2.2.2.1 p.2.2.2.2.1 why).2.2.1]) h'):
  V2 prog 107 #[at0 f,C9p p,.int .u8 why] h Q:=by
 refine A7r _ p why h Q ?_
 delta A6J bn cb cc ie ji kp nn nw pu vi
 simp only[U0]
 refine V4 hs fun pb h1 dR=>?_
 obtain⟨cs,fC⟩:∃cs,cs=C6V p:=⟨_,rfl⟩
 have aa:sat h1 (cells pb cs::A0d f s::R):=by rw[fC];exact dR
 clear dR
 have e0:cs[0]? =some (.int .i64 p.1):=by rw[fC];rfl
 have e3:cs[3]? =some (.int .i64 p.2.2.2.1):=by rw[fC];rfl
 have e4:cs[4]? =some (.int .i64 p.2.2.2.2.1):=by rw[fC];rfl
 clear fC
 generalize p.1=k at*
 generalize p.2.2.2.1=q at*
 generalize p.2.2.2.2.1=id at*
 have c0:V9 h1 ⟨pb,0,none⟩=some (.int .i64 k):=(aa.cell 0).trans e0
 have c3:V9 h1 ⟨pb,3,none⟩=some (.int .i64 q):=(aa.cell 3).trans e3
 have c4:V9 h1 ⟨pb,4,none⟩=some (.int .i64 id):=(aa.cell 4).trans e4
 have bad:q9 k q id→Q (.tuple #[.bool false,.slice none 0 0,.int .u8 130]) h1:=fun g=>by
  simp[k9,g] at hn
  exact hn h1 aa.drop
 by_cases k3:k=3
 ·subst k3
  by_cases q0:q<0
  ·have:=bad (by unfold q9;omega)
   simp[c0,c3,q0]
   exact this
  by_cases q2:2<q
  ·have:=bad (by unfold q9;omega)
   simp[c0,c3,q0,q2]
   exact this
  by_cases qz:q=0
  ·subst qz
   have nb:¬q9 3 0 id:=by unfold q9;omega
   simp[k9,nb] at hn
   have:=hn h1 aa.drop
   simp[c0,c3]
   exact this
  by_cases i1:id<1
  ·have:=bad (by unfold q9;omega)
   simp[c0,c3,c4,q0,q2,qz,i1]
   exact this
  by_cases i2:65535<id
  ·have:=bad (by unfold q9;omega)
   simp[c0,c3,c4,q0,q2,qz,i1,i2]
   exact this
  by_cases q1:q=1
  ·subst q1
   have nb:¬q9 3 1 id:=by unfold q9;omega
   simp[k9,nb] at hy
   simp[c0,c3,c4,i1,i2]
   refine A1p aa.drop 4 id why fun b h2 ae=>?_
   simpa using hy b h2 ae
  ·have fa:q=2:=by omega
   subst fa
   simp[c0,c3,c4,i1,i2]
   exact C0h aa.drop (by omega) (by omega) (fun g h' af=>by simpa using hn g h' af) (fun k c g b h' af=>by simpa using hy k c g b h' af)
 by_cases k6:k=6
 ·subst k6
  by_cases i1:id<1
  ·have:=bad (by unfold q9;omega)
   simp[c0,c3,c4,i1]
   exact this
  by_cases i2:65535<id
  ·have:=bad (by unfold q9;omega)
   simp[c0,c3,c4,i1,i2]
   exact this
  have nb:¬q9 6 q id:=by unfold q9;omega
  simp[k9,nb] at hy
  obtain⟨b,i'⟩:=A2R.1 aa.p1
  have f0:V9 h1 ⟨f,0,none⟩=some (at0 b):=i'.cell 0
  simp[c0,c3,c4,i1,i2,f0]
  refine B79 i'.p1 fun h2 ae=>?_
  have aj:sat h2 (cells pb cs::A0d f ⟨s.most,s.taken,s.used.erase id⟩::R):=(A2R.2 ⟨b,ae.p1⟩).p1
  have d0:V9 h2 ⟨pb,0,none⟩=some (.int .i64 6):=(aj.cell 0).trans e0
  have d4:V9 h2 ⟨pb,4,none⟩=some (.int .i64 id):=(aj.cell 4).trans e4
  by_cases hm:id∈s.used
  ·simp[hm,d0,d4] at hy⊢
   refine A1p aj.drop 7 id 0 fun b h4 ak=>?_
   simpa using hy b h4 ak
  ·simp[hm,d0,d4] at hy⊢
   refine A1p aj.drop 7 id 146 fun b h4 ak=>?_
   simpa[hm] using hy b h4 ak
 ·have:=bad (by unfold q9;omega)
  simp[c0,k3,k6]
  exact this
def B8G:Path→Path→Bool→Bool
 |[],left,_=>left.isEmpty
 |y::r,left,d=>(!d &&decide (y=o3)&&r.isEmpty)||(match left with|[]=>false|x::l=>((!d &&decide (y=r6))||decide (y=x))&&B8G r l false)
theorem A3G(y:B3O)(r left:Path)(d:Bool):B8G (y::r) left d=((!d &&decide (y=o3)&&r.isEmpty)||(match left with|[]=>false|x::l=>((!d &&decide (y=r6))||decide (y=x))&&B8G r l false)):=by
 cases left<;>rfl
abbrev QOK(N:Nds):Prop:=∀p nd,W0 N p=some nd→(nd.q.map (·.1)).Nodup
theorem A2h{N:Nds}{L:List Ent}(hA:A0Y N L)(hk:QOK N)(p:Path)(e:Ent):e∈A4a N p↔e∈L∧levels e.2.1=p:=by
 unfold A4a
 cases hp:W0 N p with
 |none=>
  simp only[Q9,false_iff]
  rintro⟨h1,h2⟩
  have:=(hA.dH p e.1 e.2.2).2 ⟨e.2.1,h2,h1⟩
  unfold ent at this
  rw[hp] at this
  cases this
 |some nd=>
  unfold A0X
  constructor
  ·intro h
   obtain⟨kv,xd,rfl⟩:=E4.1 h
   have h1:W0 nd.q kv.1=some kv.2:=A2N (hk p nd hp) xd
   have h2:ent N p kv.1=some kv.2:=by unfold ent;rw[hp];exact h1
   obtain⟨f,hf,hm⟩:=(hA.dH _ _ _).1 h2
   have:A5I p=f:=by rw[←hf,A2Q]
   simp only[this]
   exact⟨hm,hf⟩
  ·rintro⟨h1,h2⟩
   have h3:=(hA.dH p e.1 e.2.2).2 ⟨e.2.1,h2,h1⟩
   unfold ent at h3
   rw[hp] at h3
   refine E4.2 ⟨(e.1,e.2.2),A42 h3,?_⟩
   rw[←h2,A2Q]
theorem A5L{N:Nds}(hk:QOK N)(p:Path):(A4a N p).Nodup:=by
 unfold A4a
 cases hp:W0 N p with
 |none=>exact List.nodup_nil
 |some nd=>
  unfold A0X
  have h1:nd.q.Nodup:=List.Pairwise.of_map (·.1) (fun a b dp e=>dp (by rw[e])) (hk p nd hp)
  refine List.Pairwise.map _ (fun a b dp e=>dp ?_) h1
  exact Prod.ext (congrArg (fun x:Ent=>x.1) e) (congrArg (fun x:Ent=>x.2.2) e)
theorem B7B{rb:Nat}{N:Nds}{L:List Ent}(hT:A0b rb N)(hA:A0Y N L){p r:Path}(hp:W0 N p=none){e:Ent}(he:e∈L):levels e.2.1≠p++r:=by
 intro h
 have h1:=(hA.dH (p++r) e.1 e.2.2).2 ⟨e.2.1,h,he⟩
 unfold ent at h1
 cases hq:W0 N (p++r) with
 |none=>rw[hq] at h1;cases h1
 |some nd=>
  obtain⟨nd',h2⟩:=hT.pre _ _ _ hq
  rw[hp] at h2
  cases h2
theorem A1V{α:Type}{d:Bool}{l:List α}{a:α}:a∈(if d=true then[] else l)↔d=false∧a∈l:=by
 cases d<;>simp
theorem A43{rb:Nat}{N:Nds}{L:List Ent}(hT:A0b rb N)(hA:A0Y N L)(hk:QOK N)(e:Ent):∀(left p:Path) (d:Bool),e∈A1W N p left d↔∃r,B8G r left d=true∧e∈L∧levels e.2.1=p++r:=by
 intro left
 induction left with
 |nil=>
  intro p d
  cases hp:W0 N p with
  |none=>
   rw[A35 hp]
   simp only[Q9,false_iff]
   rintro⟨r,-,h1,h2⟩
   exact B7B hT hA hp h1 h2
  |some nd=>
   rw[A7g hp,C7,A1V,A2h hA hk,A2h hA hk]
   constructor
   ·rintro(⟨rfl,h1,h2⟩|⟨h1,h2⟩)
    ·exact⟨[o3],by simp[B8G],h1,h2⟩
    ·exact⟨[],rfl,h1,by rw[C1];exact h2⟩
   ·rintro⟨r,hr,h1,h2⟩
    cases r with
    |nil=>rw[C1] at h2;exact .inr ⟨h1,h2⟩
    |cons y r=>
     rw[A3G] at hr
     simp only[Bool.or_false,E8,O0,decide_eq_true_eq,List.isEmpty_iff] at hr
     obtain⟨⟨h3,rfl⟩,rfl⟩:=hr
     exact .inl ⟨h3,h1,h2⟩
 |cons x l ih=>
  intro p d
  cases hp:W0 N p with
  |none=>
   rw[A35 hp]
   simp only[Q9,false_iff]
   rintro⟨r,-,h1,h2⟩
   exact B7B hT hA hp h1 h2
  |some nd=>
   rw[A5E hp,C7,C7,A1V,A1V,A2h hA hk,ih,ih]
   constructor
   ·rintro(⟨rfl,h1,h2⟩|⟨rfl,r,hr,h1,h2⟩|⟨r,hr,h1,h2⟩)
    ·exact⟨[o3],by simp[A3G],h1,h2⟩
    ·refine⟨r6::r,?_,h1,by rw[h2];simp⟩
     rw[A3G];simp[hr]
    ·refine⟨x::r,?_,h1,by rw[h2];simp⟩
     rw[A3G];simp[hr]
   ·rintro⟨r,hr,h1,h2⟩
    cases r with
    |nil=>simp[B8G] at hr
    |cons y r=>
     rw[A3G] at hr
     simp only[Bool.or_eq_true,E8,O0,decide_eq_true_eq,List.isEmpty_iff] at hr
     rcases hr with⟨⟨h3,rfl⟩,rfl⟩|⟨⟨h3,rfl⟩|rfl,h4⟩
     ·exact .inl ⟨h3,h1,h2⟩
     ·exact .inr (.inl ⟨h3,r,h4,h1,by rw[h2];simp⟩)
     ·exact .inr (.inr ⟨r,h4,h1,by rw[h2];simp⟩)
theorem B2R{α:Type}{d:Bool}{l:List α}(h:l.Nodup):(if d=true then[] else l).Nodup:=by
 cases d
 ·exact h
 ·exact List.nodup_nil
theorem B8L{rb:Nat}{N:Nds}{L:List Ent}(hT:A0b rb N)(hA:A0Y N L)(hk:QOK N):∀(left p:Path) (d:Bool),(∀x∈left,x≠o3∧x≠r6)→(A1W N p left d).Nodup:=by
 intro left
 induction left with
 |nil=>
  intro p d hl
  cases hp:W0 N p with
  |none=>rw[A35 hp];exact List.nodup_nil
  |some nd=>
   rw[A7g hp,G0]
   refine⟨B2R (A5L hk _),A5L hk _,fun a ha b hb e=>?_⟩
   subst e
   have h1:=((A2h hA hk _ _).1 (A1V.1 ha).2).2
   have h2:=((A2h hA hk _ _).1 hb).2
   rw[h1] at h2
   exact A7L _ _ h2
 |cons x l ih=>
  intro p d hl
  cases hp:W0 N p with
  |none=>rw[A35 hp];exact List.nodup_nil
  |some nd=>
   have hx:=hl x (B5 ..)
   have gU:∀y∈l,y≠o3∧y≠r6:=fun y hy=>hl y (C2 _ hy)
   rw[A5E hp,G0,G0]
   refine⟨B2R (A5L hk _),⟨B2R (ih _ _ gU),ih _ _ gU,fun a ha b hb e=>?_⟩,fun a ha b hb e=>?_⟩
   ·subst e
    obtain⟨r1,-,-,h1⟩:=(A43 hT hA hk _ _ _ _).1 (A1V.1 ha).2
    obtain⟨r2,-,-,h2⟩:=(A43 hT hA hk _ _ _ _).1 hb
    rw[h1,D4,D4] at h2
    have:=Q7 h2
    simp at this
    exact hx.2 this.1.symm
   ·subst e
    have h1:=((A2h hA hk _ _).1 (A1V.1 ha).2).2
    rcases C7.1 hb with hb|hb
    ·obtain⟨r2,-,-,h2⟩:=(A43 hT hA hk _ _ _ _).1 (A1V.1 hb).2
     rw[h1,D4] at h2
     have:=Q7 h2
     simp at this
     exact absurd this.1 (by decide)
    ·obtain⟨r2,-,-,h2⟩:=(A43 hT hA hk _ _ _ _).1 hb
     rw[h1,D4] at h2
     have:=Q7 h2
     simp at this
     exact hx.1 this.1.symm
theorem A8z:∀(r left:Path),A38 r=true→(∀x∈left,x≠o3∧x≠r6)→B8G r left false=A2m r left
 |[],left,_,_=>by simp[B8G,A2m]
 |y::r,left,hf,hl=>by
  rw[A7x,E8] at hf
  rw[A3G,A34]
  by_cases hy:y=o3
  ·have hr:r.isEmpty=true:=by
    have h1:=hf.1
    subst hy
    unfold B2N at h1
    rw[show hasB 35 o3=true from C5m 35] at h1
    cases h2:r.isEmpty with
    |true=>rfl
    |false=>rw[h2] at h1;simp at h1
   simp[hy,hr]
  ·rw[if_neg hy]
   simp only[hy,decide_false,Bool.and_false,J6,R8]
   cases left with
   |nil=>rfl
   |cons x l=>
    have ih:=A8z r l hf.2 fun z hz=>hl z (C2 _ hz)
    simp only[S3,G2]
    by_cases h1:y=r6
    ·simp[h1,ih]
    ·by_cases h2:y=x
     ·simp[h2,ih]
     ·simp[h1,h2]
theorem C5f(c b:UInt8)(r:List UInt8)(x:List UInt8)(hx:x≠[]):∃y ys,lev c x r=y::ys∧y.head?=x.head?:=by
 induction r generalizing x with
 |nil=>exact⟨x,[],rfl,rfl⟩
 |cons a r ih=>
  unfold lev
  by_cases h:a=c
  ·rw[if_pos h];exact⟨x,_,rfl,rfl⟩
  ·rw[if_neg h]
   obtain⟨y,ys,h1,h2⟩:=ih (x++[a]) (by simp)
   refine⟨y,ys,h1,?_⟩
   rw[h2]
   cases x with
   |nil=>exact absurd rfl hx
   |cons z x=>rfl
theorem B1D{f y:B3O}{r:Path}(hs:f.size≠0)(h:levels f=y::r)(c:UInt8)(hc:c≠47):y.data.toList.head?=some c↔f.get! 0=c:=by
 have hd:=A2P f
 rw[h,B6] at hd
 obtain⟨⟨l⟩⟩:=f
 match l with
 |[]=>exact absurd rfl hs
 |b::l=>
  have e1:(ByteArray.mk (List.toArray (b::l))).get! 0=b:=rfl
  rw[e1]
  have e2:(ByteArray.mk (List.toArray (b::l))).data.toList=b::l:=rfl
  rw[e2] at hd
  unfold lev at hd
  by_cases hb:b=47
  ·rw[if_pos hb] at hd
   have h1:=(S9 hd).1
   rw[h1]
   simp only[List.head?_nil]
   constructor
   ·intro h;cases h
   ·intro h;exact absurd (h.symm.trans hb) hc
  ·rw[if_neg hb] at hd
   obtain⟨z,zs,h1,h2⟩:=C5f 47 b l ([]++[b]) (by simp)
   rw[h1] at hd
   have h3:=(S9 hd).1
   rw[h3,h2]
   simp
theorem B7U{x:B3O}{c:UInt8}(h:x.data.toList.head?=some c):hasB c x=true:=by
 unfold hasB
 rw[decide_eq_true_eq]
 exact List.mem_of_mem_head? (by rw[h];rfl)
theorem B7O(c:UInt8):(ByteArray.mk #[c]).data.toList.head?=some c:=rfl
theorem B3H{n:B3O}(h:Y8 n=true):∀x∈levels n,x≠o3∧x≠r6:=by
 unfold Y8 at h
 rw[E8,E8,O0,O0] at h
 have key:∀(c:UInt8),c≠47→hasB c n=false→∀x∈levels n,x≠ByteArray.mk #[c]:=by
  intro c hc hn x hx e
  subst e
  have hj:=A2Q n
  have:c∈n.data.toList:=by
   rw[←hj]
   unfold A5I
   have dL:[c]∈(levels n).map (·.data.toList):=E4.2 ⟨_,hx,rfl⟩
   generalize(levels n).map (·.data.toList)=xs at dL
   have go:∀xs:List (List UInt8),[c]∈xs→c∈Lib.join xs [47]:=by
    intro xs eE
    obtain⟨y,ys,rfl⟩:=N7 (List.ne_nil_of_mem eE)
    rw[Lib.join_cons]
    rcases D7.1 eE with e|h
    ·rw[←e];simp
    ·refine G5 _ ?_
     unfold Lib.joinTail
     rw[List.mem_flatten]
     exact⟨[47]++[c],E4.2 ⟨_,h,rfl⟩,by simp⟩
   simpa using go xs dL
  unfold hasB at hn
  rw[decide_eq_false_iff_not] at hn
  exact hn this
 intro x hx
 exact⟨key 35 (by decide) h.2 x hx,key 43 (by decide) h.1.2 x hx⟩
theorem B3I{f n:B3O}(hf:X4 f=true)(hn:Y8 n=true):B8G (levels f) (levels n) (decide (n.get! 0=36))=Y9 f n:=by
 have hl:=B3H hn
 have hg:A38 (levels f)=true:=by unfold X4 at hf;rw[E8] at hf;exact hf.2
 have hsz:f.size≠0:=(A0T.1 (A0u hf)).2.1
 unfold Y9 A3T
 rw[hf,hn]
 simp only[G2]
 cases hd:decide (n.get! 0=36) with
 |false=>
  rw[A8z _ _ hg hl]
  simp
 |true=>
  obtain⟨y,r,hy⟩:=N7 (B2L f)
  rw[hy] at hg⊢
  rw[A7x,E8] at hg
  have en:=B1D hsz hy 43 (by decide)
  have gP:=B1D hsz hy 35 (by decide)
  have al:=hg.1
  unfold B2N at al
  rw[O0,Bool.or_eq_false_iff] at al
  have um:f.get! 0=43↔y=r6:=by
   rw[←en]
   constructor
   ·intro h
    have h1:=B7U h
    have h2:=al.1
    rw[h1] at h2
    simpa using h2
   ·intro h;rw[h];exact B7O 43
  have i35:f.get! 0=35↔y=o3:=by
   rw[←gP]
   constructor
   ·intro h
    have h1:=B7U h
    have h2:=al.2
    rw[h1] at h2
    simp only[G2,Bool.or_eq_false_iff,decide_eq_false_iff_not,Decidable.not_not] at h2
    exact h2.1
   ·intro h;rw[h];exact B7O 35
  rw[A3G,A34]
  simp only[N3,J6,R8,G2]
  by_cases e1:y=r6
  ·have:decide (f.get! 0=43)=true:=decide_eq_true (um.2 e1)
   rw[this]
   simp only[Bool.true_or,N3,J6]
   cases jU:levels n with
   |nil=>rfl
   |cons x l=>
    have:=(hl x (by rw[jU];exact B5 ..)).2
    have:decide (y=x)=false:=decide_eq_false (fun e=>this (e.symm.trans e1))
    simp[this]
  ·by_cases e2:y=o3
   ·have:decide (f.get! 0=35)=true:=decide_eq_true (i35.2 e2)
    rw[this]
    simp only[Bool.or_true,N3,J6]
    cases jU:levels n with
    |nil=>rfl
    |cons x l=>
     have:=(hl x (by rw[jU];exact B5 ..)).1
     have:decide (y=x)=false:=decide_eq_false (fun e=>this (e.symm.trans e2))
     simp[this]
   ·have d1:decide (f.get! 0=43)=false:=decide_eq_false (fun e=>e1 (um.1 e))
    have d2:decide (f.get! 0=35)=false:=decide_eq_false (fun e=>e2 (i35.1 e))
    rw[d1,d2,if_neg e2]
    simp only[Bool.or_false,S3,G2]
    cases jU:levels n with
    |nil=>rfl
    |cons x l=>
     have ih:=A8z r l hg.2 fun z hz=>hl z (by rw[jU];exact C2 _ hz)
     by_cases e3:y=x
     ·simp[e3,ih]
     ·simp[e1,e3]
variable {h h0:Heap} {R:List Asn}
theorem B97{rb:Nat}{N:Nds}{L:List Ent}(hT:A0b rb N)(hA:A0Y N L)(hk:QOK N){n:B3O}(hn:Y8 n=true):
  (A1W N [] (levels n) (decide (n.get! 0=36))).Perm (L.filter fun x=>Y9 x.2.1 n):=by
 refine(List.perm_ext_iff_of_nodup (B8L hT hA hk _ _ _ (B3H hn)) (hA.dE.nodup.filter _)).2 fun e=>?_
 rw[A43 hT hA hk,E7]
 constructor
 ·rintro⟨r,hr,h1,h2⟩
  rw[F2] at h2
  subst h2
  refine⟨h1,?_⟩
  rw[←B3I (hA.bQ _ h1) hn]
  exact hr
 ·rintro⟨h1,h2⟩
  refine⟨levels e.2.1,?_,h1,rfl⟩
  rw[B3I (hA.bQ _ h1) hn]
  exact h2
theorem C0x{M:Nds}(hn:(M.map (·.1)).Nodup)(h1:∀q∈M,(A0X q.1 q.2.q).Nodup∧∀e∈A0X q.1 q.2.q,levels e.2.1=q.1):(A03 M).Nodup:=by
 induction M with
 |nil=>exact List.nodup_nil
 |cons q M ih=>
  rw[B6,F7] at hn
  unfold A03
  rw[D5,G0]
  refine⟨(h1 q (B5 ..)).1,ih hn.2 (fun q' ed=>h1 q' (C2 _ ed)),fun a ha b hb e=>?_⟩
  subst e
  obtain⟨q',ed,hm⟩:=S4.1 hb
  have e1:=(h1 q (B5 ..)).2 a ha
  have e2:=(h1 q' (C2 _ ed)).2 a hm
  exact hn.1 (E4.2 ⟨q',ed,by rw[←e2,e1]⟩)
theorem B81{rb:Nat}{N:Nds}{L:List Ent}(hT:A0b rb N)(hA:A0Y N L)(hk:QOK N):(A03 N).Perm L:=by
 have vo:∀q∈N,A4a N q.1=A0X q.1 q.2.q:=fun q hq=>B5U (A2N hT.keys hq)
 have au:(A03 N).Nodup:=C0x hT.keys fun q hq=>by
  rw[←vo q hq]
  exact⟨A5L hk _,fun e he=>((A2h hA hk _ _).1 he).2⟩
 refine(List.perm_ext_iff_of_nodup au hA.dE.nodup).2 fun e=>?_
 unfold A03
 rw[S4]
 constructor
 ·rintro⟨q,hq,he⟩
  rw[←vo q hq] at he
  exact((A2h hA hk _ _).1 he).1
 ·intro he
  have h1:=(A2h hA hk (levels e.2.1) e).2 ⟨he,rfl⟩
  unfold A4a at h1
  cases hp:W0 N (levels e.2.1) with
  |none=>rw[hp] at h1;simp at h1
  |some nd=>
   rw[hp] at h1
   exact⟨(levels e.2.1,nd),A42 hp,h1⟩
theorem B6B{ys L:List Ent}{c:Ent→Bool}(ha:Asc L)(hp:ys.Perm (L.filter c))(hs:ys.Pairwise fun a b=>¬ltK (b8 b) (b8 a)):ys=L.filter c:=C0N hp (ha.filter _) hs
theorem C2C:∀{h':Heap},Z5 eS 1 h' ⟨none,0,0⟩ []:=fun{h'}=>⟨rfl,D6 _,fun i x hx=>by simp at hx⟩
theorem B9t{t:Nat}{L:List Ent}(ht:TP h0){n:B3O}(hsz:n.size≤9223372036854775807)(hl:L.length≤10000)(hs:sat h (l4 t L::old h0::R)){Q:Value→Heap→Prop}
  (hq:∀(s:Slc) h',sat h' (U4 Z9 3 s (L.filter fun x=>Y9 x.2.1 n)::l4 t L::old h0::R)→Q (.slice s.a s.len s.cap) h'):
  V2 prog 80 #[at9 t,.string n] h Q:=by
 refine A77 (some ⟨t,0,none⟩) n h Q ?_
 delta A7Q bn cc cu cx ie kp nn pu rq vs vz
 refine V3 (fun x h'=>sat h' (old h0::l4 t L::R)∧x.1= !(Y8 n)) ?_ ?_
 ·rw[U6,if_neg (by simp)]
  refine U5 (A3n hs.p1 ht hsz fun h1 aa=>⟨A2t n,rfl,aa,?_⟩)
  unfold A2t
  cases Y8 n<;>rfl
 clear hs
 rintro⟨x,⟨⟩⟩ h1 ⟨aa,hx⟩
 simp only at hx
 subst hx
 rw[U6]
 by_cases hn:Y8 n=true
 case neg=>
  rw[if_pos (by simpa using hn)]
  have e:(L.filter fun x=>Y9 x.2.1 n)=[]:=by
   rw[I6]
   intro x _ hx
   unfold Y9 at hx
   simp only[E8] at hx
   exact hn hx.1.1.2
  rw[e] at hq
  exact hq ⟨none,0,0⟩ h1 (Z3 aa.p1)
 rw[if_neg (by simp[hn])]
 obtain⟨N,C,hA,hC,ae⟩:=A0l.1 aa.p1
 obtain⟨ca,tt⟩:=B8c ae
 have hk:QOK N:=fun p nd hp=>(tt p nd hp).1
 obtain⟨rb,cm,hT,bo⟩:=A2c.1 ae
 have aj:sat h1 (cells t (trC rb cm)::old h0::o7 N::mapA A05 A1u cm C::R):=bo.re [0,3,1,2]
 clear bo ae aa
 have kO:=A0T.1 (A4C hn)
 refine⟨_,rfl,some ⟨rb,0,none⟩,by rw[U2];exact aj.cell 0,?_⟩
 (try dsimp only);rw[U0]
 refine⟨n.get! 0,S5 _,A3h (by omega),?_⟩
 refine U5 (A4g aj.p1 ht kO.2.2.1 fun sl h2 bq=>⟨sl,rfl,?_⟩)
 have ak:sat h2 (cells t (trC rb cm)::o7 N::U4 eS 1 sl (levels n)::old h0::mapA A05 A1u cm C::R):=bq.re [2,3,0,1,4]
 clear bq aj
 refine⟨some ⟨rb,0,none⟩,by rw[U2];exact ak.cell 0,rfl,?_⟩
 obtain⟨r,fr,cI⟩:=hT.root
 have ep:(some ⟨rb,0,none⟩:C9u)=(W0 N []).bind fun nd=>o0 nd:=by rw[fr];show _=o0 r;unfold o0;rw[cI]
 have eb:(((n.get! 0).toNat:Int)==36)=decide (n.get! 0=36):=A7G _ 36
 have dB:=B97 hT hA hk hn
 have hlen:(A1W N [] (levels n) (decide (n.get! 0=36))).length≤10000:=by
  rw[dB.length_eq]
  exact C4 (D1 _ _) hl
 rw[ep,eb]
 refine U5 (C1C hT (hA.fO hk) _ (levels n) [] rfl (A:=U4 eS 1 sl (levels n)) (s1:=⟨none,0,0⟩) (out:=⟨none,0,0⟩) (es:=[]) (by simp only[G8];omega) (fun _=>C2C) (fun af=>af.aO A1C) ((Z3 (ak.re [1,2,0,3,4])).p1) (by simp only[G8];omega) fun o l h3 hp ai=>⟨o,rfl,?_⟩)
 rw[F2] at ai
 refine u6 (B6H ai.p1 (by have:=hp.length_eq;omega) fun ys h4 gB fV ay=>⟨(),rfl,?_⟩)
 have e:=B6B hA.dE (gB.trans (hp.trans dB)) fV
 subst e
 refine hq o h4 ?_
 have aL:sat h4 (cells t (trC rb cm)::o7 N::mapA A05 A1u cm C::U4 Z9 3 o (L.filter fun x=>Y9 x.2.1 n)::old h0::R):=(ay.re [2,3,1,5,0,4]).drop
 exact(A0l.2 ⟨N,C,hA,hC,A2c.2 ⟨rb,cm,hT,aL⟩⟩).p1
abbrev A5Z(id:Int)(L:List Ent):List Ent:=L.filter fun x=>decide (x.1=id)
def C1P(x1 x2:Nat)(id:Int)(l:List Ent):Asn:=star (cells x1 #[.int .i64 id]) (exA fun s:Slc=>star (cells x2 #[.slice s.a s.len s.cap]) (U4 Z9 3 s (A5Z id l)))
theorem A8H{x1 x2:Nat}{id:Int}{l:List Ent}:sat h (C1P x1 x2 id l::R)↔∃s:Slc,sat h (cells x2 #[.slice s.a s.len s.cap]::U4 Z9 3 s (A5Z id l)::cells x1 #[.int .i64 id]::R):=by
 unfold C1P
 rw[sat.aI]
 constructor
 ·intro hs
  obtain⟨s,aa⟩:=sat.bA.1 hs.p1
  exact⟨s,sat.aI.1 aa⟩
 ·rintro⟨s,hs⟩
  exact(sat.bA.2 ⟨s,sat.aI.2 hs⟩).p1
theorem C4r{x1 x2:Nat}{id:Int}{l:List Ent}{e:Ent}(hl:l.length≤100000)(hs:sat h (C1P x1 x2 id l::R)){Q:Value→Heap→Prop}(hq:∀h',sat h' (C1P x1 x2 id (l++[e])::R)→Q (.tuple #[]) h'):
  V2 prog 168 #[.agg #[.int .i64 e.1,.string e.2.1,.int .i64 e.2.2],.pointer (some ⟨x1,0,none⟩),.pointer (some ⟨x2,0,none⟩)] h Q:=by
 refine A6Z (e.1,e.2.1,e.2.2,()) ⟨x1,0,none⟩ ⟨x2,0,none⟩ h Q ?_
 delta A6f az bn ie ji lc li nw pu sx ve vi vs
 obtain⟨s,aa⟩:=A8H.1 hs
 refine V4 aa fun x h1 ae=>?_
 refine⟨e.1,by rw[U2];exact ae.cell 0,id,ae.p3.cell 0,?_⟩
 have cn:(A5Z id l).length≤100000:=C4 (D1 _ _) hl
 refine V3 (fun _ h'=>sat h' (C1P x1 x2 id (l++[e])::R)) ?_ ?_
 ·(try dsimp only);rw[U6]
  by_cases hid:e.1=id
  ·rw[if_pos (by simpa using hid)]
   refine⟨s,ae.p1.cell 0,?_⟩
   refine Y4 (ts:=[.int .i64,.str,.int .i64]) (e.1,e.2.1,e.2.2,()) ae rfl ?_
   refine V4 ae fun y h2 aj=>?_
   (try dsimp only);rw[U0]
   refine z8 (enc:=Z9) (ys:=[e]) A0J A3S rfl aj.p3 rfl ?_ (by decide) (by decide) (by omega) fun s' h3 ak=>?_
   ·simp only[V6,M9,D5,H8,C1]
    exact aj.reads rfl
   (try dsimp only);rw[U0]
   refine W5 ak.p3 (by simp) rfl fun h4 ai=>?_
   have e1:A5Z id (l++[e])=A5Z id l++[e]:=by simp[A5Z,E9,hid]
   refine A8H.2 ⟨s',?_⟩
   rw[e1]
   exact(ai.re [2,3,0,1,4]).drop.drop
  ·rw[if_neg (by simpa using hid)]
   have e1:A5Z id (l++[e])=A5Z id l:=by simp[A5Z,E9,hid]
   refine A8H.2 ⟨s,?_⟩
   rw[e1]
   exact ae.drop
 rintro⟨⟩ h2 ae
 exact hq h2 ae
theorem C3m{t:Nat}{L:List Ent}{id:Int}(hl:L.length≤10000)(hs:sat h (l4 t L::R)){Q:Value→Heap→Prop}
  (hq:∀(s:Slc) h',sat h' (U4 Z9 3 s (A5Z id L)::l4 t L::R)→Q (.slice s.a s.len s.cap) h'):
  V2 prog 116 #[at9 t,.int .i64 id] h Q:=by
 refine A9i (some ⟨t,0,none⟩) id h Q ?_
 delta A9F az cx ie kp lc nn nw pu vi vs vz
 refine V4 hs fun x1 h1 aa=>?_
 (try dsimp only);rw[U6,if_neg (by simp)]
 refine V4 aa fun x2 h2 ae=>?_
 obtain⟨N,C,hA,hC,aj⟩:=A0l.1 ae.p2
 obtain⟨ca,tt⟩:=B8c aj
 have hk:QOK N:=fun p nd hp=>(tt p nd hp).1
 obtain⟨rb,cm,hT,bq⟩:=A2c.1 aj
 have ak:sat h2 (cells t (trC rb cm)::o7 N::mapA A05 A1u cm C::cells x2 #[.slice none 0 0]::cells x1 #[.int .i64 id]::R):=bq
 clear bq aj ae aa hs
 have hp:=B81 hT hA hk
 obtain⟨r,fr,cI⟩:=hT.root
 refine⟨_,rfl,some ⟨rb,0,none⟩,by rw[U2];exact ak.cell 0,?_⟩
 have ep:(Value.pointer (some ⟨rb,0,none⟩))=.pointer (o0 r):=by unfold o0;rw[cI]
 (try dsimp only);rw[ep]
 have hJ:sat h2 (C1P x1 x2 id []::cells t (trC rb cm)::o7 N::mapA A05 A1u cm C::R):=by
  refine A8H.2 ⟨⟨none,0,0⟩,?_⟩
  have:=Z3 (enc:=Z9) (size:=3) (ak.re [3,4,0,1,2])
  exact this.p1
 refine u6 (C5Q hT (hA.fO hk) (yv:=.func (.func 168) #[] #[.pointer (some ⟨x1,0,none⟩),.pointer (some ⟨x2,0,none⟩)]) (J:=C1P x1 x2 id)
  (fun l e h R Q gl af ed=>⟨_,_,_,rfl,call168,C4r gl af fun h' nC=>⟨(),rfl,ed h' nC⟩⟩)
  _ [] r rfl fr (A:=cells t (trC rb cm)) (s:=⟨none,0,0⟩) (l:=[]) (fun _=>C2C) (by rw[B0E];exact hJ.re [2,0,1,3]) (by rw[B0E,hp.length_eq];simp;omega) fun l' h3 gU ai=>⟨(),rfl,?_⟩)
 rw[B0E] at gU ai
 rw[F2] at ai
 obtain⟨s,ay⟩:=A8H.1 ai.p1
 clear ai ak hJ
 refine⟨s,ay.cell 0,?_⟩
 have xb:l'.length≤10000:=by rw[gU.length_eq,hp.length_eq];exact hl
 refine u6 (B6H ay.p1 (C4 (D1 _ _) (by omega)) fun ys h4 gB fV aL=>⟨(),rfl,?_⟩)
 have e:=B6B hA.dE (gB.trans ((gU.trans hp).filter _)) fV
 subst e
 refine⟨s,aL.p1.cell 0,?_⟩
 refine hq s h4 ?_
 have bu:sat h4 (cells t (trC rb cm)::o7 N::mapA A05 A1u cm C::U4 Z9 3 s (A5Z id L)::R):=(aL.re [1,2,4,3,5,0]).drop.drop
 exact(A0l.2 ⟨N,C,hA,hC,A2c.2 ⟨rb,cm,hT,bu⟩⟩).p1
end
section
open Go.H Go.Proofs
variable {h h0:Heap} {R:List Asn}
theorem A8W{t:Nat}{L:List Ent}(hs:sat h (l4 t L::R)):(∀x∈L,X4 x.2.1=true)∧Asc L:=by
 obtain⟨N,C,hA,-,-⟩:=A0l.1 hs
 exact⟨hA.bQ,hA.dE⟩
def B9Z(D:List Ent)(x:Ent):Bool:= !(D.any fun y=>decide (y=x))
theorem B5m{D:List Ent}{x:Ent}:B9Z D x=true↔x∉D:=by
 unfold B9Z
 rw[O0,List.any_eq_false]
 constructor
 ·intro h hx
  have:=h x hx
  simp at this
 ·intro h y hy e
  rw[decide_eq_true_eq] at e
  exact h (e▸hy)
abbrev A1b(id:Int)(L:List Ent):List Ent:=L.filter fun x=> !decide (x.1=id)
theorem C06{t:Nat}{L:List Ent}(ht:TP h0){id:Int}(hl:L.length≤10000)(hs:sat h (l4 t L::old h0::R)){Q:Value→Heap→Prop}
  (hq:∀h',sat h' (l4 t (A1b id L)::old h0::R)→Q (.int .i64 ((A5Z id L).length:Nat)) h'):
  V2 prog 71 #[at9 t,.int .i64 id] h Q:=by
 refine A8j (some ⟨t,0,none⟩) id h Q ?_
 delta A8k bn cb cc ie ix jt nw pu sn ve vi wi
 obtain⟨bP,fx⟩:=A8W hs
 refine U5 (C3m hl hs fun s h1 aa=>⟨s,rfl,?_⟩)
 have hlen:=aa.aW
 have yp:(A5Z id L).length≤L.length:=D1 _ _
 have hD:∀e,e∈A5Z id L↔e∈L∧e.1=id:=fun e=>by rw[E7,decide_eq_true_eq]
 have bY:(L.filter fun x=>B9Z (A5Z id L) x)=A1b id L:=by
  refine K7 fun x hx=>?_
  apply Bool.eq_iff_iff.2
  rw[B5m,hD,O0,decide_eq_false_iff_not]
  constructor
  ·exact fun h e=>h ⟨hx,e⟩
  ·exact fun h e=>h e.2
 generalize yq:A5Z id L=D at*
 (try dsimp only);rw[U0]
 refine l6 (γ:=Nat) (hb:=fun s=>by
   repeat' with_reducible first
    |refine @A0n _ _ _ _ ?_ (fun _=>?_)
    |refine @A0V _ _ _ _ ?_ ?_
    |refine @A1U _ _ _ ?_
   all_goals infer_instance)
  (fun g x h'=>g≤D.length∧x.1=(g:Int)∧sat h' (U4 Z9 3 s D::l4 t (L.filter fun x=>B9Z (D.take g) x)::old h0::R)) (fun g=>D.length-g) 0
  ⟨C9 _,rfl,by
   have e0:(L.filter fun x=>B9Z (D.take 0) x)=L:=H0.2 fun x _=>rfl
   rw[e0];exact aa⟩ ?_
 clear aa hs
 rintro i ⟨ci,⟨⟩⟩ h2 ⟨hi,bR,ae⟩
 simp only at hi bR ae
 subst bR
 have next:IntKind.wrap .i64 ((i:Int)+1)=((i+1:Nat):Int):=by rw[V5 (by omega) (by omega)];rfl
 simp only[U6,decide_eq_true_eq]
 by_cases ah:i<D.length
 ·rw[if_pos (by omega),U0]
  have hx:=B0 ah
  generalize D[i]=e at hx
  have xp:=F1 hx
  obtain⟨vh,qy⟩:=(hD e).1 xp
  refine X6 (ae.aO A0J) hx fun a ha=>?_
  refine A0j (ts:=[.int .i64,.str,.int .i64]) (e.1,e.2.1,e.2.2,()) (fun j v hv=>ha j v hv) ?_
  refine V4 ae fun x6 h3 aj=>?_
  (try dsimp only);rw[U0]
  refine l0 aj rfl rfl fun h4 bq=>?_
  have ak:sat h4 (l4 t (L.filter fun x=>B9Z (D.take i) x)::old h0::U4 Z9 3 s D::cells x6 #[.int .i64 e.1,.string e.2.1,.int .i64 e.2.2]::R):=bq.re [2,3,1,0]
  clear bq aj ae
  refine⟨e.2.1,by rw[U2];exact ak.p3.cell 1,?_⟩
  have ym:=A3y (A0u (bP e vh))
  refine U5 (B0R ht (by omega) (C4 (D1 _ _) (by omega)) ak fun h5 ai=>⟨_,rfl,?_⟩)
  have dQ:A1H (L.filter fun x=>B9Z (D.take i) x) id e.2.1=L.filter fun x=>B9Z (D.take (i+1)) x:=by
   unfold A1H
   rw[R4]
   refine K7 fun x wB=>?_
   have pH:D.take (i+1)=D.take i++[e]:=by rw[H7,hx];rfl
   rw[pH]
   have fQ:b8 x=(id,e.2.1)↔x=e:=by
    constructor
    ·intro hk
     exact fx.key wB vh (hk.trans (by rw[←qy]))
    ·rintro rfl
     rw[←qy]
   apply Bool.eq_iff_iff.2
   rw[E8,decide_eq_true_eq,B5m,B5m,C7,C0]
   constructor
   ·rintro⟨h1,h2⟩ (h3|h3)
    ·exact h2 h3
    ·exact h1 (fQ.2 h3)
   ·exact fun h1=>⟨fun h2=>h1 (.inr (fQ.1 h2)),fun h2=>h1 (.inl h2)⟩
  rw[dQ] at ai
  simp only[D3,E6,V0]
  exact .mk (i+1) (by omega) ⟨by omega,next,(ai.re [3,2,0,1]).drop⟩
 ·rw[if_neg (by omega)]
  have:i=D.length:=by omega
  subst this
  rw[F5,bY] at ae
  simp only[D3,E6,V0]
  rw[hlen]
  exact hq h2 ae.drop
def A0y(r:Nat)(L:List Ent):Asn:=exA fun s:Slc=>star (cells r #[.slice s.a s.len s.cap]) (U4 Z9 3 s L)
theorem A1o{r:Nat}{L:List Ent}:sat h (A0y r L::R)↔∃s:Slc,sat h (cells r #[.slice s.a s.len s.cap]::U4 Z9 3 s L::R):=by
 unfold A0y
 rw[sat.bA]
 constructor
 ·rintro⟨s,hs⟩;exact⟨s,sat.aI.1 hs⟩
 ·rintro⟨s,hs⟩;exact⟨s,sat.aI.2 hs⟩
theorem A3v{α:Type}{L:List α}{i:Nat}{x:α}(hx:L[i]? =some x)(c:α→Bool):(L.take (i+1)).filter c=(L.take i).filter c++(if c x=true then[x] else[]):=by
 rw[H7,hx,E9]
 simp only[Option.toList_some,H5,J4]
theorem B8y{r:Nat}{L:List Ent}{id:Int}{f:B3O}(hl:L.length≤10000)(hs:sat h (A0y r L::R)){Q:Value→Heap→Prop}
  (hq:∀h',sat h' (A0y r (A1H L id f)::R)→Q (.bool (decide ((A1H L id f).length<L.length))) h'):
  V2 prog 198 #[at9 r,.int .i64 id,.string f] h Q:=by
 refine B0m (some ⟨r,0,none⟩) id f h Q ?_
 delta B1b az bn ie ix kc ki kt nn nw pu sx ve vi vs wi
 obtain⟨s,aa⟩:=A1o.1 hs
 have hlen:=aa.p1.aW
 rw[U0]
 refine l6 (γ:=Nat) (hb:=fun s=>by
   repeat' with_reducible first
    |refine @A0n _ _ _ _ ?_ (fun _=>?_)
    |refine @A0V _ _ _ _ ?_ ?_
    |refine @A1U _ _ _ ?_
   all_goals infer_instance)
  (fun g x h'=>g≤L.length∧x.2.1=(g:Int)∧sat h' (cells r #[.slice s.a s.len s.cap]::U4 Z9 3 s L::U4 Z9 3 x.1 (A1H (L.take g) id f)::R)) (fun g=>L.length-g) 0
  ⟨C9 _,rfl,by simpa[A1H] using(Z3 (enc:=Z9) (size:=3) aa).re [1,2,0]⟩ ?_
 clear aa hs
 rintro i ⟨o,ci,⟨⟩⟩ h2 ⟨hi,bR,ae⟩
 simp only at hi bR ae
 subst bR
 have next:IntKind.wrap .i64 ((i:Int)+1)=((i+1:Nat):Int):=by rw[V5 (by omega) (by omega)];rfl
 have cr:∀{h':Heap} {R':List Asn},sat h' (cells r #[.slice s.a s.len s.cap]::R')→V9 h' ⟨r,0,none⟩=some (.slice s.a s.len s.cap):=fun af=>af.cell 0
 refine⟨_,rfl,s,by rw[U2];exact cr ae,?_⟩
 (try dsimp only);rw[U6]
 by_cases ah:i<L.length
 ·rw[if_pos (by simp only[decide_eq_true_eq];omega)]
  have hx:=B0 ah
  generalize L[i]=e at hx
  refine V3 (fun x h'=>h'=h2∧x.1=decide (b8 e≠(id,f))) ?_ ?_
  ·refine⟨_,rfl,s,by rw[U2];exact cr ae,?_⟩
   (try dsimp only);rw[U0]
   refine X6 (ae.p1.aO A0J) hx fun a ha=>?_
   refine⟨e.1,ha 0 _ rfl,?_⟩
   (try dsimp only);rw[U6]
   by_cases h1:e.1=id
   ·rw[if_neg (by simp[h1])]
    refine⟨_,rfl,s,by rw[U2];exact cr ae,?_⟩
    (try dsimp only);rw[U0]
    refine X6 (ae.p1.aO A0J) hx fun a ha=>?_
    refine⟨e.2.1,ha 1 _ rfl,rfl,?_⟩
    simp[h1]
   ·rw[if_pos (by simp[h1])]
    exact⟨rfl,by simp[h1]⟩
  rintro⟨x,⟨⟩⟩ h3 ⟨rfl,ur⟩
  simp only at ur
  subst ur
  have eK:=A3v hx (fun x:Ent=>decide (b8 x≠(id,f)))
  have oP:(A1H (L.take i) id f).length≤10000:=C4 (D1 _ _) (by rw[E1];omega)
  refine V3 (fun z h'=>sat h' (cells r #[.slice s.a s.len s.cap]::U4 Z9 3 s L::U4 Z9 3 z.1 (A1H (L.take (i+1)) id f)::R)) ?_ ?_
  ·(try dsimp only);rw[U6]
   unfold A1H at oP ae⊢
   rw[eK]
   by_cases hk:decide (b8 e≠(id,f))=true
   ·rw[if_pos hk,if_pos hk]
    refine⟨_,rfl,s,by rw[U2];exact cr ae,?_⟩
    (try dsimp only);rw[U0]
    refine X6 (ae.p1.aO A0J) hx fun a ha=>?_
    refine A0j (ts:=[.int .i64,.str,.int .i64]) (e.1,e.2.1,e.2.2,()) (fun j v hv=>ha j v hv) ?_
    refine V4 ae fun y h4 aj=>?_
    (try dsimp only);rw[U0]
    refine z8 (enc:=Z9) (ys:=[e]) A0J A3S rfl aj.p3 rfl ?_ (by decide) (by decide) (by omega) fun s' h5 ak=>?_
    ·simp only[V6,M9,D5,H8,C1]
     exact aj.reads rfl
    exact(ak.re [1,2,3,0]).drop
   ·rw[if_neg hk,if_neg hk,C1]
    exact ae
  rintro⟨o',⟨⟩⟩ h4 ak
  simp only[D3,E6,V0]
  exact .mk (i+1) (by omega) ⟨by omega,next,ak⟩
 ·rw[if_neg (by simp only[decide_eq_true_eq];omega)]
  have:i=L.length:=by omega
  subst this
  rw[F5] at ae
  simp only[D3,E6,V0]
  have fN:=ae.p2.aW
  refine⟨_,rfl,s,by rw[U2];exact cr ae,_,rfl,?_⟩
  (try dsimp only);rw[U0,U2]
  refine W5 ae (by simp) rfl fun h5 ai=>?_
  have:=hq h5 (A1o.2 ⟨o,(ai.re [1,0,2]).drop⟩)
  have e1:decide (((o.len:Nat):Int)<((s.len:Nat):Int))=decide ((A1H L id f).length<L.length):=by
   rw[F9,fN,hlen];omega
  rw[←e1] at this
  exact this
theorem C1n{r:Nat}{L:List Ent}{id:Int}(hl:L.length≤10000)(hs:sat h (A0y r L::R)){Q:Value→Heap→Prop}
  (hq:∀h',sat h' (A0y r (A1b id L)::R)→Q (.int .i64 ((A5Z id L).length:Nat)) h'):
  V2 prog 134 #[at9 r,.int .i64 id] h Q:=by
 refine B2E (some ⟨r,0,none⟩) id h Q ?_
 delta B5d az bn ie ix kc ki nn nw pu sx ve vi vs wi
 obtain⟨s,aa⟩:=A1o.1 hs
 have hlen:=aa.p1.aW
 rw[U0]
 refine l6 (γ:=Nat) (hb:=fun s=>by
   repeat' with_reducible first
    |refine @A0n _ _ _ _ ?_ (fun _=>?_)
    |refine @A0V _ _ _ _ ?_ ?_
    |refine @A1U _ _ _ ?_
   all_goals infer_instance)
  (fun g x h'=>g≤L.length∧x.2.1=(g:Int)∧sat h' (cells r #[.slice s.a s.len s.cap]::U4 Z9 3 s L::U4 Z9 3 x.1 (A1b id (L.take g))::R)) (fun g=>L.length-g) 0
  ⟨C9 _,rfl,by simpa[A1b] using(Z3 (enc:=Z9) (size:=3) aa).re [1,2,0]⟩ ?_
 clear aa hs
 rintro i ⟨o,ci,⟨⟩⟩ h2 ⟨hi,bR,ae⟩
 simp only at hi bR ae
 subst bR
 have next:IntKind.wrap .i64 ((i:Int)+1)=((i+1:Nat):Int):=by rw[V5 (by omega) (by omega)];rfl
 have cr:∀{h':Heap} {R':List Asn},sat h' (cells r #[.slice s.a s.len s.cap]::R')→V9 h' ⟨r,0,none⟩=some (.slice s.a s.len s.cap):=fun af=>af.cell 0
 refine⟨_,rfl,s,by rw[U2];exact cr ae,?_⟩
 (try dsimp only);rw[U6]
 by_cases ah:i<L.length
 ·rw[if_pos (by simp only[decide_eq_true_eq];omega)]
  have hx:=B0 ah
  generalize L[i]=e at hx
  refine⟨_,rfl,s,by rw[U2];exact cr ae,?_⟩
  (try dsimp only);rw[U0]
  refine X6 (ae.p1.aO A0J) hx fun a ha=>?_
  refine⟨e.1,ha 0 _ rfl,?_⟩
  have eK:=A3v hx (fun x:Ent=> !decide (x.1=id))
  have oP:(A1b id (L.take i)).length≤10000:=C4 (D1 _ _) (by rw[E1];omega)
  refine V3 (fun z h'=>sat h' (cells r #[.slice s.a s.len s.cap]::U4 Z9 3 s L::U4 Z9 3 z.1 (A1b id (L.take (i+1)))::R)) ?_ ?_
  ·(try dsimp only);rw[U6]
   unfold A1b at oP ae⊢
   rw[eK]
   have eb:(!(e.1==id))=(!decide (e.1=id)):=rfl
   by_cases hk:(!decide (e.1=id))=true
   ·rw[if_pos (by rw[eb];exact hk),if_pos hk]
    refine⟨_,rfl,s,by rw[U2];exact cr ae,?_⟩
    (try dsimp only);rw[U0]
    refine X6 (ae.p1.aO A0J) hx fun a ha=>?_
    refine A0j (ts:=[.int .i64,.str,.int .i64]) (e.1,e.2.1,e.2.2,()) (fun j v hv=>ha j v hv) ?_
    refine V4 ae fun y h4 aj=>?_
    (try dsimp only);rw[U0]
    refine z8 (enc:=Z9) (ys:=[e]) A0J A3S rfl aj.p3 rfl ?_ (by decide) (by decide) (by omega) fun s' h5 ak=>?_
    ·simp only[V6,M9,D5,H8,C1]
     exact aj.reads rfl
    exact(ak.re [1,2,3,0]).drop
   ·rw[if_neg (by rw[eb];exact hk),if_neg hk,C1]
    exact ae
  rintro⟨o',⟨⟩⟩ h4 ak
  simp only[D3,E6,V0]
  exact .mk (i+1) (by omega) ⟨by omega,next,ak⟩
 ·rw[if_neg (by simp only[decide_eq_true_eq];omega)]
  have:i=L.length:=by omega
  subst this
  rw[F5] at ae
  simp only[D3,E6,V0]
  have fN:=ae.p2.aW
  refine⟨_,rfl,s,by rw[U2];exact cr ae,_,rfl,?_⟩
  (try dsimp only);rw[U0,U2]
  refine W5 ae (by simp) rfl fun h5 ai=>?_
  have:=hq h5 (A1o.2 ⟨o,(ai.re [1,0,2]).drop⟩)
  have sK:(A5Z id L).length+(A1b id L).length=L.length:=by
   have:=(List.filter_append_perm (fun x:Ent=>decide (x.1=id)) L).length_eq
   rw[B4] at this
   exact this
  have e1:IntKind.wrap .i64 (((s.len:Nat):Int)-((o.len:Nat):Int))=(((A5Z id L).length:Nat):Int):=by
   rw[fN,hlen,V5 (by omega) (by omega)];omega
  (try dsimp only)
  rw[e1]
  exact this
theorem B8z{r:Nat}{L:List Ent}{n:B3O}(hg:∀x∈L,x.2.1.size≤9223372036854775800)(hsz:n.size≤9223372036854775800)(hl:L.length≤10000)(hs:sat h (A0y r L::R)){Q:Value→Heap→Prop}
  (hq:∀(o:Slc) h',sat h' (U4 Z9 3 o (L.filter fun x=>Y9 x.2.1 n)::A0y r L::R)→Q (.slice o.a o.len o.cap) h'):
  V2 prog 137 #[at9 r,.string n] h Q:=by
 refine B1c (some ⟨r,0,none⟩) n h Q ?_
 delta B3z az bn cb ie ix kc kt nn nw pu ve vi wi
 obtain⟨s,aa⟩:=A1o.1 hs
 have hlen:=aa.p1.aW
 rw[U0]
 refine l6 (γ:=Nat) (hb:=fun s=>by
   repeat' with_reducible first
    |refine @A0n _ _ _ _ ?_ (fun _=>?_)
    |refine @A0V _ _ _ _ ?_ ?_
    |refine @A1U _ _ _ ?_
   all_goals infer_instance)
  (fun g x h'=>g≤L.length∧x.2.1=(g:Int)∧sat h' (cells r #[.slice s.a s.len s.cap]::U4 Z9 3 s L::U4 Z9 3 x.1 ((L.take g).filter fun x=>Y9 x.2.1 n)::R)) (fun g=>L.length-g) 0
  ⟨C9 _,rfl,by simpa using(Z3 (enc:=Z9) (size:=3) aa).re [1,2,0]⟩ ?_
 clear aa hs
 rintro i ⟨o,ci,⟨⟩⟩ h2 ⟨hi,bR,ae⟩
 simp only at hi bR ae
 subst bR
 have next:IntKind.wrap .i64 ((i:Int)+1)=((i+1:Nat):Int):=by rw[V5 (by omega) (by omega)];rfl
 have cr:∀{h':Heap} {R':List Asn},sat h' (cells r #[.slice s.a s.len s.cap]::R')→V9 h' ⟨r,0,none⟩=some (.slice s.a s.len s.cap):=fun af=>af.cell 0
 refine⟨_,rfl,s,by rw[U2];exact cr ae,?_⟩
 (try dsimp only);rw[U6]
 by_cases ah:i<L.length
 ·rw[if_pos (by simp only[decide_eq_true_eq];omega)]
  have hx:=B0 ah
  generalize L[i]=e at hx
  refine⟨_,rfl,s,by rw[U2];exact cr ae,?_⟩
  (try dsimp only);rw[U0]
  refine X6 (ae.p1.aO A0J) hx fun a ha=>?_
  refine⟨e.2.1,ha 1 _ rfl,?_⟩
  refine U5 (B3D ae (hg e (F1 hx)) hsz fun h3 aj=>⟨Y9 e.2.1 n,rfl,?_⟩)
  have eK:=A3v hx (fun x:Ent=>Y9 x.2.1 n)
  have oP:((L.take i).filter fun x=>Y9 x.2.1 n).length≤10000:=C4 (D1 _ _) (by rw[E1];omega)
  refine V3 (fun z h'=>sat h' (cells r #[.slice s.a s.len s.cap]::U4 Z9 3 s L::U4 Z9 3 z.1 ((L.take (i+1)).filter fun x=>Y9 x.2.1 n)::R)) ?_ ?_
  ·(try dsimp only);rw[U6,eK]
   by_cases hk:Y9 e.2.1 n=true
   ·rw[if_pos hk,if_pos hk]
    refine⟨_,rfl,s,by rw[U2];exact cr aj,?_⟩
    (try dsimp only);rw[U0]
    refine X6 (aj.p1.aO A0J) hx fun a ha=>?_
    refine A0j (ts:=[.int .i64,.str,.int .i64]) (e.1,e.2.1,e.2.2,()) (fun j v hv=>ha j v hv) ?_
    refine V4 aj fun y h4 ak=>?_
    (try dsimp only);rw[U0]
    refine z8 (enc:=Z9) (ys:=[e]) A0J A3S rfl ak.p3 rfl ?_ (by decide) (by decide) (by omega) fun s' h5 ai=>?_
    ·simp only[V6,M9,D5,H8,C1]
     exact ak.reads rfl
    exact(ai.re [1,2,3,0]).drop
   ·rw[if_neg hk,if_neg hk,C1]
    exact aj
  rintro⟨o',⟨⟩⟩ h4 ak
  simp only[D3,E6,V0]
  exact .mk (i+1) (by omega) ⟨by omega,next,ak⟩
 ·rw[if_neg (by simp only[decide_eq_true_eq];omega)]
  have:i=L.length:=by omega
  subst this
  rw[F5] at ae
  simp only[D3,E6,V0]
  refine hq o h2 ?_
  exact(A1o.2 ⟨s,ae.re [0,1,2]⟩).p1
end
section
open Go.H Go.Proofs
variable {h h0:Heap} {R:List Asn}
theorem C2j(hs:sat h R){a b:Ent}{Q:Value→Heap→Prop}(hq:∀h',sat h' R→Q (.bool (decide (ltK (b8 a) (b8 b)))) h'):
  V2 prog 247 #[.agg #[.int .i64 a.1,.string a.2.1,.int .i64 a.2.2],.agg #[.int .i64 b.1,.string b.2.1,.int .i64 b.2.2]] h Q:=by
 refine B1a (a.1,a.2.1,a.2.2,()) (b.1,b.2.1,b.2.2,()) h Q ?_
 delta B3y bn ie ji jt nw pu vi
 refine V4 hs fun x1 h1 aa=>?_
 refine V4 aa fun x2 h2 ae=>?_
 refine V3 (fun z h'=>h'=h2∧z.1=decide (ltK (b8 a) (b8 b))) ?_ ?_
 ·refine⟨a.1,by rw[U2];exact ae.p1.cell 0,b.1,by rw[U2];exact ae.cell 0,?_⟩
  (try dsimp only);rw[U6]
  by_cases h1:a.1<b.1
  ·rw[if_pos (by simpa using h1)]
   exact⟨rfl,(decide_eq_true (.inl h1)).symm⟩
  ·rw[if_neg (by simpa using h1)]
   refine⟨a.1,by rw[U2];exact ae.p1.cell 0,b.1,by rw[U2];exact ae.cell 0,?_⟩
   (try dsimp only);rw[U6]
   by_cases h2:a.1=b.1
   ·rw[if_pos (by simpa using h2)]
    refine⟨a.2.1,by rw[U2];exact ae.p1.cell 1,b.2.1,by rw[U2];exact ae.cell 1,rfl,?_⟩
    apply Bool.eq_iff_iff.2
    rw[B99,decide_eq_true_eq,decide_eq_true_eq]
    constructor
    ·intro h3;exact .inr ⟨h2,h3⟩
    ·rintro(h3|h3)
     ·exact absurd h3 h1
     ·exact h3.2
   ·rw[if_neg (by simpa using h2)]
    refine⟨rfl,(decide_eq_false ?_).symm⟩
    rintro(h3|h3)
    ·exact h1 h3
    ·exact h2 h3.1
 rintro⟨z,⟨⟩⟩ h3 ⟨rfl,hz⟩
 simp only at hz
 subst hz
 exact hq h3 ae.drop.drop
theorem C5G{L:List Ent}{i:Nat}{x:Ent}(hx:L[i]? =some x)(k:Int):A02 (L.take (i+1)) k=A02 (L.take i) k+if x.1=k then 1 else 0:=by
 unfold A02
 rw[H7,hx,B8,List.count_append]
 simp[List.count_cons]
theorem C3H{r:Nat}{L:List Ent}{id q:Int}{f:B3O}(hsz:f.size≤9223372036854775800)(hl:L.length≤10000)(hs:sat h (A0y r L::R)){Q:Value→Heap→Prop}
  (al:X4 f=false→∀h',sat h' (A0y r L::R)→Q (.int .i64 143) h')
  (ft:X4 f=true→(q<0∨2<q)→∀h',sat h' (A0y r L::R)→Q (.int .i64 155) h')
  (eX:X4 f=true→0≤q→q≤2→∀i x,L[i]? =some x→b8 x=(id,f)→(∀y∈L.take i,b8 y≠(id,f))→∀h',sat h' (A0y r (L.set i (id,f,q))::R)→Q (.int .i64 0) h')
  (aA:X4 f=true→0≤q→q≤2→(∀x∈L,b8 x≠(id,f))→64≤A02 L id→∀h',sat h' (A0y r L::R)→Q (.int .i64 151) h')
  (iT:X4 f=true→0≤q→q≤2→(∀x∈L,b8 x≠(id,f))→A02 L id<64→∀h',sat h' (A0y r (A2o ltK b8 (id,f,q) L)::R)→Q (.int .i64 0) h'):
  V2 prog 196 #[at9 r,C4w id f q] h Q:=by
 refine B4g (some ⟨r,0,none⟩) (id,f,q,()) h Q ?_
 delta B7t az bn cb ci ie ix ji jt kc ki kt nn nw pu sx ve vi vs wi
 refine V4 hs fun x1 h1 aa=>?_
 have hE:∀{h':Heap} {R':List Asn},sat h' (cells x1 #[.int .i64 id,.string f,.int .i64 q]::R')→V9 h' ⟨x1,0,none⟩=some (.int .i64 id)∧V9 h' ⟨x1,1,none⟩=some (.string f)∧V9 h' ⟨x1,2,none⟩=some (.int .i64 q):=fun af=>⟨af.cell 0,af.cell 1,af.cell 2⟩
 refine⟨f,by rw[U2];exact(hE aa).2.1,?_⟩
 refine U5 (A5y aa hsz fun h2 ae=>⟨A9X f,rfl,?_⟩)
 clear aa hs
 (try dsimp only);rw[U6]
 unfold A9X
 by_cases hf:X4 f=true
 case neg=>
  rw[if_neg hf,if_pos (by decide)]
  exact al (by simpa using hf) h2 ae.drop
 rw[if_pos hf,if_neg (by decide)]
 clear al
 refine V3 (fun x h'=>h'=h2∧(x.1=true↔(q<0∨2<q))) ?_ ?_
 ·refine⟨q,by rw[U2];exact(hE ae).2.2,?_⟩
  (try dsimp only);rw[U6]
  by_cases g1:q<0
  ·rw[if_pos (by simpa using g1)]
   exact⟨rfl,by simp[g1]⟩
  ·rw[if_neg (by simpa using g1)]
   exact⟨q,by rw[U2];exact(hE ae).2.2,rfl,by simp[g1]⟩
 rintro⟨x,⟨⟩⟩ h3 ⟨rfl,hx⟩
 simp only at hx
 rw[U6]
 by_cases g:q<0∨2<q
 ·rw[if_pos (hx.2 g)]
  exact ft hf g h3 ae.drop
 rw[if_neg (fun e=>g (hx.1 e))]
 clear hx ft
 have iJ:0≤q:=by omega
 have fa:q≤2:=by omega
 clear g
 obtain⟨s,bo⟩:=A1o.1 ae.p1
 have aj:sat h3 (cells r #[.slice s.a s.len s.cap]::U4 Z9 3 s L::cells x1 #[.int .i64 id,.string f,.int .i64 q]::R):=bo
 clear bo ae
 have hlen:=aj.p1.aW
 have cr:∀{h':Heap} {R':List Asn},sat h' (cells r #[.slice s.a s.len s.cap]::R')→V9 h' ⟨r,0,none⟩=some (.slice s.a s.len s.cap):=fun af=>af.cell 0
 have cntb:∀g,A02 (L.take g) id≤10000:=fun g=>C4 (B6q _ _) (by rw[E1];omega)
 rw[U0]
 refine l6 (γ:=Nat) (hb:=fun s=>by
   repeat' with_reducible first
    |refine @A0n _ _ _ _ ?_ (fun _=>?_)
    |refine @A0V _ _ _ _ ?_ ?_
    |refine @A1U _ _ _ ?_
    |refine @C3O _ _ _ _ _ _ (fun _=>?_) (fun _=>?_)
   all_goals infer_instance)
  (fun g x h'=>g≤L.length∧x.2.1=(g:Int)∧x.1=(A02 (L.take g) id:Int)∧(∀y∈L.take g,b8 y≠(id,f))∧
   sat h' (cells r #[.slice s.a s.len s.cap]::U4 Z9 3 s L::cells x1 #[.int .i64 id,.string f,.int .i64 q]::R)) (fun g=>L.length-g) 0
  ⟨C9 _,rfl,by simp[A02],by simp,aj⟩ ?_
 clear aj
 rintro i ⟨n,ci,⟨⟩⟩ h4 ⟨hi,bR,ca,ax,ak⟩
 simp only at hi bR ca ax ak
 subst bR
 have next:IntKind.wrap .i64 ((i:Int)+1)=((i+1:Nat):Int):=by rw[V5 (by omega) (by omega)];rfl
 refine⟨_,rfl,s,by rw[U2];exact cr ak,?_⟩
 (try dsimp only);rw[U6]
 by_cases ah:i<L.length
 ·rw[if_pos (by simp only[decide_eq_true_eq];omega)]
  have hx:=B0 ah
  generalize L[i]=e at hx
  have fC:=C5G hx id
  have yn:=cntb i
  have nokey:b8 e≠(id,f)→∀y∈L.take (i+1),b8 y≠(id,f):=by
   intro he y hy
   rw[H7,hx] at hy
   rcases C7.1 hy with hy|hy
   ·exact ax y hy
   ·simp at hy;subst hy;exact he
  refine V3 (fun z h'=>(∃m,z=.inl (m,())∧m=(A02 (L.take (i+1)) id:Int)∧b8 e≠(id,f)∧sat h' (cells r #[.slice s.a s.len s.cap]::U4 Z9 3 s L::cells x1 #[.int .i64 id,.string f,.int .i64 q]::R))∨
   (z=.inr (.inr (.inr (0,())))∧b8 e=(id,f)∧sat h' (cells r #[.slice s.a s.len s.cap]::U4 Z9 3 s (L.set i (id,f,q))::cells x1 #[.int .i64 id,.string f,.int .i64 q]::R))) ?_ ?_
  ·refine⟨_,rfl,s,by rw[U2];exact cr ak,?_⟩
   (try dsimp only);rw[U0]
   refine X6 (ak.p1.aO A0J) hx fun a ha=>?_
   refine⟨e.1,ha 0 _ rfl,id,by rw[U2];exact(hE ak.p2).1,?_⟩
   (try dsimp only);rw[U6]
   by_cases h1:e.1=id
   ·rw[if_neg (by simp[h1])]
    rw[if_pos h1] at fC
    refine⟨_,rfl,s,by rw[U2];exact cr ak,?_⟩
    (try dsimp only);rw[U0]
    refine X6 (ak.p1.aO A0J) hx fun a ha=>?_
    refine⟨e.2.1,ha 1 _ rfl,f,by rw[U2];exact(hE ak.p2).2.1,?_⟩
    (try dsimp only);rw[U6]
    by_cases h2:e.2.1=f
    ·rw[if_pos (by simpa using h2)]
     refine⟨_,rfl,s,by rw[U2];exact cr ak,q,by rw[U2];exact(hE ak.p2).2.2,?_⟩
     (try dsimp only);rw[U0]
     refine B8T A0J ak.p1 hx fun p hp bH=>?_
     (try dsimp only);rw[U0]
     refine bH 2 _ (id,f,q) _ (by decide) (by simp[h1,h2]) rfl fun h5 ai=>?_
     exact .inr ⟨rfl,by rw[←h1,←h2],ai.p1⟩
    ·rw[if_neg (by simpa using h2)]
     refine .inl ⟨_,rfl,?_,fun hk=>h2 (congrArg Prod.snd hk),ak⟩
     rw[ca,V5 (by omega) (by omega),fC]
     rfl
   ·rw[if_pos (by simp[h1])]
    rw[if_neg h1] at fC
    exact .inl ⟨_,rfl,by rw[ca,fC];rfl,fun hk=>h1 (congrArg Prod.fst hk),ak⟩
  rintro z h5 (⟨m,rfl,hm,hk,ai⟩|⟨rfl,hk,ai⟩)
  ·simp only[D3,E6,V0]
   exact .mk (i+1) (by omega) ⟨by omega,next,hm,nokey hk,ai⟩
  ·simp only[D3,E6,V0]
   exact eX hf iJ fa i e hx hk ax h5 (A1o.2 ⟨s,(ai.re [2,0,1]).drop⟩)
 rw[if_neg (by simp only[decide_eq_true_eq];omega)]
 have:i=L.length:=by omega
 subst this
 rw[F5] at ca ax
 simp only[D3,E6,V0]
 clear eX next ah hi
 rw[U6]
 by_cases cn:64≤A02 L id
 ·rw[if_pos (by rw[ca];simp only[decide_eq_true_eq];omega)]
  exact aA hf iJ fa ax cn h4 (A1o.2 ⟨s,(ak.re [2,0,1]).drop⟩)
 rw[if_neg (by rw[ca];simp only[decide_eq_true_eq];omega)]
 clear aA
 refine V3 (fun x h'=>(if x.1=true then ∃out,out=A2o ltK b8 (id,f,q) L∧sat h' (U4 Z9 3 x.2.1 out::cells r #[.slice s.a s.len s.cap]::U4 Z9 3 s L::cells x1 #[.int .i64 id,.string f,.int .i64 q]::R)
   else ∃out,out++[(id,f,q)]=A2o ltK b8 (id,f,q) L∧sat h' (U4 Z9 3 x.2.1 out::cells r #[.slice s.a s.len s.cap]::U4 Z9 3 s L::cells x1 #[.int .i64 id,.string f,.int .i64 q]::R))) ?_ ?_
 ·refine l6 (γ:=Nat×List Ent) (hb:=fun s=>by
    repeat' with_reducible first
     |refine @A0n _ _ _ _ ?_ (fun _=>?_)
     |refine @A0V _ _ _ _ ?_ ?_
     |refine @A1U _ _ _ ?_
    all_goals infer_instance)
   (fun g x h'=>g.1≤L.length∧x.2.2.1=(g.1:Int)∧g.2.length≤2*g.1∧(if x.1=true then g.2++L.drop g.1=A2o ltK b8 (id,f,q) L else g.2++A2o ltK b8 (id,f,q) (L.drop g.1)=A2o ltK b8 (id,f,q) L)∧
    sat h' (U4 Z9 3 x.2.1 g.2::cells r #[.slice s.a s.len s.cap]::U4 Z9 3 s L::cells x1 #[.int .i64 id,.string f,.int .i64 q]::R)) (fun g=>L.length-g.1) (0,[])
   ⟨C9 _,rfl,by simp,by simp,Z3 ak⟩ ?_
  clear ak
  rintro⟨i,out⟩ ⟨put,o,ci,⟨⟩⟩ h5 ⟨hi,bR,fN,hJ,ai⟩
  simp only at hi bR fN hJ ai
  subst bR
  have next:IntKind.wrap .i64 ((i:Int)+1)=((i+1:Nat):Int):=by rw[V5 (by omega) (by omega)];rfl
  refine⟨_,rfl,s,by rw[U2];exact cr ai.p1,?_⟩
  (try dsimp only);rw[U6]
  by_cases ah:i<L.length
  ·rw[if_pos (by simp only[decide_eq_true_eq];omega)]
   have gx:=D9 ah
   have hx:=B0 ah
   generalize L[i]=e at hx gx
   refine Y4 (ts:=[.int .i64,.str,.int .i64]) (id,f,q,()) ai.p3 rfl ?_
   refine⟨_,rfl,s,by rw[U2];exact cr ai.p1,?_⟩
   (try dsimp only);rw[U0]
   refine X6 (ai.p2.aO A0J) hx fun a ha=>?_
   refine A0j (ts:=[.int .i64,.str,.int .i64]) (e.1,e.2.1,e.2.2,()) (fun j v hv=>ha j v hv) ?_
   refine U5 (C2j (a:=(id,f,q)) (b:=e) ai fun h6 ay=>⟨_,rfl,?_⟩)
   refine V3 (fun z h'=>h'=h6∧z.1=(decide (ltK (id,f) (b8 e))&& !put)) ?_ ?_
   ·(try dsimp only);rw[U6]
    by_cases h1:ltK (id,f) (b8 e)
    ·rw[if_pos (by simpa using h1)];exact⟨rfl,by simp[h1]⟩
    ·rw[if_neg (by simpa using h1)];exact⟨rfl,by simp[h1]⟩
   rintro⟨z,⟨⟩⟩ h7 ⟨rfl,hz⟩
   simp only at hz
   subst hz
   refine V3 (fun z h'=>∃out',out'.length≤out.length+1∧(if z.2.1=true then out'++e::L.drop (i+1)=A2o ltK b8 (id,f,q) L else out'++e::A2o ltK b8 (id,f,q) (L.drop (i+1))=A2o ltK b8 (id,f,q) L)∧
    sat h' (U4 Z9 3 z.1 out'::cells r #[.slice s.a s.len s.cap]::U4 Z9 3 s L::cells x1 #[.int .i64 id,.string f,.int .i64 q]::R)) ?_ ?_
   ·(try dsimp only);rw[U6]
    rw[gx] at hJ
    by_cases hc:(decide (ltK (id,f) (b8 e))&& !put)=true
    ·rw[if_pos hc]
     rw[E8,decide_eq_true_eq,O0] at hc
     obtain⟨bf,rfl⟩:=hc
     refine Y4 (ts:=[.int .i64,.str,.int .i64]) (id,f,q,()) ay.p3 rfl ?_
     refine V4 ay fun y h8 bu=>?_
     (try dsimp only);rw[U0]
     refine z8 (enc:=Z9) (ys:=[(id,f,q)]) A0J A3S rfl bu.p1 rfl ?_ (by decide) (by decide) (by omega) fun s' h9 ff=>?_
     ·simp only[V6,M9,D5,H8,C1]
      exact bu.reads rfl
     refine⟨out++[(id,f,q)],by simp,?_,(ff.re [1,0,2,3,4]).drop⟩
     rw[if_neg (by simp)] at hJ
     rw[if_pos rfl,←hJ,A2o,if_pos bf,D4]
     rfl
    ·rw[if_neg hc]
     refine⟨out,by omega,?_,ay⟩
     (try dsimp only)
     cases put with
     |true=>exact hJ
     |false=>
      rw[if_neg (by simp)] at hJ⊢
      rw[A2o,if_neg (by simpa using hc)] at hJ
      exact hJ
   rintro⟨o',put',⟨⟩⟩ h8 ⟨out',wT,oU,bu⟩
   simp only at oU bu
   refine⟨_,rfl,s,by rw[U2];exact cr bu.p1,?_⟩
   (try dsimp only);rw[U0]
   refine X6 (bu.p2.aO A0J) hx fun a ha=>?_
   refine A0j (ts:=[.int .i64,.str,.int .i64]) (e.1,e.2.1,e.2.2,()) (fun j v hv=>ha j v hv) ?_
   refine V4 bu fun y h9 ff=>?_
   (try dsimp only);rw[U0]
   refine z8 (enc:=Z9) (ys:=[e]) A0J A3S rfl ff.p1 rfl ?_ (by decide) (by decide) (by omega) fun s' fX gh=>?_
   ·simp only[V6,M9,D5,H8,C1]
    exact ff.reads rfl
   simp only[D3,E6,V0]
   refine .mk (i+1,out'++[e]) (by simp only[];omega) ⟨by simp only[];omega,next,by simp only[B4,B7,G8];omega,?_,(gh.re [1,0,2,3,4]).drop⟩
   simp only[D4,List.singleton_append]
   exact oU
  ·rw[if_neg (by simp only[decide_eq_true_eq];omega)]
   have:i=L.length:=by omega
   subst this
   rw[J7] at hJ
   simp only[D3,E6,V0]
   cases put with
   |true=>
    rw[if_pos rfl] at hJ⊢
    rw[C1] at hJ
    exact⟨out,hJ,ai⟩
   |false=>
    rw[if_neg (by simp)] at hJ⊢
    exact⟨out,hJ,ai⟩
 clear ak
 rintro⟨put,o,ci,⟨⟩⟩ h5 ai
 simp only at ai
 have ck:(A2o ltK b8 (id,f,q) L).length=L.length+1:=(A1J ltK b8 _ L).length_eq
 refine V3 (fun z h'=>sat h' (U4 Z9 3 z.1 (A2o ltK b8 (id,f,q) L)::cells r #[.slice s.a s.len s.cap]::U4 Z9 3 s L::R)) ?_ ?_
 ·(try dsimp only);rw[U6]
  cases put with
  |true=>
   rw[if_neg (by simp)]
   rw[if_pos rfl] at ai
   obtain⟨out,rfl,ay⟩:=ai
   exact(ay.re [3,0,1,2]).drop
  |false=>
   rw[if_pos (by simp)]
   rw[if_neg (by simp)] at ai
   obtain⟨out,ho,ay⟩:=ai
   have fN:out.length≤20000:=by
    have:=congrArg List.length ho
    rw[B4,ck] at this
    simp at this
    omega
   refine Y4 (ts:=[.int .i64,.str,.int .i64]) (id,f,q,()) ay.p3 rfl ?_
   refine V4 ay fun y h8 bu=>?_
   (try dsimp only);rw[U0]
   refine z8 (enc:=Z9) (ys:=[(id,f,q)]) A0J A3S rfl bu.p1 rfl ?_ (by decide) (by decide) (by omega) fun s' h9 ff=>?_
   ·simp only[V6,M9,D5,H8,C1]
    exact bu.reads rfl
   rw[ho] at ff
   exact(ff.re [1,4,0,2,3]).drop.drop
 rintro⟨o',⟨⟩⟩ h6 ay
 simp only at ay
 refine⟨_,rfl,?_⟩
 (try dsimp only);rw[U0,U2]
 refine W5 ay.p1 (by simp) rfl fun h7 aL=>?_
 exact iT hf iJ fa ax (by omega) h7 (A1o.2 ⟨o',(aL.re [2,0,1]).drop⟩)
end
section
open Go.H Go.Proofs
structure Y3 where
 c:Int
 aD:Int
 bE:Bool
 aX:MsT
structure Z2 where
 last:Int
 aD:List V7
 aH:List Ent
 kept:List j6
 aB:List Y3
structure j5 where
 conn:Int
 pk:PkO
 close:Bool
structure U7 where
 b:Z2
 outs:List j5
 aT:List MsT
structure PkI where
 kind:Int
 dG:Bool
 eP:Int
 id:Int
 cC:B3O
 cQ:B3O
 code:Int
 props:List o8
 aC:B3O
 clean:Bool
 bE:Bool
 aX:MsT
 aH:List (B3O×Int×Bool×Bool×Int)
 bK:List B3O
abbrev A0O(k id:Int)(cs:List Int):PkO:=⟨k,false,false,0,id,e0S,e0S,0,[],cs,false⟩
abbrev A1y(s:Bool):PkO:=⟨2,false,false,0,0,e0S,e0S,0,[],[],s⟩
abbrev B3Z(E:List Ent)(B:Z2):Z2:=⟨B.last,B.aD,E,B.kept,B.aB⟩
abbrev B0F(C:List Y3)(B:Z2):Z2:=⟨B.last,B.aD,B.aH,B.kept,C⟩
abbrev tB(B:Z2)(T:U7):U7:=⟨B,T.outs,T.aT⟩
abbrev A0C(A:List V7)(T:U7):U7:=⟨⟨T.b.last,A,T.b.aH,T.b.kept,T.b.aB⟩,T.outs,T.aT⟩
abbrev B9u(K:List j6)(T:U7):U7:=⟨⟨T.b.last,T.b.aD,T.b.aH,K,T.b.aB⟩,T.outs,T.aT⟩
abbrev A1j(E:List Ent)(T:U7):U7:=⟨⟨T.b.last,T.b.aD,E,T.b.kept,T.b.aB⟩,T.outs,T.aT⟩
def X8(k:Int)(f:V7→V7)(A:List V7):List V7:=A.map fun s=>if s.id=k then f s else s
def A4E(k:Int)(A:List V7):Option V7:=A.find? fun s=>decide (s.id=k)
def ofS(c:B3O)(A:List V7):Option V7:=A.find? fun s=>decide (s.aC=c)
def A04(c:Int)(l:List Y3):Option Y3:=l.find? fun x=>decide (x.c=c)
abbrev A0t(o:j5)(t:U7):U7:={t with outs:=t.outs++[o]}
def A1w(l:List Y3)(id:Int)(ps:List PkO):List j5:=(l.filter fun x=>decide (x.aD=id)).flatMap fun x=>ps.map fun p=>⟨x.c,p,false⟩
abbrev q7(id:Int)(ps:List PkO)(t:U7):U7:={t with outs:=t.outs++A1w t.b.aB id ps}
abbrev Y6(o:Z8)(s:V7):V7:={s with out:=o}
abbrev j3(p:r8)(s:V7):V7:={s with aZ:=p}
def A0M(id:Int)(f:Z8→Z8×List PkO)(t:U7):U7:=match A4E id t.b.aD with
 |none=>t
 |some s=>q7 id (f s.out).2 (A0C (X8 id (Y6 (f s.out).1) t.b.aD) t)
def A46:Option Int→List Ent→List Int
 |_,[]=>[]
 |p,e::l=>if p=some e.1 then A46 p l else e.1::A46 (some e.1) l
def A2A(l:List Ent)(id:Int):Int:=(l.filter fun e=>decide (e.1=id)).foldl (fun q e=>max q e.2.2) 0
noncomputable def A1a(m:MsT)(l:List Ent)(t:U7)(id:Int):U7:=A0M id (fun o=>(Y1 o (m.1,m.2.1,min m.2.2.1 (A2A l id),false,e0S)).1) t
def A1X(m:MsT)(t:U7):U7:=if m.2.2.2.1=true then B9u (B0a 64 t.b.kept (m.1,m.2.1,m.2.2.1,())).2 t else t
noncomputable def A0A(m:MsT)(t:U7):U7:=
 (A46 none (t.b.aH.filter fun x=>Y9 x.2.1 m.1)).foldl (A1a m (t.b.aH.filter fun x=>Y9 x.2.1 m.1)) (A1X m t)
noncomputable def A3Z(m:MsT)(t:U7):U7:={A0A m t with aT:=(A0A m t).aT++[m]}
def A8c(s:V7):V7:={s with on:=false,out:={s.out with on:=false}}
def A8L(k:Int)(b:Z2):Z2:=match A4E k b.aD with
 |none=>b
 |some s=>if s.on=false then b
  else if s.aN=true then{b with aD:=X8 k A8c b.aD}
  else{b with aD:=b.aD.filter (fun x=>decide (x.id≠k)),aH:=A1b k b.aH}
noncomputable def A4n(full:Bool)(c:Int)(aX:Bool)(t:U7):U7:=match A04 c t.b.aB with
 |none=>t
 |some x=>
  let t1:U7:=tB (A8L x.aD (B0F (t.b.aB.filter fun y=>decide (y.c≠c)) t.b)) t
  if aX=true∧x.bE=true∧full=false then A3Z x.aX t1 else t1
noncomputable def A0q(full:Bool)(c code:Int)(t:U7):U7:=A4n full c true (A0t ⟨c,Z7 14 0 code,true⟩ t)
instance(c:B3O):Decidable (Z6 c):=by unfold Z6;infer_instance
def A59(p:PkI)(b:Z2):Int:=
 if p.bE=true∧Y8 p.aX.1=false then 144
 else if 64≤b.aB.length then 151
 else if ¬Z6 p.aC then 133
 else if ofS p.aC b.aD=none∧32≤b.aD.length then 151
 else 0
def A0N(id:Int)(l:List o8):Option o8:=l.find? fun p=>decide (p.1=id)
noncomputable def A3e(full:Bool)(s:V7)(t:U7):U7:=match t.b.aB.find? fun x=>decide (x.aD=s.id) with
 |none=>t
 |some x=>A0q full x.c 142 t
def j1(aC:B3O)(clean aN:Bool)(b:Z2):(Int×Bool)×Z2:=match ofS aC b.aD with
 |some s=>if clean=false then((s.id,true),{b with aD:=X8 s.id (fun s=>{s with on:=true,aN:=aN}) b.aD})
  else((b.last+1,false),{b with last:=b.last+1,aD:=b.aD.filter (fun x=>decide (x.id≠s.id))++[A2s (b.last+1) aC aN]})
 |none=>((b.last+1,false),{b with last:=b.last+1,aD:=b.aD++[A2s (b.last+1) aC aN]})
def A1N(l:List o8):Int:=match A0N 33 l with
 |some p=>p.2.1
 |none=>64
def y8(l:List o8):Bool:=match A0N 17 l with
 |some p=>decide (0<p.2.1)
 |none=>false
noncomputable def C1I(full:Bool)(c:Int)(p:PkI)(t:U7):U7:=
 let old:=ofS p.aC t.b.aD
 let t1:=match old with|some s=>A3e full s t|none=>t
 let r:=j1 p.aC p.clean (y8 p.props) t1.b
 let b2:=match old with|some s=>if s.id≠r.1.1 then B3Z (A1b s.id r.2.aH) r.2 else r.2|none=>r.2
 let b3:=B0F (b2.aB++[⟨c,r.1.1,p.bE,(p.aX.1,p.aX.2.1,p.aX.2.2.1,p.aX.2.2.2.1,e0S)⟩]) b2
 A0M r.1.1 (fun o=>A0g o (A1N p.props)) (A0t ⟨c,A1y r.1.2,false⟩ (tB b3 t1))
noncomputable def A1I(full:Bool)(c:Int)(p:PkI)(t:U7):U7:=
 if A59 p t.b≠0 then A0t ⟨c,Z7 2 0 (A59 p t.b),true⟩ t else C1I full c p t
def A3P(a:Option (Int×Int))(id:Int):List PkO:=match a with
 |some (k,c)=>[Z7 k id c]
 |none=>[]
noncomputable def A6h(full:Bool)(x:Y3)(p:PkI)(t:U7):U7:=
 if p.kind=3∧Y8 p.cC=false then A0q full x.c 144 t
 else match A4E x.aD t.b.aD with
  |none=>t
  |some s=>
   let r:=k9 s.aZ p.kind p.eP p.id (if full=true then 151 else 0)
   let t1:U7:=A0C (X8 x.aD (j3 ⟨s.aZ.most,s.aZ.taken,r.2.2.2⟩) t.b.aD) t
   if r.2.2.1≠0 then A0q full x.c r.2.2.1 t1
   else
    let t2:=q7 x.aD (A3P r.2.1 p.id) t1
    if r.1=true∧full=false then A3Z (p.cC,p.cQ,p.eP,p.dG,e0S) t2 else t2
noncomputable def A3V(full:Bool)(x:Y3)(p:PkI)(t:U7):U7:=match A4E x.aD t.b.aD with
 |none=>t
 |some s=>if(A0S s.out p.kind p.id p.code).2≠0 then A0q full x.c (A0S s.out p.kind p.id p.code).2 t
  else A0M x.aD (fun o=>(A0S o p.kind p.id p.code).1) t
def A2G(L:List Ent)(id:Int)(f:B3O)(q:Int):Int×List Ent:=
 if X4 f=false then(143,L)
 else if q<0∨2<q then(155,L)
 else match L.findIdx? (fun x=>decide (b8 x=(id,f))) with
  |some i=>(0,L.set i (id,f,q))
  |none=>if 64≤A02 L id then(151,L) else(0,A2o ltK b8 (id,f,q) L)
abbrev A0w:=B3O×Int×Bool×Bool×Int
def j8(id:Int):List A0w→List Ent→List Ent×List Int
 |[],L=>(L,[])
 |s::l,L=>
  let r:=A2G L id s.1 s.2.1
  let z:=j8 id l r.2
  (z.1,(if r.1=0 then s.2.1 else r.1)::z.2)
def added(id:Int):List A0w→List Ent→List A0w
 |[],_=>[]
 |s::l,L=>(if(A2G L id s.1 s.2.1).1=0 then[s] else[])++added id l (A2G L id s.1 s.2.1).2
noncomputable def A0H(id:Int)(s:A0w)(t:U7)(m:j6):U7:=A0M id (fun o=>(Y1 o (m.1,m.2.1,min m.2.2.1 s.2.1,true,e0S)).1) t
noncomputable def j4(id:Int)(t:U7)(s:A0w):U7:=if s.2.2.2.2=2 then t else(A51 t.b.kept s.1).foldl (A0H id s) t
noncomputable def A1f(x:Y3)(p:PkI)(t:U7):U7:=
 (added x.aD p.aH t.b.aH).foldl (j4 x.aD)
  (A0t ⟨x.c,A0O 9 p.id (j8 x.aD p.aH t.b.aH).2,false⟩ (A1j (j8 x.aD p.aH t.b.aH).1 t))
def A0K(id:Int):List B3O→List Ent→List Ent×List Int
 |[],L=>(L,[])
 |f::l,L=>
  let z:=A0K id l (A1H L id f)
  (z.1,(if(A1H L id f).length<L.length then 0 else 17)::z.2)
def A1z(x:Y3)(p:PkI)(t:U7):U7:=
 A0t ⟨x.c,A0O 11 p.id (A0K x.aD p.bK t.b.aH).2,false⟩ (A1j (A0K x.aD p.bK t.b.aH).1 t)
noncomputable def A9t(full:Bool)(x:Y3)(p:PkI)(t:U7):U7:=
 if p.kind=3∨p.kind=6 then A6h full x p t
 else if p.kind=4∨p.kind=5∨p.kind=7 then A3V full x p t
 else if p.kind=8∧1≤p.id∧p.id≤65535∧p.aH≠[] then A1f x p t
 else if p.kind=10∧1≤p.id∧p.id≤65535∧p.bK≠[] then A1z x p t
 else if p.kind=12 then A0t ⟨x.c,Z7 13 0 0,false⟩ t
 else if p.kind=14 then A4n full x.c (decide (p.code=4)) t
 else A0q full x.c 130 t
noncomputable def b9(full:Bool)(c:Int)(p:PkI)(b:Z2):U7:=match A04 c b.aB with
 |some x=>A9t full x p ⟨b,[],[]⟩
 |none=>if p.kind=1 then A1I full c p ⟨b,[],[]⟩ else⟨b,[⟨c,Z7 14 0 130,true⟩],[]⟩
noncomputable def A7X(full:Bool)(c:Int)(b:Z2):U7:=A4n full c true ⟨b,[],[]⟩
noncomputable def A1c(m:MsT)(b:Z2):U7:=A0A m ⟨b,[],[]⟩
def A1R(b:Z2):Z2:=(b.aB.map (·.c)).foldl (fun b c=>match A04 c b.aB with
 |none=>b
 |some x=>A8L x.aD (B0F (b.aB.filter fun y=>decide (y.c≠c)) b)) b
variable {h h0:Heap} {L L' L1 L2 R:List Asn} {Q:Value→Heap→Prop}
abbrev OuT:=Int×Pk×Bool
abbrev A0o(k:IntKind)(x:OuT):C9w:=.int .i64 x.1::(W7 k x.2.1++[.bool x.2.2])
instance(k:IntKind):Enc (A0o k) 28:=⟨fun _=>rfl,fun x v hv=>by
 have:(A0o k x).all (fun v=>v.oneCell')=true:=rfl
 exact I8.1 this v hv,by decide⟩
abbrev ouF(t:Slc×Slc×j5):OuT:=(t.2.2.conn,pkT t.2.2.pk t.1 t.2.1,t.2.2.close)
def ouB(k:IntKind)(t:Slc×Slc×j5):Asn:=pkB k (t.1,t.2.1,t.2.2.pk)
def V8(k:IntKind)(s:Slc)(os:List j5):Asn:=exA fun T:List (Slc×Slc×j5)=>star (pr (T.map (·.2.2)=os)) (star (U4 (A0o k) 28 s (T.map ouF)) (a7 (ouB k) T))
theorem A1S{k:IntKind}{s:Slc}{os:List j5}:sat h (V8 k s os::R)↔∃T:List (Slc×Slc×j5),T.map (·.2.2)=os∧sat h (U4 (A0o k) 28 s (T.map ouF)::a7 (ouB k) T::R):=by
 unfold V8
 rw[sat.bA]
 simp only[sat.aI,sat.bC]
theorem B1q{k:IntKind}(hs:sat h R):sat h (V8 k ⟨none,0,0⟩ []::R):=A1S.2 ⟨[],rfl,Z3 (A2u.2 hs)⟩
theorem C8e{β:Type}{k:IntKind}{s:Slc}{os:List j5}{o:j5}{c p:Slc}{elem:TypeId}{bytes b:Nat}{cs:C9v}{zero:C9v}{f:Slc→HM β}{Q':β→Heap→Prop}{L3:List Asn}
  (hw:∀s',W (V8 k s' (os++[o])::L3) (f s') Q')(hb:(os.length+1)*bytes≤140737488355328)(hx:Has L (V8 k s os) L1:=by repeat first|with_reducible exact U9|apply V1)(hy:Has L1 (pkB k (c,p,o.pk)) L2:=by repeat first|with_reducible exact U9|apply V1)(hc:Has L2 (cells b cs) L3:=by repeat first|with_reducible exact U9|apply V1)
  (he:cs=(A0o k (o.conn,pkT o.pk c p,o.close)).toArray:=by rfl)(hz:zero.size=28:=by rfl)(gM:0<bytes:=by decide):
  W L (HM.bind (HM.append elem 28 bytes zero s 1 (V6 28 ⟨some ⟨b,0,none⟩,1,1⟩)) f) Q':=fun h hs=>by
 obtain⟨X,rfl,h1⟩:=A1S.1 ((hx.cV hy hc).s hs)
 have hlen:(X.map ouF).length=(X.map (·.2.2)).length:=by simp
 refine A9E (L:=U4 (A0o k) 28 s (X.map ouF)::cells b cs::a7 (ouB k) X::pkB k (c,p,o.pk)::L3) (xs:=X.map ouF) (enc:=A0o k) ((o.conn,pkT o.pk c p,o.close):OuT) (fun s'=>?_) (by rw[hlen];exact hb) U9 U9 he hz gM h (h1.re [0,3,1,2])
 intro h' af
 refine hw s' h' (A1S.2 ⟨X++[(c,p,o)],by simp,?_⟩)
 rw[B8]
 exact(A5e.2 (((A3O (f:=ouB k) (x:=(c,p,o))).2 (af.re [2,0,1])).re [2,0,1])).p1
abbrev tC:List Tag:=[.int .i64,.bool,.str,.str,.int .i64,.bool,.str]
abbrev B71(x:Y3):Tup tC:=(x.aD,x.bE,x.aX.1,x.aX.2.1,x.aX.2.2.1,x.aX.2.2.2.1,x.aX.2.2.2.2,())
abbrev z7(x:Y3):Int×Tup tC:=(x.c,B71 x)
abbrev eVC:Tup tC→Value:=Kind.val (.agg tC)
def A1l(b:Nat)(K:List j6):Asn:=exA fun l:List (B3O×j6)=>star (pr (Sto 64 l K)) (B6R b 64 l)
def A1e(b:Nat)(last:Int)(A:List V7):Asn:=exA fun L:List (Nat×V7)=>star (pr (L.map (·.2)=A)) (A1E b last L)
theorem y5{b:Nat}{last:Int}{A:List V7}:sat h (A1e b last A::R)↔∃L:List (Nat×V7),L.map (·.2)=A∧sat h (A1E b last L::R):=by
 unfold A1e
 rw[sat.bA]
 simp only[sat.aI,sat.bC]
theorem A3J{b:Nat}{K:List j6}:sat h (A1l b K::R)↔∃l:List (B3O×j6),Sto 64 l K∧sat h (B6R b 64 l::R):=by
 unfold A1l
 rw[sat.bA]
 simp only[sat.aI,sat.bC]
structure C2t where
 tb:Nat
 sb:Nat
 kb:Nat
 cm:Nat
abbrev A7K(p:C2t):C9v:=#[at0 p.tb,at9 p.sb,B1m p.kb,.map (some p.cm)]
def A0F(b:Nat)(B:Z2):Asn:=exA fun p:C2t=>A0L [cells b (A7K p),A1e p.tb B.last B.aD,l4 p.sb B.aH,A1l p.kb B.kept,mapA eKI eVC p.cm (B.aB.map z7)]
theorem A1q{b:Nat}{B:Z2}:sat h (A0F b B::R)↔∃p:C2t,sat h (cells b (A7K p)::A1e p.tb B.last B.aD::l4 p.sb B.aH::A1l p.kb B.kept::mapA eKI eVC p.cm (B.aB.map z7)::R):=by
 unfold A0F
 rw[sat.bA]
 simp only[sat.bV]
 rfl
def thA(t b:Nat)(full:Bool)(os:List j5)(ps:List MsT):Asn:=exA fun x:Slc×Slc=>A0L [cells t #[at0 b,.bool full,.slice x.1.a x.1.len x.1.cap,.slice x.2.a x.2.len x.2.cap],V8 .u8 x.1 os,U4 Z4 5 x.2 ps]
theorem A2x{t b:Nat}{full:Bool}{os:List j5}{ps:List MsT}:sat h (thA t b full os ps::R)↔∃(so sp:Slc),sat h (cells t #[at0 b,.bool full,.slice so.a so.len so.cap,.slice sp.a sp.len sp.cap]::V8 .u8 so os::U4 Z4 5 sp ps::R):=by
 unfold thA
 rw[sat.bA]
 simp only[sat.bV]
 exact⟨fun⟨x,hh⟩=>⟨x.1,x.2,hh⟩,fun⟨a,b,hh⟩=>⟨(a,b),hh⟩⟩
def X5(t b:Nat)(full:Bool)(T:U7):Asn:=star (thA t b full T.outs T.aT) (A0F b T.b)
theorem A0P{t b:Nat}{full:Bool}{T:U7}:sat h (X5 t b full T::R)↔sat h (thA t b full T.outs T.aT::A0F b T.b::R):=sat.aI
theorem l9{t b:Nat}{full:Bool}{T:U7}(hs:sat h (X5 t b full T::R)):∃(so sp:Slc) (p:C2t),sat h (cells t #[at0 b,.bool full,.slice so.a so.len so.cap,.slice sp.a sp.len sp.cap]::V8 .u8 so T.outs::U4 Z4 5 sp T.aT::
   cells b (A7K p)::A1e p.tb T.b.last T.b.aD::l4 p.sb T.b.aH::A1l p.kb T.b.kept::mapA eKI eVC p.cm (T.b.aB.map z7)::R):=by
 obtain⟨so,sp,h1⟩:=A2x.1 (A0P.1 hs)
 obtain⟨p,h2⟩:=A1q.1 (h1.re [3,0,1,2])
 exact⟨so,sp,p,h2.re [5,6,7,0,1,2,3,4]⟩
theorem B4H{t b:Nat}{full:Bool}{T:U7}{so sp:Slc}{p:C2t}(hs:sat h (cells t #[at0 b,.bool full,.slice so.a so.len so.cap,.slice sp.a sp.len sp.cap]::V8 .u8 so T.outs::U4 Z4 5 sp T.aT::
   cells b (A7K p)::A1e p.tb T.b.last T.b.aD::l4 p.sb T.b.aH::A1l p.kb T.b.kept::mapA eKI eVC p.cm (T.b.aB.map z7)::R)):sat h (X5 t b full T::R):=by
 have h1:=A1q.2 ⟨p,hs.re [3,4,5,6,7,0,1,2]⟩
 exact A0P.2 (A2x.2 ⟨so,sp,h1.re [1,2,3,0]⟩)
theorem W.bG{α:Type}{m:HM α}{Q':α→Heap→Prop}{t b:Nat}{full:Bool}{M1 M2 M3 M4 M5 M6 M7 M8:List Asn}(T:U7)(so sp:Slc)(p:C2t)(hw:W (X5 t b full T::M8) m Q')
  (h1:Has L (cells t #[at0 b,.bool full,.slice so.a so.len so.cap,.slice sp.a sp.len sp.cap]) M1:=by repeat first|with_reducible exact U9|apply V1)(h2:Has M1 (V8 .u8 so T.outs) M2:=by repeat first|with_reducible exact U9|apply V1)(h3:Has M2 (U4 Z4 5 sp T.aT) M3:=by repeat first|with_reducible exact U9|apply V1)(h4:Has M3 (cells b (A7K p)) M4:=by repeat first|with_reducible exact U9|apply V1)(h5:Has M4 (A1e p.tb T.b.last T.b.aD) M5:=by repeat first|with_reducible exact U9|apply V1)(h6:Has M5 (l4 p.sb T.b.aH) M6:=by repeat first|with_reducible exact U9|apply V1)(h7:Has M6 (A1l p.kb T.b.kept) M7:=by repeat first|with_reducible exact U9|apply V1)(h8:Has M7 (mapA eKI eVC p.cm (T.b.aB.map z7)) M8:=by repeat first|with_reducible exact U9|apply V1):W L m Q':=fun h hs=>hw h (B4H ((Sub.cons h1 (Sub.cons h2 (Sub.cons h3 (Sub.cons h4 (Sub.cons h5 (Sub.cons h6 (Sub.cons h7 (Sub.cons h8 Sub.rfl)))))))).s hs))
theorem At.bG{q:Heap→Prop}{t b:Nat}{full:Bool}{M1 M2 M3 M4 M5 M6 M7 M8:List Asn}(T:U7)(so sp:Slc)(p:C2t)(hw:At (X5 t b full T::M8) q)
  (h1:Has L (cells t #[at0 b,.bool full,.slice so.a so.len so.cap,.slice sp.a sp.len sp.cap]) M1:=by repeat first|with_reducible exact U9|apply V1)(h2:Has M1 (V8 .u8 so T.outs) M2:=by repeat first|with_reducible exact U9|apply V1)(h3:Has M2 (U4 Z4 5 sp T.aT) M3:=by repeat first|with_reducible exact U9|apply V1)(h4:Has M3 (cells b (A7K p)) M4:=by repeat first|with_reducible exact U9|apply V1)(h5:Has M4 (A1e p.tb T.b.last T.b.aD) M5:=by repeat first|with_reducible exact U9|apply V1)(h6:Has M5 (l4 p.sb T.b.aH) M6:=by repeat first|with_reducible exact U9|apply V1)(h7:Has M6 (A1l p.kb T.b.kept) M7:=by repeat first|with_reducible exact U9|apply V1)(h8:Has M7 (mapA eKI eVC p.cm (T.b.aB.map z7)) M8:=by repeat first|with_reducible exact U9|apply V1):At L q:=fun h hs=>hw h (B4H ((Sub.cons h1 (Sub.cons h2 (Sub.cons h3 (Sub.cons h4 (Sub.cons h5 (Sub.cons h6 (Sub.cons h7 (Sub.cons h8 Sub.rfl)))))))).s hs))
theorem C2y{t b:Nat}{full:Bool}{os:List j5}{ps:List MsT}{c:Int}{o:PkO}{ci pi:Slc}(hb:os.length≤100000000)(hq:At (thA t b full (os++[⟨c,o,false⟩]) ps::L2) (Q (.tuple #[])))
  (hx:Has L (thA t b full os ps) L1:=by repeat first|with_reducible exact U9|apply V1)(hy:Has L1 (pkB .u8 (ci,pi,o)) L2:=by repeat first|with_reducible exact U9|apply V1):FW prog 67 #[at0 t,.int .i64 c,A2p .u8 (pkT o ci pi)] L Q:=by
 refine fun h hs=>A7I (some ⟨t,0,none⟩) c (pkT o ci pi) h Q ((?_:W (thA t b full os ps::pkB .u8 (ci,pi,o)::L2) _ _) h ((hx.then hy).s hs))
 clear hs h hx hy
 have dw:(os.length+1)*344≤140737488355328:=by omega
 delta A6Q az bn A0R kc nn nw pu rq sx vi vs w10 w11 w12 w13 w14 w15 w16 w17 w18 w19 w20 w21 w22 w23 w24 w25 w5 w6 w7 w8 w9
 refine Y0 fun x1=>?_
 refine W3 ?_
 refine A8U (fun h R=>A2x.1) fun so sp=>?_
 refine i7 (v:=so) ?_
 refine q8 (v:=pkT o ci pi) ?_
 refine Y0 fun x5=>?_
 refine i7 (v:=so) ?_
 refine A06 ?_ rfl
 refine C8e (k:=.u8) (s:=so) (os:=os) (o:=⟨c,o,false⟩) (c:=ci) (p:=pi) (fun s'=>?_) dw
 refine W3 ?_
 refine A4e (cs':=#[at0 b,.bool full,.slice s'.a s'.len s'.cap,.slice sp.a sp.len sp.cap]) ?_
 refine B2b (A:=thA t b full (os++[⟨c,o,false⟩]) ps) (fun h hs=>A2x.2 ⟨s',sp,hs⟩) ?_
 exact U1 hq.sub
theorem B8o{t b:Nat}{full:Bool}{T:U7}{c:Int}{o:PkO}{ci pi:Slc}(hb:T.outs.length≤100000000)(hq:At (X5 t b full (A0t ⟨c,o,false⟩ T)::L2) (Q (.tuple #[])))
  (hx:Has L (X5 t b full T) L1:=by repeat first|with_reducible exact U9|apply V1)(hy:Has L1 (pkB .u8 (ci,pi,o)) L2:=by repeat first|with_reducible exact U9|apply V1):FW prog 67 #[at0 t,.int .i64 c,A2p .u8 (pkT o ci pi)] L Q:=fun h hs=>by
 have h1:=(hx.then hy).s hs
 exact C2y (L:=thA t b full T.outs T.aT::A0F b T.b::pkB .u8 (ci,pi,o)::L2) hb (fun h' af=>hq h' (A0P.2 af)) U9 (V1 U9) h (A0P.1 h1)
theorem C5I{t b:Nat}{full:Bool}{os:List j5}{ps:List MsT}{c:Int}{o:PkO}{ci pi:Slc}(hb:os.length≤100000000)(hq:At (thA t b full (os++[⟨c,o,true⟩]) ps::L2) (Q (.tuple #[])))
  (hx:Has L (thA t b full os ps) L1:=by repeat first|with_reducible exact U9|apply V1)(hy:Has L1 (pkB .u8 (ci,pi,o)) L2:=by repeat first|with_reducible exact U9|apply V1):FW prog 34 #[at0 t,.int .i64 c,A2p .u8 (pkT o ci pi)] L Q:=by
 refine fun h hs=>A6S (some ⟨t,0,none⟩) c (pkT o ci pi) h Q ((?_:W (thA t b full os ps::pkB .u8 (ci,pi,o)::L2) _ _) h ((hx.then hy).s hs))
 clear hs h hx hy
 have dw:(os.length+1)*344≤140737488355328:=by omega
 delta A5P az bn A0R kc nn nw pu rq sx vi vs w10 w11 w12 w13 w14 w15 w16 w17 w18 w19 w20 w21 w22 w23 w24 w25 w5 w6 w7 w8 w9
 refine Y0 fun x1=>?_
 refine W3 ?_
 refine A8U (fun h R=>A2x.1) fun so sp=>?_
 refine i7 (v:=so) ?_
 refine q8 (v:=pkT o ci pi) ?_
 refine Y0 fun x5=>?_
 refine i7 (v:=so) ?_
 refine A06 ?_ rfl
 refine C8e (k:=.u8) (s:=so) (os:=os) (o:=⟨c,o,true⟩) (c:=ci) (p:=pi) (fun s'=>?_) dw
 refine W3 ?_
 refine A4e (cs':=#[at0 b,.bool full,.slice s'.a s'.len s'.cap,.slice sp.a sp.len sp.cap]) ?_
 refine B2b (A:=thA t b full (os++[⟨c,o,true⟩]) ps) (fun h hs=>A2x.2 ⟨s',sp,hs⟩) ?_
 exact U1 hq.sub
theorem B9g{t b:Nat}{full:Bool}{T:U7}{c:Int}{o:PkO}{ci pi:Slc}(hb:T.outs.length≤100000000)(hq:At (X5 t b full (A0t ⟨c,o,true⟩ T)::L2) (Q (.tuple #[])))
  (hx:Has L (X5 t b full T) L1:=by repeat first|with_reducible exact U9|apply V1)(hy:Has L1 (pkB .u8 (ci,pi,o)) L2:=by repeat first|with_reducible exact U9|apply V1):FW prog 34 #[at0 t,.int .i64 c,A2p .u8 (pkT o ci pi)] L Q:=fun h hs=>by
 have h1:=(hx.then hy).s hs
 exact C5I (L:=thA t b full T.outs T.aT::A0F b T.b::pkB .u8 (ci,pi,o)::L2) hb (fun h' af=>hq h' (A0P.2 af)) U9 (V1 U9) h (A0P.1 h1)
end
section
open Go.H Go.Proofs
structure j7(B:Z2):Prop where
 aH:B.aH.length≤10000
 bM:∀s∈B.aD,W9 s.out
 live:∀e∈B.aH,∃s∈B.aD,s.id=e.1
 one:∀id:Int,(B.aB.filter fun x=>decide (x.aD=id)).length≤1
 nd:(B.aD.map (·.id)).Nodup
 cl:∀x∈B.aB,∃s∈B.aD,s.id=x.aD
 dS:∀x∈B.aB,∀s∈B.aD,s.id=x.aD→s.on=true
 wl:∀x∈B.aB,x.aX.1.size≤9223372036854775807∧ -9223372036854775808≤x.c∧x.c≤9223372036854775807
theorem C0m{k:Int}{A:List V7}{s:V7}(h:A4E k A=some s):s∈A∧s.id=k:=⟨G9 h,by simpa using L9 h⟩
theorem A3i{k:Int}{A:List V7}{s:V7}(hn:(A.map (·.id)).Nodup)(hs:s∈A)(hk:s.id=k):A4E k A=some s:=by
 unfold A4E
 obtain⟨l1,l2,rfl⟩:=G7 hs
 rw[B8,B6,G0] at hn
 rw[N8,R3 (by simpa using hk),E3.2,Option.none_or]
 intro x hx
 have:=hn.2.2 _ (B3 (f:=(·.id)) hx) _ (B5 ..)
 rw[hk] at this
 simpa using this
theorem A6m{k:Int}{f:V7→V7}(hf:∀s,(f s).id=s.id)(A:List V7):(X8 k f A).map (·.id)=A.map (·.id):=by
 unfold X8
 rw[F0]
 refine H9 fun s _=>?_
 simp only[Function.comp]
 split
 ·exact hf s
 ·rfl
theorem A3X{k:Int}{f:V7→V7}{A:List V7}{x:V7}(h:x∈X8 k f A):x∈A∨∃s∈A,s.id=k∧x=f s:=by
 unfold X8 at h
 obtain⟨s,hs,rfl⟩:=E4.1 h
 split
 ·exact .inr ⟨s,hs,by assumption,rfl⟩
 ·exact .inl hs
theorem A2X{k:Int}{f:V7→V7}(hf:∀s,(f s).id=s.id){A:List V7}{i:Int}(h:∃s∈A,s.id=i):∃s∈X8 k f A,s.id=i:=by
 obtain⟨s,hs,rfl⟩:=h
 refine⟨if s.id=k then f s else s,B3 hs,?_⟩
 split
 ·exact hf s
 ·rfl
theorem A8X{l:List Y3}{id:Int}(ps:List PkO)(h:(l.filter fun x=>decide (x.aD=id)).length≤1):(A1w l id ps).length≤ps.length:=by
 unfold A1w
 generalize l.filter (fun x=>decide (x.aD=id))=k at h
 match k,h with
 |[],_=>simp
 |[x],_=>simp
theorem j7.set{B:Z2}(h:j7 B){k:Int}{o:Z8}(ho:W9 o):j7 {B with aD:=X8 k (Y6 o) B.aD} where
 aH:=h.aH
 bM:=fun s hs=>by
  rcases A3X hs with hs|⟨s',_,_,rfl⟩
  ·exact h.bM s hs
  ·exact ho
 live:=fun e he=>A2X (f:=Y6 o) (fun _=>rfl) (h.live e he)
 one:=h.one
 nd:=by
  show((X8 k (Y6 o) B.aD).map (·.id)).Nodup
  rw[A6m (f:=Y6 o) fun _=>rfl];exact h.nd
 cl:=fun x hx=>A2X (f:=Y6 o) (fun _=>rfl) (h.cl x hx)
 dS:=fun x hx s hs e=>by
  rcases A3X hs with hs|⟨s',af,_,rfl⟩
  ·exact h.dS x hx s hs e
  ·exact h.dS x hx s' af e
 wl:=h.wl
theorem j7.fE{B:Z2}(h:j7 B){k:Int}{i:r8}:j7 {B with aD:=X8 k (j3 i) B.aD} where
 aH:=h.aH
 bM:=fun s hs=>by
  rcases A3X hs with hs|⟨s',af,_,rfl⟩
  ·exact h.bM s hs
  ·exact h.bM s' af
 live:=fun e he=>A2X (f:=j3 i) (fun _=>rfl) (h.live e he)
 one:=h.one
 nd:=by
  show((X8 k (j3 i) B.aD).map (·.id)).Nodup
  rw[A6m (f:=j3 i) fun _=>rfl];exact h.nd
 cl:=fun x hx=>A2X (f:=j3 i) (fun _=>rfl) (h.cl x hx)
 dS:=fun x hx s hs e=>by
  rcases A3X hs with hs|⟨s',af,_,rfl⟩
  ·exact h.dS x hx s hs e
  ·exact h.dS x hx s' af e
 wl:=h.wl
theorem j7.aN{B:Z2}(h:j7 B)(K:List j6):j7 {B with kept:=K}:=⟨h.aH,h.bM,h.live,h.one,h.nd,h.cl,h.dS,h.wl⟩
structure A0v(T T':U7)(n:Nat):Prop where
 ok:j7 T'.b
 outs:T'.outs.length≤T.outs.length+n
 aT:T'.aT.length≤T.aT.length+n
 aH:T'.b.aH=T.b.aH
 aB:T'.b.aB=T.b.aB
 last:T'.b.last=T.b.last
theorem A0v.trans{T T' T'':U7}{n n':Nat}(h:A0v T T' n)(h':A0v T' T'' n'):A0v T T'' (n+n'):=⟨h'.ok,by have:=h.outs;have:=h'.outs;omega,by have:=h.aT;have:=h'.aT;omega,h'.aH.trans h.aH,h'.aB.trans h.aB,h'.last.trans h.last⟩
theorem A0v.mono{T T':U7}{n n':Nat}(h:A0v T T' n)(hn:n≤n'):A0v T T' n':=⟨h.ok,by have:=h.outs;omega,by have:=h.aT;omega,h.aH,h.aB,h.last⟩
theorem A0v.refl{T:U7}(h:j7 T.b):A0v T T 0:=⟨h,D6 _,D6 _,rfl,rfl,rfl⟩
theorem B5l{id:Int}{f:Z8→Z8×List PkO}{T:U7}(h:j7 T.b)(hf:∀o,W9 o→W9 (f o).1∧(f o).2.length≤320):A0v T (A0M id f T) 320:=by
 unfold A0M
 cases hg:A4E id T.b.aD with
 |none=>exact(A0v.refl h).mono (by decide)
 |some s=>
  have cX:=hf _ (h.bM s (C0m hg).1)
  refine⟨h.set cX.1,?_,J8 _ _,rfl,rfl,rfl⟩
  show(T.outs++A1w T.b.aB id (f s.out).2).length≤_
  rw[B4]
  have:=A8X (f s.out).2 (h.one id)
  omega
theorem B8V{α:Type}{g:U7→α→U7}{n:Nat}(hg:∀T x,j7 T.b→A0v T (g T x) n):∀(l:List α) {T:U7},j7 T.b→A0v T (l.foldl g T) (l.length*n)
 |[],T,h=>(A0v.refl h).mono (by simp)
 |x::l,T,h=>((hg T x h).trans (B8V hg l (hg T x h).ok)).mono (by rw[B7,J1];omega)
def B8J(l:List Ent):Int:=l.foldl (fun q e=>max q e.2.2) 0
theorem B5I:∀(p:Option Int) (l:List Ent),(A46 p l).length≤l.length
 |_,[]=>D6 _
 |p,e::l=>by
  unfold A46
  split
  ·exact Nat.le_succ_of_le (B5I p l)
  ·exact Nat.succ_le_succ (B5I _ l)
theorem B7N{i:Int}:∀{tk rs:List Ent},(∀y∈tk,y.1=i)→(∀y∈rs.head?,y.1≠i)→A46 (some i) (tk++rs)=A46 none rs
 |[],[],_,_=>rfl
 |[],y::rs,_,h=>by
  have:=h y (by simp)
  simp only[F2,A46,F3,reduceCtorEq,if_false]
  rw[if_neg (fun e=>this e.symm)]
 |y::tk,rs,h1,h2=>by
  have:=h1 y (B5 ..)
  rw[G4,A46,if_pos (by rw[this])]
  exact B7N (fun z hz=>h1 z (C2 _ hz)) h2
theorem C1M{i:Int}{e:Ent}{rest tk rs:List Ent}(he:e.1=i)(hz:tk++rs=e::rest)(h1:∀y∈tk,y.1=i)(h2:∀y∈rs.head?,y.1≠i):A46 none (e::rest)=i::A46 none rs:=by
 rw[A46,if_neg (by simp),he]
 congr 1
 cases tk with
 |nil=>
  rw[F2] at hz
  subst hz
  exact absurd he (h2 e (by simp))
 |cons y tk=>
  rw[G4] at hz
  cases hz
  exact B7N (fun z hz=>h1 z (C2 _ hz)) h2
theorem C3I{i:Int}{done tk rs:List Ent}(h0:∀y∈done,y.1≠i)(h1:∀y∈tk,y.1=i)(h2:∀y∈rs,y.1≠i):A2A (done++(tk++rs)) i=B8J tk:=by
 unfold A2A B8J
 rw[E9,E9,I6.2 (fun y hy=>by simpa using h0 y hy),H0.2 (fun y hy=>by simpa using h1 y hy),I6.2 (fun y hy=>by simpa using h2 y hy),C1,F2]
theorem C76{L:List Ent}(h:Asc L):L.Pairwise fun a b=>a.1≤b.1:=h.imp fun{a b} dp=>by
 rcases dp with h|⟨h,_⟩
 ·exact Int.le_of_lt h
 ·exact Int.le_of_eq h
theorem B5B{m:MsT}{T:U7}(h:j7 T.b):A0v T (A1X m T) 0:=by
 unfold A1X
 split
 ·exact⟨h.aN _,D6 _,D6 _,rfl,rfl,rfl⟩
 ·exact A0v.refl h
theorem B0v{m:MsT}{l:List Ent}(T:U7)(id:Int)(h:j7 T.b):A0v T (A1a m l T id) 320:=B5l h fun o ho=>⟨(A3Y ho _).1,by have:=(A3Y ho (m.1,m.2.1,min m.2.2.1 (A2A l id),false,e0S)).2;omega⟩
theorem B5J{m:MsT}{T:U7}(h:j7 T.b):A0v T (A0A m T) 3200000:=by
 have h1:=B5B (m:=m) h
 have h2:=B8V (B0v (m:=m) (l:=T.b.aH.filter fun x=>Y9 x.2.1 m.1)) (A46 none (T.b.aH.filter fun x=>Y9 x.2.1 m.1)) h1.ok
 refine(h1.trans h2).mono ?_
 have a:=B5I none (T.b.aH.filter fun x=>Y9 x.2.1 m.1)
 have b:=D1 (fun x=>Y9 x.2.1 m.1) T.b.aH
 have c:=h.aH
 omega
theorem C1t{id:Int}{f:Z8→Z8×List PkO}{T:U7}:(A0M id f T).aT=T.aT:=by
 unfold A0M;split<;>rfl
theorem B7R{α:Type}{g:U7→α→U7}(hg:∀T x,(g T x).aT=T.aT):∀(l:List α) {T:U7},(l.foldl g T).aT=T.aT
 |[],_=>rfl
 |x::l,T=>(B7R hg l).trans (hg T x)
theorem A7t{m:MsT}{T:U7}:(A0A m T).aT=T.aT:=by
 unfold A0A
 rw[B7R (g:=A1a m (T.b.aH.filter fun x=>Y9 x.2.1 m.1)) fun T x=>C1t]
 unfold A1X;split<;>rfl
theorem A8u{m:MsT}{T:U7}(h:j7 T.b):A0v T (A3Z m T) 3200000:=let r:=B5J (m:=m) h;⟨r.ok,r.outs,by
 show((A0A m T).aT++[m]).length≤_
 rw[B4,A7t];simp only[B7,G8];omega,r.aH,r.aB,r.last⟩
theorem A1K{c:Int}{l:List Y3}{x:Y3}(h:A04 c l=some x):x∈l∧x.c=c:=⟨G9 h,by simpa using L9 h⟩
def A4F(k:Int)(A:List V7):Bool×List V7:=match A4E k A with
 |none=>(false,A)
 |some s=>if s.on=false then(false,A) else if s.aN=true then(false,X8 k A8c A) else(true,A.filter fun x=>decide (x.id≠k))
theorem B4B{k:Int}{B:Z2}:A8L k B=⟨B.last,(A4F k B.aD).2,if(A4F k B.aD).1=true then A1b k B.aH else B.aH,B.kept,B.aB⟩:=by
 unfold A8L A4F
 cases A4E k B.aD with
 |none=>rfl
 |some s=>
  simp only
  by_cases h1:s.on=false
  ·simp[h1]
  ·by_cases h2:s.aN=true
   ·simp[h1,h2]
   ·simp[h1,h2]
theorem j7.conn{B:Z2}(h:j7 B)(p:Y3→Bool):j7 (B0F (B.aB.filter p) B) where
 aH:=h.aH
 bM:=h.bM
 live:=h.live
 one:=fun id=>by
  refine C4 ?_ (h.one id)
  exact(List.Sublist.filter _ I1).length_le
 nd:=h.nd
 cl:=fun x hx=>h.cl x (E7.1 hx).1
 dS:=fun x hx=>h.dS x (E7.1 hx).1
 wl:=fun x hx=>h.wl x (E7.1 hx).1
theorem j7.other{B:Z2}(h:j7 B){x y:Y3}(hx:x∈B.aB)(hy:y∈B.aB)(bz:y.c≠x.c):y.aD≠x.aD:=fun e=>by
 have h1:=h.one x.aD
 have m1:x∈B.aB.filter (fun z=>decide (z.aD=x.aD)):=E7.2 ⟨hx,by simp⟩
 have m2:y∈B.aB.filter (fun z=>decide (z.aD=x.aD)):=E7.2 ⟨hy,by simp[e]⟩
 generalize B.aB.filter (fun z=>decide (z.aD=x.aD))=k at h1 m1 m2
 match k,h1 with
 |[],_=>cases m1
 |[z],_=>
  rw[C0.1 m1,C0.1 m2] at bz
  exact bz rfl
theorem B82{k:Int}{B:Z2}(h:j7 B)(hc:∀y∈B.aB,y.aD≠k):j7 (A8L k B)∧(A8L k B).aB=B.aB∧(A8L k B).last=B.last∧(A8L k B).kept=B.kept:=by
 unfold A8L
 split
 ·exact⟨h,rfl,rfl,rfl⟩
 ·rename_i s hg
  split
  ·exact⟨h,rfl,rfl,rfl⟩
  ·split
   ·refine⟨⟨h.aH,fun x hx=>?_,fun e he=>A2X (f:=A8c) (fun _=>rfl) (h.live e he),h.one,?_,fun x hx=>A2X (f:=A8c) (fun _=>rfl) (h.cl x hx),fun x hx s hs e=>?_,h.wl⟩,rfl,rfl,rfl⟩
    ·rcases A3X hx with hx|⟨y,hy,_,rfl⟩
     ·exact h.bM x hx
     ·exact(h.bM y hy).off false
    ·show((X8 k A8c B.aD).map (·.id)).Nodup
     rw[A6m (f:=A8c) fun _=>rfl];exact h.nd
    ·rcases A3X hs with hs|⟨s',af,hk,rfl⟩
     ·exact h.dS x hx s hs e
     ·exact absurd (e.symm.trans hk) (hc x hx)
   ·refine⟨⟨C4 (D1 _ _) h.aH,fun x hx=>h.bM x (E7.1 hx).1,fun e he=>?_,h.one,?_,fun x hx=>?_,fun x hx s hs=>h.dS x hx s (E7.1 hs).1,h.wl⟩,rfl,rfl,rfl⟩
    ·obtain⟨da,cM⟩:=E7.1 he
     obtain⟨y,hy,pA⟩:=h.live e da
     refine⟨y,E7.2 ⟨hy,?_⟩,pA⟩
     rw[pA]
     simpa using cM
    ·exact h.nd.sublist (List.Sublist.map _ I1)
    ·obtain⟨y,hy,pA⟩:=h.cl x hx
     refine⟨y,E7.2 ⟨hy,?_⟩,pA⟩
     rw[pA]
     simpa using hc x hx
theorem j7.gone{B:Z2}(h:j7 B){c:Int}{x:Y3}(hg:A04 c B.aB=some x):∀y∈B.aB.filter (fun y=>decide (y.c≠c)),y.aD≠x.aD:=fun y hy=>by
 obtain⟨h1,h2⟩:=E7.1 hy
 obtain⟨h3,h4⟩:=A1K hg
 exact h.other h3 h1 (by rw[h4];simpa using h2)
theorem B84{full:Bool}{c:Int}{w:Bool}{T:U7}(h:j7 T.b):j7 (A4n full c w T).b∧(A4n full c w T).outs.length≤T.outs.length+3200000∧(A4n full c w T).aT.length≤T.aT.length+3200000∧(A4n full c w T).b.aB=T.b.aB.filter (fun y=>decide (y.c≠c))∧(A4n full c w T).b.last=T.b.last:=by
 unfold A4n
 cases hg:A04 c T.b.aB with
 |none=>
  have hf:T.b.aB.filter (fun y=>decide (y.c≠c))=T.b.aB:=H0.2 fun y hy=>by
   have:=E3.1 hg y hy
   simpa using this
  exact⟨h,J8 _ _,J8 _ _,hf.symm,rfl⟩
 |some x=>
  have h1:=B82 (k:=x.aD) (h.conn fun y=>decide (y.c≠c)) (h.gone hg)
  simp only
  split
  ·have h2:=A8u (m:=x.aX) (T:=tB (A8L x.aD (B0F (T.b.aB.filter fun y=>decide (y.c≠c)) T.b)) T) h1.1
   exact⟨h2.ok,h2.outs,h2.aT,h2.aB.trans h1.2.1,h2.last.trans h1.2.2.1⟩
  ·exact⟨h1.1,J8 _ _,J8 _ _,h1.2.1,h1.2.2.1⟩
theorem B0f{full:Bool}{c code:Int}{T:U7}(h:j7 T.b):j7 (A0q full c code T).b∧(A0q full c code T).outs.length≤T.outs.length+3200001∧(A0q full c code T).aT.length≤T.aT.length+3200001∧(A0q full c code T).b.aB=T.b.aB.filter (fun y=>decide (y.c≠c))∧(A0q full c code T).b.last=T.b.last:=by
 have h1:=B84 (full:=full) (c:=c) (w:=true) (T:=A0t ⟨c,Z7 14 0 code,true⟩ T) h
 refine⟨h1.1,?_,?_,h1.2.2.2.1,h1.2.2.2.2⟩
 ·refine C4 h1.2.1 ?_
  have e:(A0t ⟨c,Z7 14 0 code,true⟩ T).outs.length=T.outs.length+1:=by rw[B4];rfl
  omega
 ·have e:(A0t ⟨c,Z7 14 0 code,true⟩ T).aT.length=T.aT.length:=rfl
  have:=h1.2.2.1
  unfold A0q
  omega
open Go.H Go.Proofs Go.Shelf
def A86:Go.Shelf.Ren:=⟨fun n=>match n with|7=>78|10=>124|n=>n,fun n=>match n with|23=>170|26=>3|3=>198|28=>123|0=>0|27=>122|33=>196|4=>4|n=>n,fun n=>n⟩
theorem C64:SlLaysZI.n7 prog A86 where
 mixed:=by kernel_rfl
 f7:=⟨f78.name,by kernel_rfl,func78.trans (congrArg some (by kernel_rfl))⟩
 f10:=⟨f124.name,by kernel_rfl,func124.trans (congrArg some (by kernel_rfl))⟩
 t0:=underlying0
 a0:=isAgg0
 z0:=sizeOf0
 v0:=zeroValue0
 t4:=underlying4
 a4:=isAgg4
 z4:=sizeOf4
 v4:=zeroValue4
 t23:=underlying170
 a23:=isAgg170
 z23:=sizeOf170
 v23:=zeroValue170
 t26:=underlying3
 a26:=isAgg3
 z26:=sizeOf3
 v26:=zeroValue3
 t27:=underlying122
 a27:=isAgg122
 z27:=sizeOf122
 v27:=zeroValue122
 t28:=underlying123
 a28:=isAgg123
 z28:=sizeOf123
 v28:=zeroValue123
 t33:=underlying196
 a33:=isAgg196
 z33:=sizeOf196
 v33:=zeroValue196
abbrev InT:=Int×B3O×Bool×Bool
abbrev B4p(x:InT):C9w:=[.int .i64 x.1,.string x.2.1,.bool x.2.2.1,.bool x.2.2.2]
def u5(s:V7):InT:=(s.id,s.aC,s.aN,s.on)
theorem B1x{α β:Type}(f:α→β){l:List α}(hn:(l.map f).Nodup):l.Nodup:=
 List.Pairwise.of_map f (fun a b bz dp=>bz (congrArg f dp)) hn
def C83(xs ys:List InT):Prop:=∀x∈xs,x∈ys
theorem C5A(x:InT):(B4p x).length=4:=rfl
theorem C22(x:InT):∀v∈B4p x,v.oneCell'=true:=by
 intro v hv;simp at hv;rcases hv with rfl|rfl|rfl|rfl<;>rfl
theorem B8B{α β:Type}{f:α→β}{l1 l2:List α}(hm:(l1.map f).Perm (l2.map f))(hn:(l2.map f).Nodup)(hs:∀x∈l1,x∈l2):l1.Perm l2:=by
 have gT:(l1.map f).Nodup:=hm.nodup_iff.2 hn
 refine(List.perm_ext_iff_of_nodup (B1x f gT) (B1x f hn)).2 fun y=>⟨hs y,fun hy=>?_⟩
 obtain⟨x,hx,he⟩:=E4.1 (hm.mem_iff.2 (B3 hy))
 have lv:=hs x hx
 have:x=y:=by
  obtain⟨a,b,rfl⟩:=G7 hy
  rw[B8,B6,G0] at hn
  rcases C7.1 lv with h|h
  ·exact absurd he (hn.2.2 _ (B3 h) _ (B5 ..))
  ·rcases D7.1 h with h|h
   ·exact h
   ·have h3:=(F7.1 hn.2.1).1
    rw[←he] at h3
    exact absurd (B3 h) h3
 exact this▸hx
theorem C4q{h:Heap}{R:List Asn}{b:Nat}{last:Int}{L:List (Nat×V7)}(hs:sat h (A1E b last L::R))(fc:last<4611686018427387904)(hid:∀p∈L,0≤p.2.id∧p.2.id≤last)(hlen:L.length≤32){Q:Value→Heap→Prop}
  (hq:∀(sl:Slc) (xs:List InT) h',xs.map (·.1)=Z0 (L.map (·.2.id))→xs.Perm (L.map fun p=>u5 p.2)→sat h' (U4 B4p 4 sl xs::A1E b last L::R)→Q (.slice sl.a sl.len sl.cap) h'):
  V2 prog 42 #[at0 b] h Q:=by
 refine A5U _ h Q ?_
 obtain⟨m,hs⟩:=p9.1 hs
 have c1:V9 h ⟨b,1,none⟩=some (.map (some m)):=hs.cell 1
 have tA:(L.map (·.2.id)).Nodup:=by
  have:=hs.p1.bN
  rw[F0] at this
  exact this
 delta A4T az bn cc g9 ie ix km li nn nw pu vi wi
 simp[c1]
 refine B0r (ρk:=A86) C64 (some m) ?_
 simp only[C4x]
 have ae:=(hs.bJ (T:=A86.t 23) (cs:=#[.map (some m)]))
 refine A61 (ρk:=A86) (ρs:=A5s) (ρt:=A62) C64 B8j C09 rfl (enters_of func76 (by kernel_rfl) rfl) (enters_of func124 (by kernel_rfl) rfl) ae.p2
  (fun p hp=>?_) ?_ (ae.cell 0) fun sl h' aj=>?_
 ·obtain⟨q,ed,rfl⟩:=E4.1 hp
  have:=hid q ed
  simp[Lit.wf,IntKind.min,IntKind.max,IntKind.bits,IntKind.signed,o5]
  omega
 ·simp;omega
 ·have e0:(L.map o5).map (·.1)=L.map (·.2.id):=by rw[F0];rfl
  rw[e0] at aj
  simp only[C0Z]
  have ak:=(aj.re [2,0,1]).drop
  clear ae aj
  have ic:(Z0 (L.map (·.2.id))).length=L.length:=by simp[Z0,O7]
  have cG:=ak.aW
  rw[ic] at cG
  refine l6 (γ:=Nat×List InT) (hb:=fun s=>by
   repeat' with_reducible first
    |refine @A0n _ _ _ _ ?_ (fun _=>?_)
    |refine @A0V _ _ _ _ ?_ ?_
   all_goals infer_instance)
   (fun g c aR=>c.2.1=(g.1:Int)∧g.1≤L.length∧g.2.map (·.1)=(Z0 (L.map (·.2.id))).take g.1∧C83 g.2 (L.map fun p=>u5 p.2)∧
    sat aR (U4 B4p 4 c.1 g.2::U4 eI 1 sl (Z0 (L.map (·.2.id)))::mapA eKI eVP m (L.map o5)::cells b #[.int .i64 last,.map (some m)]::a7 (fun p=>A3z p.1 p.2) L::R))
   (fun g=>L.length-g.1) (0,[]) ⟨rfl,C9 _,rfl,fun x hx=>(by simp at hx),Z3 ak⟩ ?_
  rintro⟨i,xs⟩ ⟨out,c,⟨⟩⟩ h1 ⟨hc,hi,gv,lv,ai⟩
  simp only at hc hi gv lv ai
  subst hc
  have next:IntKind.wrap .i64 ((i:Int)+1)=((i+1:Nat):Int):=by rw[V5 (by omega) (by omega)];rfl
  simp
  by_cases ah:i<L.length
  ·rw[if_pos (by omega)]
   have bf:i<(Z0 (L.map (·.2.id))).length:=by omega
   refine X6 (ai.p1.aO (by intro x;rfl)) (B0 bf) fun a ha=>?_
   generalize hk:(Z0 (L.map (·.2.id)))[i]=k at ha
   have e1:V9 h1 a=some (.int .i64 k):=by simpa[Go.H.add_zero] using ha 0 _ rfl
   have d1:V9 h1 ⟨b,1,none⟩=some (.map (some m)):=by rw[(ai.re [3,0,1,2]).cell];rfl
   have ry:k∈L.map (·.2.id):=by
    have:=H2 bf
    rw[hk] at this
    exact(Q8 _ _).mem_iff.1 this
   obtain⟨p,hp,dA⟩:=E4.1 ry
   simp[e1,d1]
   refine u4 kI (kind:=.one .ptr) (z:=none) rfl (ai.re [2,0,1]) ?_
   have hg:W0 (L.map o5) k=some (some ⟨p.1,0,none⟩):=by
    obtain⟨l1,l2,rfl⟩:=G7 hp
    cases vb:W0 ((l1++p::l2).map o5) k with
    |none=>
     have:=(A1i _ _).1 vb
     exact absurd (by rw[F0];exact ry) this
    |some v=>
     obtain⟨q,ed,e⟩:=E4.1 (A42 vb)
     have e2:q.2.id=k:=congrArg Prod.fst e
     have e3:some ⟨q.1,0,none⟩=v:=congrArg Prod.snd e
     have wK:o5 q=o5 p:=by
      have au:=(ai.re [2,0,1]).bN
      have hA:o5 q∈(l1++p::l2).map o5:=B3 ed
      have hB:o5 p∈(l1++p::l2).map o5:=B3 hp
      obtain⟨u1,u2,hu⟩:=G7 hB
      rw[hu] at hA au
      rw[B8,B6,G0] at au
      have fW:(o5 q).1=(o5 p).1:=e2.trans dA.symm
      rcases C7.1 hA with h|h
      ·exact absurd fW (au.2.2 _ (B3 h) _ (B5 ..))
      ·rcases D7.1 h with h|h
       ·exact h
       ·have h3:=(F7.1 au.2.1).1
        rw[←fW] at h3
        exact absurd (B3 h) h3
     have:=congrArg Prod.snd wK
     rw[←e3]
     exact congrArg some this
   rw[hg]
   simp
   obtain⟨R',ay⟩:=A8R hp (ai.re [4,0,1,2,3])
   obtain⟨ob,ib,aL⟩:=A1F.1 ay
   refine A0j (ts:=[.int .i64,.str,.bool,.bool]) (p.2.id,p.2.aC,p.2.aN,p.2.on,()) (fun j v hv=>?_) ?_
   ·rw[U2,aL.cell]
    match j,hv with
    |0,hv=>exact hv
    |1,hv=>exact hv
    |2,hv=>exact hv
    |3,hv=>exact hv
    |j+4,hv=>cases(show(none:Option Value)=some v from hv)
   ·try simp only[U0]
    refine A00 (x:=u5 p.2) C5A C22 rfl ai (by decide) (by decide) ?_ fun fj h2 bu=>?_
    ·have:xs.length=i:=by
      have:=congrArg List.length gv
      simp at this
      omega
     omega
    ·refine .mk (i+1,xs++[u5 p.2]) (by simp only[];omega) ⟨next,by simp only[];omega,?_,fun x hx=>?_,bu⟩
     ·simp only[B8,B6,I3,gv]
      rw[C3 bf,hk,←dA]
      rfl
     ·rcases C7.1 hx with h|h
      ·exact lv x h
      ·rw[C0.1 h]
       exact B3 hp
  ·rw[if_neg (by omega)]
   rw[D2 (by omega)] at gv
   refine hq out xs h1 gv (B8B (f:=(·.1)) ?_ ?_ lv) ?_
   ·rw[gv,F0]
    exact Q8 _ _
   ·rw[F0]
    exact tA
   ·exact((p9.2 ⟨m,ai.re [3,2,4,0,1]⟩).re [2,1,0]).drop
theorem C5k{h:Heap}{R:List Asn}(hs:sat h R){Q:Value→Heap→Prop}(hq:∀h',sat h' R→Q (.tuple #[.agg #[.int .i64 0,.string (ByteArray.mk #[]),.bool false,.bool false],.bool false]) h'):V2 prog 97 #[.pointer none] h Q:=by
 refine A4S none h Q ?_
 delta A65 az g9 ie nn nw pu sn ve vi
 refine V4 hs fun b h1 aa=>?_
 simp only[U6,Option.isNone_none,if_true]
 refine l0 aa rfl rfl fun h2 ae=>?_
 refine Y4 (ts:=[.int .i64,.str,.bool,.bool]) (0,ByteArray.mk #[],false,false,()) ae rfl ?_
 exact hq h2 ae.drop
variable {h:Heap} {R:List Asn}
theorem C1W{α β:Type}{f:α→β}{xs ys:List α}(hp:xs.Perm ys)(hn:(ys.map f).Nodup)(he:xs.map f=ys.map f):xs=ys:=by
 refine List.ext_getElem hp.length_eq fun i h1 h2=>?_
 have hm:xs[i]∈ys:=hp.mem_iff.1 (H2 h1)
 have hk:f xs[i]=f ys[i]:=by
  have:=List.getElem_of_eq he (i:=i) (by simpa using h1)
  simpa using this
 obtain⟨j,hj,jX⟩:=List.getElem_of_mem hm
 have nL:j=i:=by
  refine(List.getElem_inj (xs:=ys.map f) (i:=j) (j:=i) (h₀:=by simpa using hj) (h₁:=by simpa using h2) hn).1 ?_
  simp only[List.getElem_map]
  rw[jX,hk]
 subst nL
 exact jX.symm
theorem B8k{l:List Int}(hr:l.Pairwise (·< ·)):Z0 l=l:=
 List.mergeSort_of_pairwise (hr.imp fun{a b} dp=>by simpa using(show a≤b by omega))
theorem B8t{l:List Int}(hr:l.Pairwise (·< ·)):l.Nodup:=hr.imp fun{a b} dp=>by omega
theorem C6w{L:List (Nat×V7)}{xs:List InT}(hr:(L.map (·.2.id)).Pairwise (·< ·))(h1:xs.map (·.1)=Z0 (L.map (·.2.id)))(h2:xs.Perm (L.map fun p=>u5 p.2)):xs=L.map fun p=>u5 p.2:=by
 have e:(L.map fun p=>u5 p.2).map (·.1)=L.map (·.2.id):=by rw[F0];rfl
 refine C1W h2 (f:=(·.1)) ?_ ?_
 ·rw[e];exact B8t hr
 ·rw[e,h1,B8k hr]
def A36:Option InT→(Int×B3O×Bool×Bool×Unit)×Bool×Unit
 |some x=>((x.1,x.2.1,x.2.2.1,x.2.2.2,()),true,())
 |none=>((0,ByteArray.mk #[],false,false,()),false,())
abbrev B7L(o:Option InT):Value:=.tuple (p8.cA [.agg [.int .i64,.str,.bool,.bool],.one .bool] (A36 o)).toArray
theorem C3V{b:Nat}{s:V7}{ob ib:Nat}(hs:sat h (cells b (B8n s ob ib)::R)){Q:Value→Heap→Prop}(hq:∀h',sat h' (cells b (B8n s ob ib)::R)→Q (B7L (some (u5 s))) h'):
  V2 prog 97 #[at0 b] h Q:=by
 refine A4S (some ⟨b,0,none⟩) h Q ?_
 delta A65 az g9 ie nn nw pu sn ve vi
 refine V4 hs fun x1 h1 aa=>?_
 (try dsimp only);rw[U6,if_neg (by simp)]
 refine⟨_,rfl,?_⟩
 refine A0j (ts:=[.int .i64,.str,.bool,.bool]) (s.id,s.aC,s.aN,s.on,()) (fun j v hv=>?_) ?_
 ·rw[U2,U2,(aa.p1).cell]
  match j,hv with
  |0,hv=>exact hv
  |1,hv=>exact hv
  |2,hv=>exact hv
  |3,hv=>exact hv
  |j+4,hv=>cases(show(none:Option Value)=some v from hv)
 refine l0 aa rfl rfl fun h2 ae=>?_
 refine Y4 (ts:=[.int .i64,.str,.bool,.bool]) (s.id,s.aC,s.aN,s.on,()) ae rfl ?_
 exact hq h2 ae.drop
theorem C6A{b:Nat}{last:Int}{L:List (Nat×V7)}{p:Nat×V7}(hp:p∈L)(hs:sat h (A1E b last L::R)){Q:Value→Heap→Prop}(hq:∀h',sat h' (A1E b last L::R)→Q (B7L (some (u5 p.2))) h'):
  V2 prog 97 #[at0 p.1] h Q:=by
 obtain⟨l1,l2,rfl⟩:=G7 hp
 obtain⟨m,ob,ib,aa⟩:=B9s hs
 refine C3V (s:=p.2) (aa.re [2,0,1]) fun h' ae=>hq h' ?_
 exact B9r (o:=p.2.out) (ae.re [1,2,0])
theorem C4s{b:Nat}{last:Int}{L:List (Nat×V7)}{c:B3O}(hs:sat h (A1E b last L::R)){Q:Value→Heap→Prop}
  (ax:(∀p∈L,p.2.aC≠c)→∀h',sat h' (A1E b last L::R)→Q (B7L none) h')(cN:∀p∈L,p.2.aC=c→∀h',sat h' (A1E b last L::R)→Q (B7L (some (u5 p.2))) h'):
  V2 prog 55 #[at0 b,.string c] h Q:=by
 refine A5V _ c h Q ?_
 delta A4U az bn cp g9 nw pu sn
 refine V4 hs fun x1 h1 aa=>?_
 have fin:∀{o:Option InT} {h':Heap},(∀h',sat h' (A1E b last L::R)→Q (B7L o) h')→sat h' (A1E b last L::cells x1 #[.int .i64 0,.string (ByteArray.mk #[]),.bool false,.bool false]::R)→
   (HM.bind (α:=Unit) (A91 ⟨x1,0,none⟩ [.int .i64 (A36 o).1.1,.string (A36 o).1.2.1,.bool (A36 o).1.2.2.1,.bool (A36 o).1.2.2.2.1]) fun(_:Unit)=>
    HM.bind (α:=Int×B3O×Bool×Bool×Unit) (o4 [.int .i64,.str,.bool,.bool] ⟨x1,0,none⟩) fun(x4:Int×B3O×Bool×Bool×Unit)=>
    X0 ((x4.1,x4.2.1,x4.2.2.1,x4.2.2.2.1,()),(A36 o).2.1,())) h' fun x h'=>Q (.tuple #[.agg #[.int .i64 x.1.1,.string x.1.2.1,.bool x.1.2.2.1,.bool x.1.2.2.2.1],.bool x.2.1]) h':=fun ed af=>by
  refine l0 af.p1 rfl rfl fun h3 aj=>?_
  refine Y4 (ts:=[.int .i64,.str,.bool,.bool]) (A36 _).1 aj rfl ?_
  exact ed h3 aj.drop
 refine V3 (fun x h'=>(x=none∧(∀p∈L,p.2.aC≠c)∧sat h' (A1E b last L::cells x1 #[.int .i64 0,.string (ByteArray.mk #[]),.bool false,.bool false]::R))∨
  (∃p,p∈L∧x=some ⟨p.1,0,none⟩∧p.2.aC=c∧sat h' (A1E b last L::cells x1 #[.int .i64 0,.string (ByteArray.mk #[]),.bool false,.bool false]::R))) ?_ ?_
 ·exact C2P aa.p1 (fun hn h' af=>⟨none,rfl,.inl ⟨rfl,hn,af⟩⟩) (fun p hp hc h' af=>⟨some ⟨p.1,0,none⟩,rfl,.inr ⟨p,hp,rfl,hc,af⟩⟩)
 rintro x h2 (⟨rfl,hn,ae⟩|⟨p,hp,rfl,hc,ae⟩)
 ·refine u6 (C5k ae fun h3 aj=>⟨A36 none,rfl,?_⟩)
  exact fin (o:=none) (ax hn) aj
 ·refine u6 (C6A hp ae fun h3 aj=>⟨A36 (some (u5 p.2)),rfl,?_⟩)
  exact fin (o:=some (u5 p.2)) (cN p hp hc) aj
end
section
open Go.H Go.Proofs
variable {h:Heap} {R:List Asn}
theorem C1v{b:Nat}{o:Z8}{m:MsT}(hs:sat h (A0i b o::R))(ag:W9 o){Q:Value→Heap→Prop}
  (hq:∀S h',sat h' (A0i b (Y1 o m).1.1::o6 .u8 S (Y1 o m).1.2::R)→Q (.tuple #[.slice S.a S.len S.cap,.int .u8 (Y1 o m).2]) h'):
  V2 prog 81 #[at0 b,vMs m] h Q:=by
 refine A6C (some ⟨b,0,none⟩) (toU m) h Q ?_
 obtain⟨pb,fl,wt,dR⟩:=A0h.1 hs
 have eG:wt.len=o.waiting.length:=(dR.re [3,0,1,2]).aW
 delta A5B az bn cc g7 ie ji kb kc nn nw pu rq sx vs vz
 refine V4 dR fun mb h1 bx=>?_
 have aa:sat h1 (cells mb (Z4 m).toArray::cells b #[at0 pb,.int .i64 o.most,.bool o.on,.slice fl.a fl.len fl.cap,.slice wt.a wt.len wt.cap]::A1k pb o.aU::U4 A0I 7 fl o.aG::U4 Z4 5 wt o.waiting::R):=bx
 clear bx dR hs
 have hM:V9 h1 ⟨mb,2,none⟩=some (.int .i64 m.2.2.1):=aa.cell 2
 have stay:∀{c:Int},Y1 o m=((o,[]),c)→Q (.tuple #[.slice none 0 0,.int .u8 c]) h1:=fun{c} he=>by
  have:=hq ⟨none,0,0⟩ h1
  rw[he] at this
  exact this ((A1M (A0h.2 ⟨pb,fl,wt,aa.drop⟩)).p1)
 (try dsimp only);rw[U6,if_neg (by simp)]
 refine cut (fun x h'=>h'=h1∧x.1=decide (m.2.2.1<0∨2<m.2.2.1)) ?_ ?_
 ·intro K hK
  refine⟨m.2.2.1,by rw[U2];exact hM,?_⟩
  (try dsimp only);rw[U6]
  by_cases h0:m.2.2.1<0
  ·rw[if_pos (by simpa using h0)]
   exact hK _ _ ⟨rfl,by simp[h0]⟩
  ·rw[if_neg (by simpa using h0)]
   exact⟨m.2.2.1,by rw[U2];exact hM,hK _ _ ⟨rfl,by simp[h0]⟩⟩
 rintro⟨x,⟨⟩⟩ h2 ⟨rfl,hx⟩
 simp only at hx
 subst hx
 (try dsimp only);rw[U6]
 by_cases al:m.2.2.1<0∨2<m.2.2.1
 ·rw[if_pos (by simpa using al)]
  exact stay (by unfold Y1;rw[if_pos al])
 rw[if_neg (by simpa using al)]
 refine cut (fun x h'=>h'=h2∧x.1=decide (m.2.2.1=0∧o.on=false)) ?_ ?_
 ·intro K hK
  refine⟨m.2.2.1,by rw[U2];exact hM,?_⟩
  (try dsimp only);rw[U6]
  by_cases h0:m.2.2.1=0
  ·rw[if_pos (by simpa using h0)]
   refine⟨_,rfl,o.on,by rw[U2];exact aa.p1.cell 2,hK _ _ ⟨rfl,?_⟩⟩
   cases o.on<;>simp[h0]
  ·rw[if_neg (by simpa using h0)]
   exact hK _ _ ⟨rfl,by simp[h0]⟩
 rintro⟨x,⟨⟩⟩ h3 ⟨rfl,hx⟩
 simp only at hx
 subst hx
 (try dsimp only);rw[U6]
 by_cases dF:m.2.2.1=0∧o.on=false
 ·rw[if_pos (by simpa using dF)]
  exact stay (by unfold Y1;rw[if_neg al,if_pos dF])
 rw[if_neg (by simpa using dF)]
 refine⟨_,rfl,wt,by rw[U2];exact aa.p1.cell 4,?_⟩
 (try dsimp only);rw[U6]
 by_cases aA:256≤o.waiting.length
 ·rw[if_pos (by rw[eG];simp only[decide_eq_true_eq];omega)]
  exact stay (by unfold Y1;rw[if_neg al,if_neg dF,if_pos aA])
 rw[if_neg (by rw[eG];simp only[decide_eq_true_eq];omega)]
 refine⟨_,rfl,wt,by rw[U2];exact aa.p1.cell 4,?_⟩
 refine Y4 (ts:=[.str,.str,.int .i64,.bool,.str]) (toU m) aa rfl ?_
 refine V4 aa fun pv h4 aY=>?_
 have ae:sat h4 (cells pv (Z4 m).toArray::cells mb (Z4 m).toArray::cells b #[at0 pb,.int .i64 o.most,.bool o.on,.slice fl.a fl.len fl.cap,.slice wt.a wt.len wt.cap]::A1k pb o.aU::U4 A0I 7 fl o.aG::U4 Z4 5 wt o.waiting::R):=aY
 clear aY
 refine⟨wt,by rw[U2];exact ae.p2.cell 4,rfl,?_⟩
 (try dsimp only);rw[U0]
 refine z8 (enc:=Z4) (ys:=[m]) A7A B50 rfl ae.p5 rfl ?_ (by decide) (by decide) (by omega) fun wt' h5 aj=>?_
 ·simp only[V6,M9,D5,H8,C1]
  exact ae.reads rfl
 refine⟨_,rfl,?_⟩
 (try dsimp only);rw[U0,U2]
 refine W5 aj.p3 (by simp) rfl fun h6 ak=>?_
 have ai:sat h6 (A0i b {o with waiting:=o.waiting++[m]}::o6 .u8 ⟨none,0,0⟩ []::R):=by
  refine(A1M (A0h.2 ⟨pb,fl,wt',?_⟩)).p1
  exact(ak.re [0,4,5,1,2,3]).p4.p5.drop.drop
 have hw:=ag.wait (m:=m) ⟨by omega,by omega⟩ aA
 have he:Y1 o m=(Y7 {o with waiting:=o.waiting++[m]},0):=by unfold Y1;rw[if_neg al,if_neg dF,if_neg aA]
 rw[he] at hq
 refine U5 (B2X ai hw (by simp) fun h7 S ay=>⟨S,rfl,?_⟩)
 exact hq S h7 ay
theorem C2f{n:Int}{Q:Value→Heap→Prop}(hq:Q (.int .i64 (max 1 (min n 64))) h):V2 prog 117 #[.int .i64 n] h Q:=by
 refine A3r n h Q ?_
 delta A7W pu
 have e:(if 1<(if 64<n then(64:Int) else n) then(if 64<n then 64 else n) else 1)=max 1 (min n 64):=by
  split<;>split<;>omega
 rw[e]
 exact hq
abbrev FlU:=Int×B3O×B3O×Int×Bool×B3O×Bool×Unit
abbrev C3j(f:FlT):FlU:=(f.1,f.2.1.1,f.2.1.2.1,f.2.1.2.2.1,f.2.1.2.2.2.1,f.2.1.2.2.2.2,f.2.2,())
theorem B9Y{b:Nat}{o:Z8}{most:Int}(hs:sat h (A0i b o::R))(ag:W9 o){Q:Value→Heap→Prop}
  (hq:∀S h',sat h' (A0i b (A0g o most).1::o6 .u8 S (A0g o most).2::R)→Q (.slice S.a S.len S.cap) h'):
  V2 prog 73 #[at0 b,.int .i64 most] h Q:=by
 refine A5Y (some ⟨b,0,none⟩) most h Q ?_
 obtain⟨pb,fl,wt,dR⟩:=A0h.1 hs
 delta A41 ad az bn cc ci g5 g7 ie ix jb ji kc nn nw pu sn sx ve vi vs vz wi
 (try dsimp only);rw[U6,if_neg (by simp)]
 refine U5 (C2f ⟨_,rfl,?_⟩)
 refine⟨_,rfl,?_⟩
 (try dsimp only);rw[U0,U2]
 refine W5 dR (by simp) rfl fun h1 aa=>?_
 refine⟨_,rfl,?_⟩
 (try dsimp only);rw[U0,U2]
 refine W5 aa (by simp) rfl fun h2 aY=>?_
 have ae:sat h2 (cells b #[at0 pb,.int .i64 (max 1 (min most 64)),.bool true,.slice fl.a fl.len fl.cap,.slice wt.a wt.len wt.cap]::A1k pb o.aU::U4 A0I 7 fl o.aG::U4 Z4 5 wt o.waiting::R):=aY
 clear aY aa dR hs
 refine⟨_,rfl,fl,by rw[U2];exact ae.cell 3,?_⟩
 have cn:fl.len=o.aG.length:=ae.p2.aW
 have ij:=ag.f64
 (try dsimp only);rw[U0]
 refine B5x o.aG.length (fun i x h'=>x.2.1=(i:Int)∧sat h' (cells b #[at0 pb,.int .i64 (max 1 (min most 64)),.bool true,.slice fl.a fl.len fl.cap,.slice wt.a wt.len wt.cap]::A1k pb o.aU::U4 A0I 7 fl o.aG::U4 Z4 5 wt o.waiting::o6 .u8 x.1 ((o.aG.take i).map A1r)::R))
  ⟨rfl,by simpa using(A1M (k:=.u8) ae).re [1,2,3,4,0]⟩ (fun i x h hi hJ=>by rw[hJ.1,cn];exact F9.2 (by omega)) (fun x h hJ K hd=>?_) (fun i x h ah hJ K bp hd=>?_)
 ·obtain⟨hx,aj⟩:=hJ
  rw[F5] at aj
  refine hd _ _ ?_
  have ak:sat h (A0i b {o with on:=true,most:=max 1 (min most 64)}::o6 .u8 x.1 (o.aG.map A1r)::R):=A0h.2 ⟨pb,fl,wt,aj⟩
  have h1:W9 {o with on:=true,most:=max 1 (min most 64)}:=⟨ag.pm,ag.pk,by simp only;omega,by simp only;omega,ag.ids,ag.wl,ag.fq,ag.wq⟩
  refine U5 (B2X ak h1 (by rw[B9];omega) fun h7 S ay=>⟨S,rfl,?_⟩)
  exact hq S h7 ay
 ·obtain⟨out,ci,⟨⟩⟩:=x
  obtain⟨hx,aj⟩:=hJ
  simp only at hx aj
  subst hx
  have hy:=B0 ah
  have aV:(o.aG.take (i+1)).map A1r=(o.aG.take i).map A1r++[A1r o.aG[i]]:=by rw[H7,hy,B8];rfl
  generalize o.aG[i]=f at hy aV
  (try dsimp only);rw[U0]
  refine X6 (aj.p2.aO A2C) hy fun a ha=>?_
  refine A0j (ts:=[.int .i64,.str,.str,.int .i64,.bool,.str,.bool]) (C3j f) ha ?_
  refine V4 aj fun lq h4 ak=>?_
  (try dsimp only);rw[U0]
  refine l0 ak rfl rfl fun h5 fo=>?_
  have ai:sat h5 (cells lq (A0I f).toArray::cells b #[at0 pb,.int .i64 (max 1 (min most 64)),.bool true,.slice fl.a fl.len fl.cap,.slice wt.a wt.len wt.cap]::A1k pb o.aU::U4 A0I 7 fl o.aG::U4 Z4 5 wt o.waiting::o6 .u8 out ((o.aG.take i).map A1r)::R):=fo
  clear fo ak
  refine⟨f.2.2,by rw[U2];exact ai.cell 6,?_⟩
  have oP:((o.aG.take i).map A1r).length≤64:=by rw[B9,E1];omega
  refine cut (fun z h'=>sat h' (o6 .u8 z.1 ((o.aG.take (i+1)).map A1r)::cells b #[at0 pb,.int .i64 (max 1 (min most 64)),.bool true,.slice fl.a fl.len fl.cap,.slice wt.a wt.len wt.cap]::A1k pb o.aU::U4 A0I 7 fl o.aG::U4 Z4 5 wt o.waiting::R)) ?_ ?_
  ·intro K2 bd
   rw[aV] at bd
   (try dsimp only);rw[U6]
   unfold A1r at bd
   by_cases hr:f.2.2=true
   ·rw[if_pos hr]
    rw[if_pos hr] at bd
    refine⟨f.1,by rw[U2];exact ai.cell 0,?_⟩
    have ay:=A28 (k:=.u8) (o:=Z7 6 f.1 0) rfl rfl ai
    refine A40 (t:=(⟨none,0,0⟩,⟨none,0,0⟩,Z7 6 f.1 0)) (ay.re [6,0,1,2,3,4,5]) rfl (by decide) (by omega) fun s' h6 aL=>?_
    exact bd _ _ aL.p1.drop
   ·rw[if_neg hr]
    rw[if_neg hr] at bd
    refine A0j (ts:=[.str,.str,.int .i64,.bool,.str]) (toU f.2.1) (fun j v hv=>?_) ?_
    ·rw[U2,Addr.bL,ai.cell]
     match j,hv with
     |0,hv=>exact hv
     |1,hv=>exact hv
     |2,hv=>exact hv
     |3,hv=>exact hv
     |4,hv=>exact hv
     |n+5,hv=>exact absurd hv (by show ¬(Z4 f.2.1)[n+5]? =some v;simp)
    refine⟨f.1,by rw[U2];exact ai.cell 0,?_⟩
    refine U5 (B7A (m:=f.2.1) (id:=f.1) (dup:=true) ai fun c p h6 ay=>⟨pkT (A0s f.2.1 f.1 true) c p,rfl,?_⟩)
    refine A40 (t:=(c,p,A0s f.2.1 f.1 true)) (ay.re [6,0,1,2,3,4,5]) rfl (by decide) (by omega) fun s' h7 aL=>?_
    exact bd _ _ aL.p1.drop
  rintro⟨out',⟨⟩⟩ h6 ay
  exact bp _ _ ⟨by rw[V5 (by omega) (by omega)];rfl,ay.re [1,2,3,4,0]⟩
end
end Go.Proofs.YtidlldnlphdhcaaGreatDoor
namespace Go.H
section
variable {α:Type} {enc:α→C9w} {size:Nat} {h:Heap} {s:Slc} {xs:List α} {R:List Asn}
def C8P(elem:TypeId)(size bytes:Nat)(zero:C9v)(p0:Slc)(p1:Int)(p2:Int):HM (Slc×Unit):=
 HM.bind (HM.slice p0 (some p1) (some p2) (some ((p0.len:Nat):Int)) size) fun x1=>
 A1s (p1==p2) (
 X0 (p0,())) (
 HM.bind (HM.slice p0 none (some p1) none size) fun x2=>
 HM.bind (HM.slice p0 (some p2) none none size) fun x3=>
 HM.bind (HM.append elem size bytes zero x2 x3.len (V6 size x3)) fun x4=>
 HM.bind (HM.slice x4 (some ((x4.len:Nat):Int)) (some ((p0.len:Nat):Int)) none size) fun x5=>
 HM.bind (B77 zero x5) fun _=>
 X0 (x4,()))
theorem B7c(ao:∀x,(enc x).length=size):∀(l:List α) (n:Nat),(l.flatMap enc).take (n*size)=(l.take n).flatMap enc∧(l.flatMap enc).drop (n*size)=(l.drop n).flatMap enc:=by
 intro l
 induction l with
 |nil=>intro n;simp
 |cons x l ih=>
  intro n
  cases n with
  |zero=>simp
  |succ n=>
   have hx:=ao x
   rw[D5,J1,List.take_succ_cons,List.drop_succ_cons,D5]
   refine⟨?_,?_⟩
   ·rw[List.take_append,hx,D2 (by omega),show n*size+size-size=n*size from by omega,(ih n).1]
   ·rw[List.drop_append,hx,L8 (by omega),show n*size+size-size=n*size from by omega,(ih n).2,F2]
theorem C19(ao:∀x,(enc x).length=size)(dm:∀x,∀v∈enc x,v.oneCell'=true){elem:TypeId}{bytes:Nat}{zero:C9v}(hz:zero.size=size)(sy:zero.toList.all (fun v=>v.oneCell')=true)(hsz:0<size)
  {i:Nat}(hs:sat h (U4 enc size s xs::R))(hi:i<xs.length){Q:Slc×Unit→Heap→Prop}
  (hq:∀s' h',sat h' (U4 enc size s' (xs.eraseIdx i)::R)→Q (s',()) h'):C8P elem size bytes zero s (i:Int) ((i:Int)+1) h Q:=by
 have hl:=hs.aW
 have hc:=hs.eB
 have sy:∀v∈(Builtin.zeroCells zero 1).toList,v.oneCell'=true:=by
  intro v hv
  rw[Array.mem_toList_iff] at hv
  unfold Builtin.zeroCells at hv
  obtain⟨j,-,rfl⟩:=Array.mem_map.1 hv
  have hj:j % zero.size<zero.size:=Nat.mod_lt _ (by omega)
  rw[getElem!_pos zero _ hj]
  exact I8.1 sy _ (by rw[Array.mem_toList_iff];exact Array.getElem_mem hj)
 have su:(Builtin.zeroCells zero 1).toList.length=size:=by simp[Builtin.zeroCells,hz]
 rcases A1B hs with⟨-,-,rfl,-⟩|⟨b,o,cs,ho,aa⟩
 ·simp at hi
 have uE:=ho.a
 have fC:=ho.dO
 unfold C8P
 refine⟨i,i+1,s.len,⟨rfl,hc⟩,⟨by omega,by omega⟩,⟨rfl,by omega⟩,?_⟩
 (try dsimp only);rw[U6,if_neg (by simp;omega)]
 refine⟨0,i,s.cap,rfl,⟨rfl,by omega⟩,rfl,?_⟩
 refine⟨i+1,s.len,s.cap,rfl,⟨rfl,rfl⟩,⟨by omega,by omega⟩,?_⟩
 have e2:j9 s 0 i s.cap size=⟨some ⟨b,o*size,none⟩,i,s.cap⟩:=by
  unfold j9
  rw[uE,if_neg (by omega)]
  simp[Addr.bL]
 have e3:(j9 s (i+1) s.len s.cap size).len=s.len-(i+1):=rfl
 have hmul:s.len*size=i*size+size+(s.len-(i+1))*size:=by
  rw[←J1,←J3];congr 1;omega
 have hle:(o+s.len)*size≤cs.size:=C4 (Q5 _ (by omega)) fC
 have uM:(o+s.len)*size=o*size+s.len*size:=J3 ..
 have cn:=v7 ao (xs.drop (i+1))
 rw[R0,←hl] at cn
 have gx:(xs.drop (i+1)).flatMap enc=(xs.flatMap enc).drop ((i+1)*size):=((B7c ao xs (i+1)).2).symm
 rw[e2]
 (try dsimp only);rw[U0,e3]
 refine⟨fun _=>?_,fun nU=>absurd nU (by simp only;omega)⟩
 refine⟨((xs.drop (i+1)).flatMap enc).toArray,?_,?_⟩
 ·unfold V6
  have ha:(j9 s (i+1) s.len s.cap size).a=some ⟨b,if s.cap=i+1 then o*size else o*size+(i+1)*size,none⟩:=by
   unfold j9
   simp only[uE]
   split<;>simp[Addr.bL]
  rw[ha,e3]
  refine⟨by simpa using cn,fun j v hv=>?_⟩
  have pG:((xs.drop (i+1)).flatMap enc)[j]? =some v:=by simpa using hv
  have hj:=(D8.1 pG).1
  rw[cn] at hj
  rw[if_neg (by intro e;rw[show s.len-(i+1)=0 by omega] at hj;omega)]
  rw[Addr.bL,aa.cell]
  rw[gx,←ho.front,N4,List.getElem?_take_of_lt (by rw[J1];omega),N4] at pG
  rw[show o*size+(i+1)*size+j=o*size+((i+1)*size+j) by omega]
  simpa using pG
 dsimp only
 rw[Addr.bL]
 have tx:o*size+i*size+((xs.drop (i+1)).flatMap enc).length≤cs.size:=by rw[cn];omega
 refine⟨by
  have:=A3k (o:=o*size+i*size) (vs:=(xs.drop (i+1)).flatMap enc) aa tx (fun v hv=>by
   obtain⟨x,_,hx⟩:=S4.1 hv
   exact dm x v hx)
  simpa using this,?_⟩
 obtain⟨lO,f1,f2,ae⟩:=sat.setCells ((xs.drop (i+1)).flatMap enc) cs (o*size+i*size) 0 aa (by omega)
 have e4:i+(s.len-(i+1))=s.len-1:=by omega
 rw[e4]
 refine⟨s.len-1,s.len,s.cap,rfl,⟨rfl,hc⟩,⟨rfl,by omega⟩,?_⟩
 have e5:j9 ⟨some ⟨b,o*size,none⟩,s.len-1,s.cap⟩ (s.len-1) s.len s.cap size=⟨some ⟨b,o*size+(s.len-1)*size,none⟩,1,s.cap-(s.len-1)⟩:=by
  unfold j9
  rw[if_neg (by omega)]
  simp only[R5,Addr.bL]
  congr 1
  omega
 rw[e5]
 (try dsimp only);rw[U0]
 unfold B77
 dsimp only
 rw[if_neg (by decide)]
 have uP:s.len*size=(s.len-1)*size+size:=by
  rw[←J1];congr 1;omega
 have tw:o*size+(s.len-1)*size+(Builtin.zeroCells zero 1).toList.length≤lO.size:=by rw[su,f1];omega
 refine⟨by
  have:=A3k (o:=o*size+(s.len-1)*size) (vs:=(Builtin.zeroCells zero 1).toList) ae tw sy
  simpa using this,?_⟩
 obtain⟨xT,g1,g2,aj⟩:=sat.setCells (Builtin.zeroCells zero 1).toList lO (o*size+(s.len-1)*size) 0 ae (by omega)
 refine hq _ _ (A1A (b:=b) (o:=o) (cs:=xT) ⟨rfl,by simp only;omega,?_,by rw[g1,f1];exact fC,?_⟩ aj)
 ·rw[List.length_eraseIdx_of_lt hi];simp only;omega
 rw[g2,O4,D4]
 have qB:lO.toList.length=cs.size:=by simp[f1]
 have ba:cs.toList.length=cs.size:=by simp
 have t1:((lO.toList.take (o*size+(s.len-1)*size)++((Builtin.zeroCells zero 1).toList++lO.toList.drop (o*size+(s.len-1)*size+(Builtin.zeroCells zero 1).toList.length))).drop (o*size)).take ((s.len-1)*size)
   =(lO.toList.drop (o*size)).take ((s.len-1)*size):=by
  rw[O9 (by rw[E1,qB];omega),P0 (by rw[R0,E1,qB];omega),List.drop_take,List.take_take]
  congr 1
  omega
 rw[t1,f2,O4,D4]
 rw[O9 (by rw[E1,ba];omega),List.drop_take,show o*size+i*size-o*size=i*size by omega]
 have t2:(cs.toList.drop (o*size)).take (i*size)=(xs.take i).flatMap enc:=by
  rw[←(B7c ao xs i).1,←ho.front,List.take_take]
  congr 1
  omega
 rw[t2,List.eraseIdx_eq_take_drop_succ,I5,←D4]
 rw[P0,D2]
 ·rw[B4,cn,v7 ao,E1,Nat.min_eq_left (by omega)];omega
 ·rw[B4,cn,v7 ao,E1,Nat.min_eq_left (by omega)];omega
end
end Go.H
namespace Go.Proofs.YtidlldnlphdhcaaGreatDoor
open Go.H
open Go.Proofs.Tryz
section
open Go.H Go.Proofs
variable {h:Heap} {R:List Asn}
theorem B19(a:Addr)(m n:Nat):(a.add m).add n=a.add (m+n):=by
 unfold Addr.add
 by_cases hn:n=0
 ·subst hn;simp
 ·by_cases hm:m=0
  ·subst hm;simp
  ·rw[if_neg hn,if_neg hm,if_neg (by omega),Nat.add_assoc]
theorem B7W{xs:List FlT}(hn:(xs.map (·.1)).Nodup):∀{i:Nat} {f:FlT},xs[i]? =some f→xs.eraseIdx i=xs.filter fun g=>decide (g.1≠f.1):=by
 induction xs with
 |nil=>intro i f hf;simp at hf
 |cons x xs ih=>
  intro i f hf
  rw[B6,F7] at hn
  cases i with
  |zero=>
   rw[P1] at hf
   cases hf
   rw[List.eraseIdx_cons_zero,H5,if_neg (by simp)]
   refine(H0.2 fun g hg=>?_).symm
   simp only[decide_eq_true_eq]
   intro e
   exact hn.1 (e▸B3 hg)
  |succ i=>
   rw[P2] at hf
   have hx:x.1≠f.1:=fun e=>hn.1 (e▸B3 (F1 hf))
   rw[List.eraseIdx_cons_succ,H5,if_pos (by simpa using hx),ih hn.2 hf]
theorem C2x{xs:List FlT}(hn:(xs.map (·.1)).Nodup):∀{i:Nat} {f:FlT},xs[i]? =some f→xs.set i (f.1,f.2.1,true)=xs.map fun g=>if g.1=f.1 then(g.1,g.2.1,true) else g:=by
 induction xs with
 |nil=>intro i f hf;simp at hf
 |cons x xs ih=>
  intro i f hf
  rw[B6,F7] at hn
  cases i with
  |zero=>
   rw[P1] at hf
   cases hf
   rw[List.set_cons_zero,B6,if_pos rfl]
   congr 1
   conv=>lhs;rw[←T4 xs]
   refine H9 fun g hg=>?_
   rw[if_neg (fun e:g.1=x.1=>hn.1 (e▸B3 hg))]
   rfl
  |succ i=>
   rw[P2] at hf
   have hx:x.1≠f.1:=fun e=>hn.1 (e▸B3 (F1 hf))
   rw[List.set_cons_succ,B6,if_neg hx,ih hn.2 hf]
theorem C0s{xs:List FlT}{id:Int}(hn:(xs.map (·.1)).Nodup){i:Nat}{f:FlT}(hf:xs[i]? =some f)(he:f.1=id):xs.find? (fun g=>decide (g.1=id))=some f:=by
 induction xs generalizing i with
 |nil=>simp at hf
 |cons x xs ih=>
  rw[B6,F7] at hn
  cases i with
  |zero=>
   rw[P1] at hf
   cases hf
   rw[R3 (by simpa using he)]
  |succ i=>
   rw[P2] at hf
   have hx:x.1≠id:=fun e=>hn.1 ((e.trans he.symm)▸B3 (F1 hf))
   rw[List.find?_cons_of_neg (by simpa using hx),ih hn.2 hf]
theorem B7V{xs:List FlT}{id:Int}(hn:∀f∈xs,f.1≠id):xs.find? (fun g=>decide (g.1=id))=none:=
 E3.2 fun f hf=>by simpa using hn f hf
theorem W9.nd{o:Z8}(h:W9 o):(o.aG.map (·.1)).Nodup:=by rw[h.ids];exact h.pk.nodup
theorem C5S{cb:Nat}{cs:C9v}{id:Int}{f:FlT}(hs:sat h (cells cb cs::R))(hc:cs[4]? =some (.int .i64 id)){Q:Value→Heap→Prop}(hq:∀h',sat h' (cells cb cs::R)→Q (.bool (f.1==id)) h'):
  V2 prog 162 #[.agg (A0I f).toArray,at0 cb] h Q:=by
 refine A4m (C3j f) ⟨cb,0,none⟩ h Q ?_
 delta A3c ji ki nw pu
 refine V4 hs fun x1 h1 aa=>?_
 refine⟨f.1,by rw[U2];exact aa.cell 0,id,by rw[U2];exact(aa.p1.cell 4).trans hc,?_⟩
 exact hq h1 aa.drop
theorem C3W{cb:Nat}{cs:C9v}{id:Int}{s:Slc}{xs:List FlT}(hs:sat h (cells cb cs::U4 A0I 7 s xs::R))(hl:xs.length≤300)(hc:cs[4]? =some (.int .i64 id)){Q:Value→Heap→Prop}
  (ax:(∀f∈xs,f.1≠id)→∀h',sat h' (cells cb cs::U4 A0I 7 s xs::R)→Q (.int .i64 (-1)) h')
  (cN:∀(i:Nat) (f:FlT),xs[i]? =some f→f.1=id→∀h',sat h' (cells cb cs::U4 A0I 7 s xs::R)→Q (.int .i64 i) h'):
  V2 prog 161 #[.slice s.a s.len s.cap,.func (.func 162) #[] #[at0 cb]] h Q:=by
 refine A3W s _ h Q ?_
 delta A2K bn g5 ie ix pu wi
 (try dsimp only);rw[U0]
 have cG:s.len=xs.length:=hs.p1.aW
 refine B5x xs.length (fun i x h'=>x.1=(i:Int)∧(∀f∈xs.take i,f.1≠id)∧sat h' (cells cb cs::U4 A0I 7 s xs::R))
  ⟨rfl,by simp,hs⟩ (fun i x h hi hJ=>by rw[hJ.1,cG];exact F9.2 (by omega)) (fun x h hJ K hd=>?_) (fun i x h ah hJ K bp hd=>?_)
 ·obtain⟨hx,hn,aa⟩:=hJ
  rw[F5] at hn
  exact hd _ _ (ax hn _ aa)
 ·obtain⟨ci,⟨⟩⟩:=x
  obtain⟨hx,hn,aa⟩:=hJ
  simp only at hx
  subst hx
  have hy:=B0 ah
  have aV:xs.take (i+1)=xs.take i++[xs[i]]:=by rw[H7,hy];rfl
  generalize xs[i]=f at hy aV
  (try dsimp only);rw[U0]
  refine X6 (aa.p1.aO A2C) hy fun a ha=>?_
  refine A0j (ts:=[.int .i64,.str,.str,.int .i64,.bool,.str,.bool]) (C3j f) ha ?_
  refine⟨_,_,_,rfl,call162,?_⟩
  refine C5S (f:=f) aa hc fun h2 ae=>⟨_,rfl,?_⟩
  (try dsimp only);rw[U6]
  by_cases e:f.1=id
  ·rw[if_pos (by simpa using e)]
   exact hd _ _ (cN i f hy e _ ae)
  ·rw[if_neg (by simpa using e)]
   refine bp _ _ ⟨by rw[V5 (by omega) (by omega)];rfl,fun g hg=>?_,ae⟩
   rw[aV] at hg
   rcases C7.1 hg with hg|hg
   ·exact hn g hg
   ·rw[C0.1 hg];exact e
theorem B8Y{s:Slc}{xs:List FlT}{i:Nat}(hs:sat h (U4 A0I 7 s xs::R))(hi:i<xs.length){Q:Value→Heap→Prop}
  (hq:∀(s':Slc) h',sat h' (U4 A0I 7 s' (xs.eraseIdx i)::R)→Q (.slice s'.a s'.len s'.cap) h'):
  V2 prog 211 #[.slice s.a s.len s.cap,.int .i64 i,.int .i64 ((i:Int)+1)] h Q:=by
 refine A9k s i _ h Q ?_
 exact C19 (zero:=#[.int .i64 0,.string (ByteArray.mk #[]),.string (ByteArray.mk #[]),.int .i64 0,.bool false,.string (ByteArray.mk #[]),.bool false]) A2C B1X rfl rfl (by decide) hs hi fun s' h' af=>hq s' h' af
theorem C1x{b:Nat}{o:Z8}{i:Nat}{f:FlT}(hs:sat h (A0i b o::R))(ag:W9 o)(hf:o.aG[i]? =some f){Q:Value→Heap→Prop}
  (hq:∀h',sat h' (A0i b (A3a o f.1)::R)→Q (.tuple #[]) h'):V2 prog 163 #[at0 b,.int .i64 i] h Q:=by
 refine A6A (some ⟨b,0,none⟩) i h Q ?_
 obtain⟨pb,fl,wt,aa⟩:=A0h.1 hs
 delta A5z cb cc ix kc ki kp nn pu sx vi vs wi
 have ck:=(D8.1 hf).1
 have ij:=ag.f64
 refine⟨_,rfl,some ⟨pb,0,none⟩,by rw[U2];exact aa.cell 0,_,rfl,fl,by rw[U2];exact aa.cell 3,?_⟩
 (try dsimp only);rw[U0]
 refine X6 (aa.p2.aO A2C) hf fun a ha=>?_
 refine⟨f.1,ha 0 _ rfl,?_⟩
 refine U5 (B79 aa.p1 fun h2 ae=>⟨_,rfl,?_⟩)
 refine⟨_,rfl,fl,by rw[U2];exact ae.p1.cell 3,?_⟩
 have w:IntKind.wrap .i64 ((i:Int)+1)=(i:Int)+1:=V5 (by omega) (by omega)
 (try dsimp only);rw[w]
 refine U5 (B8Y ae.p2 ck fun s' h3 aj=>⟨s',rfl,?_⟩)
 refine⟨_,rfl,?_⟩
 (try dsimp only);rw[U0,U2]
 refine W5 aj.p2 (by simp) rfl fun h4 ak=>?_
 refine hq h4 (A0h.2 ⟨pb,s',wt,?_⟩)
 rw[B7W ag.nd hf] at ak
 exact ak.re [0,2,1,3]
theorem C3L{b:Nat}{o:Z8}{p:Pk}(hs:sat h (A0i b o::R))(ag:W9 o){Q:Value→Heap→Prop}
  (hq:∀S h',sat h' (A0i b (A0S o p.1 p.2.2.2.2.1 p.2.2.2.2.2.2.2.1).1.1::o6 .u8 S (A0S o p.1 p.2.2.2.2.1 p.2.2.2.2.2.2.2.1).1.2::R)→Q (.tuple #[.slice S.a S.len S.cap,.int .u8 (A0S o p.1 p.2.2.2.2.1 p.2.2.2.2.2.2.2.1).2]) h'):
  V2 prog 108 #[at0 b,A2p .u8 p] h Q:=by
 refine A5i (some ⟨b,0,none⟩) p h Q ?_
 delta A4t az bn cc ci cx ie ix ji ju kb kc ki nn nw pu sx ve vi vs vz
 refine V4 hs fun cb h1 bx=>?_
 have aa:sat h1 (cells cb (W7 .u8 p).toArray::A0i b o::R):=bx
 clear bx hs
 have k0:∀{h':Heap} {R':List Asn},sat h' (cells cb (W7 .u8 p).toArray::R')→V9 h' ⟨cb,0,none⟩=some (.int .i64 p.1):=fun hs=>hs.cell 0
 have k4:∀{h':Heap} {R':List Asn},sat h' (cells cb (W7 .u8 p).toArray::R')→V9 h' ⟨cb,4,none⟩=some (.int .i64 p.2.2.2.2.1):=fun hs=>hs.cell 4
 have k7:∀{h':Heap} {R':List Asn},sat h' (cells cb (W7 .u8 p).toArray::R')→V9 h' ⟨cb,7,none⟩=some (.int .u8 p.2.2.2.2.2.2.2.1):=fun hs=>hs.cell 7
 have g4:(W7 .u8 p).toArray[4]? =some (.int .i64 p.2.2.2.2.1):=rfl
 generalize hk:p.1=k at*
 generalize hid:p.2.2.2.2.1=id at*
 generalize oO:p.2.2.2.2.2.2.2.1=c at*
 generalize(W7 .u8 p).toArray=cs at*
 have stay:∀{cc:Int} {h':Heap},sat h' (cells cb cs::A0i b o::R)→A0S o k id c=((o,[]),cc)→Q (.tuple #[.slice none 0 0,.int .u8 cc]) h':=fun{cc h'} hs he=>by
  have:=hq ⟨none,0,0⟩ h'
  rw[he] at this
  exact this ((A1M hs.drop).p1)
 (try dsimp only);rw[U6,if_neg (by simp)]
 refine cut (fun x h'=>h'=h1∧x.1=decide (o.on=false∨(k≠4∧k≠5∧k≠7))) ?_ ?_
 ·intro K hK
  obtain⟨pb,fl,wt,ae⟩:=A0h.1 aa.p1
  refine⟨_,rfl,o.on,by rw[U2];exact ae.cell 2,?_⟩
  (try dsimp only);rw[U6]
  cases aP:o.on with
  |false=>rw[if_pos (by rfl)];exact hK _ _ ⟨rfl,by simp[aP]⟩
  |true=>
   rw[if_neg (by simp)]
   refine⟨k,by rw[U2];exact k0 aa,?_⟩
   (try dsimp only);rw[U6]
   by_cases h4:k=4
   ·rw[if_neg (by simp[h4])];exact hK _ _ ⟨rfl,by simp[h4,aP]⟩
   ·rw[if_pos (by simp[h4])]
    refine⟨k,by rw[U2];exact k0 aa,?_⟩
    (try dsimp only);rw[U6]
    by_cases h5:k=5
    ·rw[if_neg (by simp[h5])];exact hK _ _ ⟨rfl,by simp[h5,aP]⟩
    ·rw[if_pos (by simp[h5])]
     refine⟨k,by rw[U2];exact k0 aa,hK _ _ ⟨rfl,?_⟩⟩
     by_cases h7:k=7<;>simp[h4,h5,h7,aP]
 rintro⟨x,⟨⟩⟩ h2 ⟨rfl,hx⟩
 simp only at hx
 subst hx
 (try dsimp only);rw[U6]
 by_cases al:o.on=false∨(k≠4∧k≠5∧k≠7)
 ·rw[if_pos (by simpa using al)]
  exact stay aa (by unfold A0S;rw[if_pos al])
 rw[if_neg (by simpa using al)]
 obtain⟨pb,fl,wt,ae⟩:=A0h.1 aa.p1
 refine⟨_,rfl,fl,by rw[U2];exact ae.cell 3,?_⟩
 have ij:=ag.f64
 refine U5 (C3W (ae.re [4,2,0,1,3]) (by omega) g4 (fun ax h3 aj=>⟨_,rfl,?_⟩) (fun i f hf he h3 bo=>⟨_,rfl,?_⟩))
 ·(try dsimp only);rw[U6,if_pos (by decide)]
  refine stay (sat.p1 (A0h.2 ⟨pb,fl,wt,aj.re [2,3,1,4,0]⟩)) ?_
  unfold A0S
  rw[if_neg al,B7V ax]
 have aj:sat h3 (cells b #[at0 pb,.int .i64 o.most,.bool o.on,.slice fl.a fl.len fl.cap,.slice wt.a wt.len wt.cap]::cells cb cs::A1k pb o.aU::U4 A0I 7 fl o.aG::U4 Z4 5 wt o.waiting::R):=bo.re [2,0,3,1,4]
 clear bo
 have bS:sat h3 (cells cb cs::A0i b o::R):=sat.p1 (A0h.2 ⟨pb,fl,wt,aj.re [0,2,3,4,1]⟩)
 have gK:=C0s ag.nd hf he
 have oK:=F1 hf
 have aJ:A0S o k id c=(if k=4 then(if f.2.1.2.2.1≠1 then((o,[]),130) else(Y7 (A3a o id),0))
   else if k=5 then
    (if f.2.1.2.2.1≠2∨(128≤c∧f.2.2=true) then((o,[]),130)
    else if 128≤c then(Y7 (A3a o id),0)
    else(((Y7 (B2o o id)).1,Z7 6 id 0::(Y7 (B2o o id)).2),0))
   else(if f.2.2=false then((o,[]),130) else(Y7 (A3a o id),0))):=by
  unfold A0S
  rw[if_neg al,gK]
 (try dsimp only);rw[U6,if_neg (by simp)]
 refine⟨_,rfl,fl,by rw[U2];exact aj.cell 3,?_⟩
 (try dsimp only);rw[U0]
 refine B8T A2C aj.p3 hf fun a ha bH=>?_
 have aq:V9 h3 ((a.add 1).add 2)=some (.int .i64 f.2.1.2.2.1):=by rw[B19];exact ha 3 _ rfl
 have ar:V9 h3 (a.add 6)=some (.bool f.2.2):=ha 6 _ rfl
 refine⟨k,by rw[U2];exact k0 aj.p1,?_⟩
 refine cut (fun z h'=>match z with
  |.inl x=>∃(o':Z8) (os:List PkO),W9 o'∧os.length≤10∧A0S o k id c=(((Y7 o').1,os++(Y7 o').2),0)∧sat h' (A0i b o'::o6 .u8 x.1 os::R)
  |.inr y=>y.1=⟨none,0,0⟩∧A0S o k id c=((o,[]),y.2.1)∧sat h' (cells cb cs::A0i b o::R)) ?_ ?_
 ·intro K hK
  have bad:A0S o k id c=((o,[]),130)→K (.inr (⟨none,0,0⟩,130,())) h3:=fun e=>hK _ _ ⟨rfl,e,bS⟩
  have bQ:∀{K2:p8 []→Heap→Prop},(∀h',sat h' (A0i b (A3a o id)::o6 .u8 ⟨none,0,0⟩ []::R)→K2 () h')→V2 prog 163 #[.pointer (some ⟨b,0,none⟩),.int .i64 i] h3 (p8.un [] K2):=fun bd=>
   C1x bS.p1 ag hf fun h' af=>⟨(),rfl,bd h' (by rw[he] at af;exact(A1M af.p1.drop).p1)⟩
  have sZ:=ag.over id
  (try dsimp only);rw[U6]
  by_cases h4:k=4
  ·rw[if_pos (by simp[h4])]
   rw[if_pos h4] at aJ
   refine⟨_,rfl,f.2.1.2.2.1,aq,?_⟩
   (try dsimp only);rw[U6]
   by_cases ja:f.2.1.2.2.1=1
   ·rw[if_neg (by simp[ja])]
    rw[if_neg (by simp[ja])] at aJ
    refine u6 (bQ fun h' af=>?_)
    exact hK _ _ ⟨A3a o id,[],sZ,by simp,aJ,af⟩
   ·rw[if_pos (by simp[ja])]
    rw[if_pos ja] at aJ
    exact bad aJ
  rw[if_neg (by simp[h4])]
  rw[if_neg h4] at aJ
  refine cut (fun z h'=>match z with
   |.inl x=>∃(o':Z8) (os:List PkO),W9 o'∧os.length≤10∧A0S o k id c=(((Y7 o').1,os++(Y7 o').2),0)∧sat h' (A0i b o'::o6 .u8 x.1 os::R)
   |.inr (.inl x)=>False
   |.inr (.inr y)=>y.1=⟨none,0,0⟩∧A0S o k id c=((o,[]),y.2.1)∧sat h' (cells cb cs::A0i b o::R)) ?_ ?_
  ·intro K2 bd
   have bad:A0S o k id c=((o,[]),130)→K2 (.inr (.inr (⟨none,0,0⟩,130,()))) h3:=fun e=>bd _ _ ⟨rfl,e,bS⟩
   (try dsimp only);rw[U6]
   by_cases h5:k=5
   ·rw[if_pos (by simp[h5])]
    rw[if_pos h5] at aJ
    refine⟨_,rfl,f.2.1.2.2.1,aq,?_⟩
    refine cut (fun z h'=>h'=h3∧z.1=decide (f.2.1.2.2.1≠2∨(128≤c∧f.2.2=true))) ?_ ?_
    ·intro K3 lK
     (try dsimp only);rw[U6]
     by_cases fa:f.2.1.2.2.1=2
     ·rw[if_neg (by simp[fa])]
      refine cut (fun z h'=>h'=h3∧z.1=decide (128≤c∧f.2.2=true)) ?_ ?_
      ·intro K4 gO
       refine⟨c,by rw[U2];exact k7 aj.p1,?_⟩
       (try dsimp only);rw[U6]
       by_cases fw:128≤c
       ·rw[if_pos (by simpa using fw)]
        refine⟨_,rfl,f.2.2,ar,gO _ _ ⟨rfl,?_⟩⟩
        simp[fw]
       ·rw[if_neg (by simpa using fw)]
        exact gO _ _ ⟨rfl,by simp[fw]⟩
      rintro⟨z,⟨⟩⟩ h4 ⟨rfl,hz⟩
      simp only at hz
      refine lK _ _ ⟨rfl,?_⟩
      simp only[hz]
      simp[fa]
     ·rw[if_pos (by simp[fa])]
      exact lK _ _ ⟨rfl,by simp[fa]⟩
    rintro⟨z,⟨⟩⟩ h4 ⟨rfl,hz⟩
    simp only at hz
    subst hz
    (try dsimp only);rw[U6]
    by_cases dw:f.2.1.2.2.1≠2∨(128≤c∧f.2.2=true)
    ·rw[if_pos (decide_eq_true dw)]
     rw[if_pos dw] at aJ
     exact bad aJ
    rw[if_neg (by rw[decide_eq_true_eq];exact dw)]
    rw[if_neg dw] at aJ
    refine⟨c,by rw[U2];exact k7 aj.p1,?_⟩
    refine cut (fun z h'=>∃(o':Z8) (os:List PkO),W9 o'∧os.length≤10∧A0S o k id c=(((Y7 o').1,os++(Y7 o').2),0)∧sat h' (A0i b o'::o6 .u8 z.1 os::R)) ?_ ?_
    ·intro K3 lK
     (try dsimp only);rw[U6]
     by_cases fw:128≤c
     ·rw[if_pos (by simpa using fw)]
      rw[if_pos fw] at aJ
      refine u6 (bQ fun h' af=>?_)
      exact lK _ _ ⟨A3a o id,[],sZ,by simp,aJ,af⟩
     ·rw[if_neg (by simpa using fw)]
      rw[if_neg fw] at aJ
      refine⟨_,rfl,?_⟩
      (try dsimp only);rw[U0]
      refine bH 6 (.bool true) (f.1,f.2.1,true) _ (by decide) rfl rfl fun h5 ai=>?_
      rw[C2x ag.nd hf,he] at ai
      have ay:sat h5 (cells cb cs::A0i b (B2o o id)::R):=sat.p1 (A0h.2 ⟨pb,fl,wt,ai.re [1,3,0,4,2]⟩)
      refine⟨id,by rw[U2];exact k4 ay,?_⟩
      have aL:=A1M (k:=.u8) (A28 (k:=.u8) (o:=Z7 6 id 0) rfl rfl ay)
      refine A40 (t:=(⟨none,0,0⟩,⟨none,0,0⟩,Z7 6 id 0)) aL rfl (by decide) (by decide) fun s' h6 bu=>?_
      have fa:f.2.1.2.2.1=2:=Classical.not_not.1 fun e=>dw (.inl e)
      have hrel:W9 (B2o o id):=ag.rel fun g hg e=>by rw[ag.one hg oK (e.trans he.symm)];exact fa
      exact lK _ _ ⟨B2o o id,[Z7 6 id 0],hrel,by simp,aJ,bu.p1.drop.re [1,0]⟩
    rintro⟨z,⟨⟩⟩ h4 ⟨o',os,g1,g2,g3,g4⟩
    exact bd _ _ ⟨o',os,g1,g2,g3,g4⟩
   ·rw[if_neg (by simp[h5])]
    rw[if_neg h5] at aJ
    refine⟨_,rfl,f.2.2,ar,?_⟩
    (try dsimp only);rw[U6]
    cases hr:f.2.2 with
    |false=>
     rw[if_pos (by rfl)]
     rw[if_pos hr] at aJ
     exact bad aJ
    |true=>
     rw[if_neg (by simp)]
     rw[if_neg (by simp[hr])] at aJ
     refine u6 (bQ fun h' af=>?_)
     exact bd _ _ ⟨A3a o id,[],sZ,by simp,aJ,af⟩
  rintro z h4 hz
  match z,hz with
  |.inl (x,()),hz=>exact hK _ _ hz
  |.inr (.inr (y1,y2,())),hz=>exact hK _ _ hz
 rintro z h4 hz
 match z,hz with
 |.inl (x,()),⟨o',os,g1,g2,g3,g4⟩=>
  refine U5 (B2X g4 g1 (by omega) fun h7 S ay=>⟨S,rfl,?_⟩)
  have:=hq S h7
  rw[g3] at this
  exact this ay
 |.inr (y1,y2,()),⟨g1,g2,g3⟩=>
  simp only at g1 g2
  subst g1
  exact stay g3 g2
end
section
open Go.H Go.Proofs
variable {h h0:Heap} {L L' L1 L2 L3 R:List Asn} {Q:Value→Heap→Prop}
theorem B4y{b:Nat}{o:Z8}{m:MsT}(ag:W9 o)(hq:∀S:Slc,At (A0i b (Y1 o m).1.1::o6 .u8 S (Y1 o m).1.2::L1) (Q (.tuple #[.slice S.a S.len S.cap,.int .u8 (Y1 o m).2])))(hx:Has L (A0i b o) L1:=by repeat first|with_reducible exact U9|apply V1):
  FW prog 81 #[at0 b,vMs m] L Q:=fun h hs=>C1v (hx.s hs) ag fun S h' af=>hq S h' af
theorem C45{b:Nat}{o:Z8}{most:Int}(ag:W9 o)(hq:∀S:Slc,At (A0i b (A0g o most).1::o6 .u8 S (A0g o most).2::L1) (Q (.slice S.a S.len S.cap)))(hx:Has L (A0i b o) L1:=by repeat first|with_reducible exact U9|apply V1):
  FW prog 73 #[at0 b,.int .i64 most] L Q:=fun h hs=>B9Y (hx.s hs) ag fun S h' af=>hq S h' af
theorem C7y{b:Nat}{o:Z8}{p:Pk}(ag:W9 o)(hq:∀S:Slc,At (A0i b (A0S o p.1 p.2.2.2.2.1 p.2.2.2.2.2.2.2.1).1.1::o6 .u8 S (A0S o p.1 p.2.2.2.2.1 p.2.2.2.2.2.2.2.1).1.2::L1) (Q (.tuple #[.slice S.a S.len S.cap,.int .u8 (A0S o p.1 p.2.2.2.2.1 p.2.2.2.2.2.2.2.1).2])))
  (hx:Has L (A0i b o) L1:=by repeat first|with_reducible exact U9|apply V1):FW prog 108 #[at0 b,A2p .u8 p] L Q:=fun h hs=>C3L (hx.s hs) ag fun S h' af=>hq S h' af
theorem C5l{f:Nat}{s:r8}{p:Pk}{why:Int}(hq:∀S:Slc,At (A0d f ⟨s.most,s.taken,(k9 s p.1 p.2.2.2.1 p.2.2.2.2.1 why).2.2.2⟩::o6 .u8 S (A3P (k9 s p.1 p.2.2.2.1 p.2.2.2.2.1 why).2.1 p.2.2.2.2.1)::L1)
   (Q (.tuple #[.bool (k9 s p.1 p.2.2.2.1 p.2.2.2.2.1 why).1,.slice S.a S.len S.cap,.int .u8 (k9 s p.1 p.2.2.2.1 p.2.2.2.2.1 why).2.2.1])))(hx:Has L (A0d f s) L1:=by repeat first|with_reducible exact U9|apply V1):
  FW prog 107 #[at0 f,A2p .u8 p,.int .u8 why] L Q:=fun h hs=>by
 refine B8S (hx.s hs) (fun hn h' af=>?_) (fun k c hy b h' af=>?_)
 ·have:=hq ⟨none,0,0⟩
  rw[hn] at this
  exact this h' (A1M af).p1
 ·have:=hq ⟨some ⟨b,0,none⟩,1,1⟩
  rw[hy] at this
  refine this h' ?_
  have h1:sat h' (U4 (W7 .u8) 26 ⟨some ⟨b,0,none⟩,1,1⟩ [pkF (⟨none,0,0⟩,⟨none,0,0⟩,Z7 k p.2.2.2.2.1 c)]::A0d f ⟨s.most,s.taken,(k9 s p.1 p.2.2.2.1 p.2.2.2.2.1 why).2.2.2⟩::L1):=
   A1A (o:=0) ⟨rfl,D6 _,rfl,by simp,by rfl⟩ af
  have h2:sat h' (o6 .u8 ⟨some ⟨b,0,none⟩,1,1⟩ [Z7 k p.2.2.2.2.1 c]::A0d f ⟨s.most,s.taken,(k9 s p.1 p.2.2.2.1 p.2.2.2.2.1 why).2.2.2⟩::L1):=
   A7a.2 ⟨[(⟨none,0,0⟩,⟨none,0,0⟩,Z7 k p.2.2.2.2.1 c)],rfl,(A3O.2 (A28 (o:=Z7 k p.2.2.2.2.1 c) rfl rfl h1)).p1⟩
  exact h2.p1
theorem C2w{b:Nat}{last:Int}{A:List V7}(hs:sat h (A1e b last A::R)):(A.map (·.id)).Nodup:=by
 obtain⟨X,rfl,h1⟩:=y5.1 hs
 obtain⟨m,h2⟩:=p9.1 h1
 have:=h2.p1.bN
 rw[F0] at this
 rw[F0]
 exact this
def A94(b:Nat)(last:Int)(A:List V7)(s:V7)(ob ib:Nat):Asn:=exA fun x:List (Nat×V7)×List (Nat×V7)×Nat×Nat=>A0L [pr ((x.1++(x.2.2.1,s)::x.2.1).map (·.2)=A),
 cells x.2.2.1 (B8n s ob ib),cells b #[.int .i64 last,.map (some x.2.2.2)],mapA eKI eVP x.2.2.2 ((x.1++(x.2.2.1,s)::x.2.1).map o5),a7 (fun p=>A3z p.1 p.2) (x.1++x.2.1)]
theorem B0Q{b:Nat}{last:Int}{A:List V7}{s:V7}{ob ib:Nat}:sat h (A94 b last A s ob ib::R)↔∃(l1 l2:List (Nat×V7)) (nb m:Nat),(l1++(nb,s)::l2).map (·.2)=A∧
  sat h (cells nb (B8n s ob ib)::cells b #[.int .i64 last,.map (some m)]::mapA eKI eVP m ((l1++(nb,s)::l2).map o5)::a7 (fun p=>A3z p.1 p.2) (l1++l2)::R):=by
 unfold A94
 rw[sat.bA]
 simp only[sat.bV,G4,F2,sat.bC]
 exact⟨fun⟨x,hh⟩=>⟨x.1,x.2.1,x.2.2.1,x.2.2.2,hh⟩,fun⟨a,b,c,d,hh⟩=>⟨(a,b,c,d),hh⟩⟩
theorem A6j{b:Nat}{last:Int}{A:List V7}{s:V7}(hm:s∈A):∀h R,sat h (A1e b last A::R)→∃ob ib:Nat,sat h (A0i ob s.out::A0d ib s.aZ::A94 b last A s ob ib::R):=by
 intro h R hs
 obtain⟨X,rfl,h1⟩:=y5.1 hs
 obtain⟨⟨nb,s'⟩,hp,rfl⟩:=E4.1 hm
 obtain⟨l1,l2,rfl⟩:=G7 hp
 obtain⟨m,ob,ib,h2⟩:=B9s h1
 refine⟨ob,ib,?_⟩
 have h3:sat h (A94 b last ((l1++(nb,s')::l2).map (·.2)) s' ob ib::A0i ob s'.out::A0d ib s'.aZ::R):=B0Q.2 ⟨l1,l2,nb,m,rfl,h2.re [2,3,4,5,0,1]⟩
 exact h3.re [1,2,0]
theorem A8o{l1 l2:List V7}{s:V7}{f:V7→V7}(hn:((l1++s::l2).map (·.id)).Nodup):X8 s.id f (l1++s::l2)=l1++f s::l2:=by
 unfold X8
 rw[B8,B6,G0] at hn
 have e1:l1.map (fun x=>if x.id=s.id then f x else x)=l1:=by
  have:l1.map (fun x=>if x.id=s.id then f x else x)=l1.map id:=H9 fun x hx=>if_neg (hn.2.2 _ (B3 hx) _ (B5 ..))
  rw[this,T4]
 have e2:l2.map (fun x=>if x.id=s.id then f x else x)=l2:=by
  have:l2.map (fun x=>if x.id=s.id then f x else x)=l2.map id:=H9 fun x hx=>by
   rw[if_neg (fun e:x.id=s.id=>(F7.1 hn.2.1).1 (e▸B3 (f:=(·.id)) hx))];rfl
  rw[this,T4]
 rw[B8,B6,e1,e2,if_pos rfl]
theorem B4L{b ob ib:Nat}{last:Int}{A:List V7}{s:V7}{o:Z8}{i:r8}:∀h,sat h (A0i ob o::A0d ib i::A94 b last A s ob ib::R)→sat h (A1e b last (X8 s.id (fun x=>{x with out:=o,aZ:=i}) A)::R):=by
 intro h hs
 obtain⟨l1,l2,nb,m,rfl,h1⟩:=B0Q.1 (hs.re [2,0,1])
 have au:(((l1++(nb,s)::l2).map (·.2)).map (·.id)).Nodup:=by
  have:=(h1.re [2,0,1]).bN
  rw[F0] at this
  rw[F0]
  exact this
 rw[B8,B6] at au
 rw[B8,B6]
 have e0:=A8o (f:=fun x=>{x with out:=o,aZ:=i}) au
 rw[e0]
 refine y5.2 ⟨l1++(nb,{s with out:=o,aZ:=i})::l2,by simp,p9.2 ⟨m,?_⟩⟩
 have e:(l1++(nb,{s with out:=o,aZ:=i})::l2).map o5=(l1++(nb,s)::l2).map o5:=by simp[o5]
 rw[e]
 have h2:sat h (A3z nb {s with out:=o,aZ:=i}::a7 (fun p=>A3z p.1 p.2) (l1++l2)::cells b #[.int .i64 last,.map (some m)]::mapA eKI eVP m ((l1++(nb,s)::l2).map o5)::R):=
  A1F.2 ⟨ob,ib,h1.re [0,4,5,3,1,2]⟩
 have h3:sat h (a7 (fun p=>A3z p.1 p.2) (l1++(nb,{s with out:=o,aZ:=i})::l2)::cells b #[.int .i64 last,.map (some m)]::mapA eKI eVP m ((l1++(nb,s)::l2).map o5)::R):=j2.2 h2
 exact h3.re [1,2,0]
theorem C80{b ob ib:Nat}{last:Int}{A:List V7}{s:V7}(hq:At (A0i ob s.out::A0d ib s.aZ::A94 b last A s ob ib::L3) (Q (at0 ob)))(hx:Has L (A0i ob s.out) L1:=by repeat first|with_reducible exact U9|apply V1)(hy:Has L1 (A0d ib s.aZ) L2:=by repeat first|with_reducible exact U9|apply V1)(hz:Has L2 (A94 b last A s ob ib) L3:=by repeat first|with_reducible exact U9|apply V1):
  FW prog 56 #[at0 b,.int .i64 s.id] L Q:=fun h hs=>by
 have h1:=(hx.cV hy hz).s hs
 have h2:=hq h h1
 obtain⟨l1,l2,nb,m,rfl,h3⟩:=B0Q.1 (h1.re [2,0,1])
 exact C54 (p:=(nb,s)) (o:=s.out) rfl (h3.re [4,5,0,1,2,3]) h2
theorem C9q{b ob ib:Nat}{last:Int}{A:List V7}{s:V7}(hq:At (A0i ob s.out::A0d ib s.aZ::A94 b last A s ob ib::L3) (Q (at0 ib)))(hx:Has L (A0i ob s.out) L1:=by repeat first|with_reducible exact U9|apply V1)(hy:Has L1 (A0d ib s.aZ) L2:=by repeat first|with_reducible exact U9|apply V1)(hz:Has L2 (A94 b last A s ob ib) L3:=by repeat first|with_reducible exact U9|apply V1):
  FW prog 106 #[at0 b,.int .i64 s.id] L Q:=fun h hs=>by
 have h1:=(hx.cV hy hz).s hs
 have h2:=hq h h1
 obtain⟨l1,l2,nb,m,rfl,h3⟩:=B0Q.1 (h1.re [2,0,1])
 exact C6W (p:=(nb,s)) (o:=s.out) rfl (h3.re [4,5,0,1,2,3]) h2
theorem C3Z{k:Int}{A:List V7}{s:V7}(h:A4E k A=some s):s∈A∧s.id=k:=⟨G9 h,by simpa using L9 h⟩
theorem C30{k:Int}{A:List V7}(h:A4E k A=none):∀s∈A,s.id≠k:=fun s hs=>by simpa using E3.1 h s hs
theorem C3Y{k:Int}{A:List V7}{s t:V7}(hn:(A.map (·.id)).Nodup)(h:A4E k A=some s)(ht:t∈A)(hk:t.id=k):t=s:=by
 obtain⟨h1,h2⟩:=C3Z h
 obtain⟨l1,l2,rfl⟩:=G7 h1
 rw[B8,B6,G0] at hn
 rcases C7.1 ht with hm|hm
 ·exact absurd (hk.trans h2.symm) (hn.2.2 _ (B3 hm) _ (B5 ..))
 ·rcases D7.1 hm with rfl|hm
  ·rfl
  ·exact absurd (B3 (f:=(·.id)) hm) (by rw[hk,←h2];exact(F7.1 hn.2.1).1)
theorem B5P{l1 l2:List V7}{s:V7}(hn:((l1++s::l2).map (·.id)).Nodup):(l1++s::l2).filter (fun x=>decide (x.id≠s.id))=l1++l2:=by
 rw[B8,B6,G0] at hn
 rw[E9,F8 (by simp)]
 have e1:l1.filter (fun x=>decide (x.id≠s.id))=l1:=H0.2 fun x hx=>by
  have:=hn.2.2 _ (B3 (f:=(·.id)) hx) _ (B5 ..)
  simpa using this
 have e2:l2.filter (fun x=>decide (x.id≠s.id))=l2:=H0.2 fun x hx=>by
  have:x.id≠s.id:=fun e=>(F7.1 hn.2.1).1 (e▸B3 (f:=(·.id)) hx)
  simpa using this
 rw[e1,e2]
theorem C7n{b:Nat}{last:Int}{A:List V7}{k:Int}(hq:At (A1e b last (A4F k A).2::L1) (Q (.bool (A4F k A).1)))(hx:Has L (A1e b last A) L1:=by repeat first|with_reducible exact U9|apply V1):FW prog 95 #[at0 b,.int .i64 k] L Q:=fun h hs=>by
 have h1:=hx.s hs
 have au:=C2w h1
 obtain⟨X,rfl,h2⟩:=y5.1 h1
 unfold A4F at hq
 have none_of:(∀p∈X,p.2.id≠k)→A4E k (X.map (·.2))=none:=fun ax=>E3.2 fun s hs=>by
  obtain⟨p,hp,rfl⟩:=E4.1 hs
  simpa using ax p hp
 have some_of:∀p∈X,p.2.id=k→A4E k (X.map (·.2))=some p.2:=fun p hp hk=>by
  cases hg:A4E k (X.map (·.2)) with
  |none=>exact absurd hk (C30 hg p.2 (B3 hp))
  |some s=>rw[C3Y au hg (B3 hp) hk]
 refine C58 h2 (fun ax=>?_) (fun p hp hk dF=>?_) (fun l1 p l2 he hk aP er h' af=>?_) (fun l1 p l2 he hk aP er h' af=>?_)
 ·rw[none_of ax] at hq
  exact hq h h1
 ·rw[some_of p hp hk] at hq
  simp only[dF,if_true] at hq
  exact hq h h1
 ·subst he
  rw[some_of p (by simp) hk] at hq
  simp only[aP,er,if_true,if_neg (show ¬(true=false) by decide)] at hq
  refine hq h' (y5.2 ⟨_,?_,af⟩)
  subst hk
  rw[B8,B6,B8,B6]
  rw[B8,B6] at au
  rw[A8o au]
  rfl
 ·subst he
  rw[some_of p (by simp) hk] at hq
  simp only[aP,er,if_neg (show ¬(true=false) by decide),if_neg (show ¬(false=true) by decide)] at hq
  refine hq h' (y5.2 ⟨_,?_,af⟩)
  subst hk
  rw[B8,B8,B6]
  rw[B8,B6] at au
  rw[B5P au]
end
section
open Go.H Go.Proofs
variable {h h0:Heap} {L L' L1 L2 L3 R:List Asn} {Q:Value→Heap→Prop}
instance:Enc Z9 3:=⟨A0J,A3S,by decide⟩
instance:Enc z6 3:=⟨A3M,A7B,by decide⟩
instance:Enc B4p 4:=⟨C5A,C22,by decide⟩
instance:Enc eS 1:=⟨A1C,B4C,by decide⟩
theorem B1v{c:B3O}{A:List V7}{s:V7}(h:ofS c A=some s):s∈A∧s.aC=c:=⟨G9 h,by simpa using L9 h⟩
theorem C44{c:B3O}{A:List V7}(h:ofS c A=none):∀s∈A,s.aC≠c:=fun s hs=>by simpa using E3.1 h s hs
theorem A81{α β:Type}{f:α→β}{A:List α}(hn:(A.map f).Nodup){s t:α}(hs:s∈A)(ht:t∈A)(e:f s=f t):s=t:=by
 obtain⟨l1,l2,rfl⟩:=G7 hs
 rw[B8,B6,G0] at hn
 rcases C7.1 ht with hm|hm
 ·exact absurd e.symm (hn.2.2 _ (B3 hm) _ (B5 ..))
 ·rcases D7.1 hm with rfl|hm
  ·rfl
  ·exact absurd (B3 (f:=f) hm) (by rw[←e];exact(F7.1 hn.2.1).1)
theorem B1u{c:B3O}{A:List V7}{s:V7}(hn:(A.map (·.aC)).Nodup)(hs:s∈A)(hc:s.aC=c):ofS c A=some s:=by
 cases hg:ofS c A with
 |none=>exact absurd hc (C44 hg s hs)
 |some t=>
  obtain⟨h1,h2⟩:=B1v hg
  rw[A81 (f:=(·.aC)) hn h1 hs (h2.trans hc.symm)]
theorem C2A{b:Nat}{last:Int}{A:List V7}{c:B3O}(hn:(A.map (·.aC)).Nodup)(hq:At (A1e b last A::L1) (Q (B7L ((ofS c A).map u5))))(hx:Has L (A1e b last A) L1:=by repeat first|with_reducible exact U9|apply V1):
  FW prog 55 #[at0 b,.string c] L Q:=fun h hs=>by
 obtain⟨X,rfl,h1⟩:=y5.1 (hx.s hs)
 refine C4s h1 (fun ax h' af=>?_) (fun p hp hc h' af=>?_)
 ·have e:ofS c (X.map (·.2))=none:=E3.2 fun s hs=>by
   obtain⟨p,hp,rfl⟩:=E4.1 hs
   simpa using ax p hp
  rw[e] at hq
  exact hq h' (y5.2 ⟨X,rfl,af⟩)
 ·rw[B1u hn (B3 hp) hc] at hq
  exact hq h' (y5.2 ⟨X,rfl,af⟩)
def u7(last:Int)(A:List V7)(c:B3O)(clean aN:Bool):(Int×Int×Bool)×Int×List V7:=
 if ¬Z6 c then((133,0,false),last,A)
 else match ofS c A with
  |some s=>if clean=false then((0,s.id,true),last,X8 s.id (fun s=>{s with on:=true,aN:=aN}) A)
   else((0,last+1,false),last+1,A.filter (fun x=>decide (x.id≠s.id))++[A2s (last+1) c aN])
  |none=>if 32≤A.length then((151,0,false),last,A) else((0,last+1,false),last+1,A++[A2s (last+1) c aN])
theorem B9A{b:Nat}{last:Int}{A:List V7}{c:B3O}{clean aN:Bool}(ht:U8 h0)(hsz:c.size≤9223372036854775807)(tp:0≤last)(fc:last<4611686018427387904)(hid:∀s∈A,s.id≤last)(hn:(A.map (·.aC)).Nodup)
  (hq:At (A1e b (u7 last A c clean aN).2.1 (u7 last A c clean aN).2.2::old h0::L2) (Q (.tuple #[.int .i64 (u7 last A c clean aN).1.2.1,.bool (u7 last A c clean aN).1.2.2,.int .u8 (u7 last A c clean aN).1.1])))
  (hx:Has L (A1e b last A) L1:=by repeat first|with_reducible exact U9|apply V1)(hy:Has L1 (old h0) L2:=by repeat first|with_reducible exact U9|apply V1):
  FW prog 69 #[at0 b,.string c,.bool clean,.bool aN] L Q:=fun h hs=>by
 have hg:=(hx.then hy).s hs
 have au:=C2w hg
 obtain⟨X,rfl,h1⟩:=y5.1 hg
 unfold u7 at hq
 have none_of:(∀p∈X,p.2.aC≠c)→ofS c (X.map (·.2))=none:=fun ax=>E3.2 fun s hs=>by
  obtain⟨p,hp,rfl⟩:=E4.1 hs
  simpa using ax p hp
 refine C2u h1 ht hsz tp fc (fun p hp=>hid p.2 (B3 hp)) (fun hb h' af=>?_) (fun lG ax hl h' af=>?_) (fun lG ba l1 p l2 he hc h' af=>?_) (fun lG L0 hL nb h' af=>?_)
 ·rw[if_pos hb] at hq
  exact hq h' (y5.2 ⟨X,rfl,af⟩)
 ·rw[if_neg (by simpa using lG),none_of ax] at hq
  simp only[B9,if_pos hl] at hq
  exact hq h' (y5.2 ⟨X,rfl,af⟩)
 ·subst he
  rw[if_neg (by simpa using lG),B1u hn (s:=p.2) (by simp) hc] at hq
  simp only[ba,if_true] at hq
  refine hq h' (y5.2 ⟨_,?_,af⟩)
  rw[B8,B6,B8,B6]
  rw[B8,B6] at au
  rw[A8o au]
 ·rw[if_neg (by simpa using lG)] at hq
  rcases hL with⟨ax,hl,rfl⟩|⟨ba,l1,p,l2,rfl,hc,rfl⟩
  ·rw[none_of ax] at hq
   simp only[B9,if_neg (show ¬32≤L0.length by omega)] at hq
   exact hq h' (y5.2 ⟨_,by simp,af⟩)
  ·rw[B1u hn (s:=p.2) (by simp) hc] at hq
   simp only[ba,if_neg (show ¬(true=false) by decide)] at hq
   refine hq h' (y5.2 ⟨_,?_,af⟩)
   rw[B8,B6] at au
   have e0:=B5P au
   rw[←B6,←B8] at e0
   rw[e0,B8,B8]
   rfl
theorem C2z{b:Nat}{last:Int}{A:List V7}(fc:last<4611686018427387904)(hid:∀s∈A,0≤s.id∧s.id≤last)(hlen:A.length≤32)(hr:(A.map (·.id)).Pairwise (·< ·))
  (hq:∀S:Slc,At (U4 B4p 4 S (A.map u5)::A1e b last A::L1) (Q (.slice S.a S.len S.cap)))(hx:Has L (A1e b last A) L1:=by repeat first|with_reducible exact U9|apply V1):FW prog 42 #[at0 b] L Q:=fun h hs=>by
 obtain⟨X,rfl,h1⟩:=y5.1 (hx.s hs)
 refine C4q h1 fc (fun p hp=>hid p.2 (B3 hp)) (by simpa using hlen) fun sl xs h' e1 e2 af=>?_
 have e:=C6w (by rw[F0] at hr;exact hr) e1 e2
 subst e
 have:=hq sl h'
 rw[F0] at this
 exact this ((y5.2 ⟨X,rfl,af.p1⟩:sat h' (A1e b last (X.map (·.2))::_)).p1)
theorem C4L(hq:∀b,At (A1e b 0 []::L) (Q (at0 b))):FW prog 27 #[] L Q:=fun h hs=>B9z hs fun b h' af=>hq b h' (y5.2 ⟨[],rfl,af⟩)
theorem C7B(hq:∀b,At (A1l b []::L) (Q (B1m b))):FW prog 29 #[.int .i64 64] L Q:=fun h hs=>B9H hs 64 fun b h' af=>hq b h' (A3J.2 ⟨[],Sto.nil (by decide),af⟩)
theorem C7A{b:Nat}{K:List j6}{m:j6}(ht:TP h0)(hsz:m.1.size≤9223372036854775807)(hq:At (A1l b (B0a 64 K m).2::old h0::L2) (Q (.int .u8 (B0a 64 K m).1)))(hx:Has L (A1l b K) L1:=by repeat first|with_reducible exact U9|apply V1)(hy:Has L1 (old h0) L2:=by repeat first|with_reducible exact U9|apply V1):
  FW prog 79 #[B1m b,vM m] L Q:=fun h hs=>by
 obtain⟨l,hl,h1⟩:=A3J.1 ((hx.then hy).s hs)
 have eX:=hl.set m
 refine C51 h1 ht hsz fun h' af=>?_
 rw[eX.1]
 exact hq h' (A3J.2 ⟨_,eX.2,af⟩)
theorem C5i{b:Nat}{K:List j6}{f:B3O}(ht:TP h0)(hsz:f.size≤9223372036854775807)(hq:∀S:Slc,At (U4 z6 3 S (A51 K f)::A1l b K::old h0::L2) (Q (.slice S.a S.len S.cap)))(hx:Has L (A1l b K) L1:=by repeat first|with_reducible exact U9|apply V1)(hy:Has L1 (old h0) L2:=by repeat first|with_reducible exact U9|apply V1):
  FW prog 110 #[B1m b,.string f] L Q:=fun h hs=>by
 obtain⟨l,hl,h1⟩:=A3J.1 ((hx.then hy).s hs)
 refine C55 h1 ht hsz (hl.lenL (by decide)).1 hl.small fun sl h' af=>?_
 rw[hl.hit f] at af
 exact hq sl h' ((A3J.2 ⟨l,hl,af.p1⟩:sat h' (A1l b K::_)).p1)
theorem C6h(hq:∀b,At (l4 b []::L) (Q (at9 b))):FW prog 28 #[] L Q:=fun h hs=>C3l hs fun b h' af=>hq b h' af
theorem C3h{t:Nat}{E:List Ent}{n:B3O}(ht:TP h0)(hsz:n.size≤9223372036854775807)(hl:E.length≤10000)(hq:∀S:Slc,At (U4 Z9 3 S (E.filter fun x=>Y9 x.2.1 n)::l4 t E::old h0::L2) (Q (.slice S.a S.len S.cap)))(hx:Has L (l4 t E) L1:=by repeat first|with_reducible exact U9|apply V1)(hy:Has L1 (old h0) L2:=by repeat first|with_reducible exact U9|apply V1):
  FW prog 80 #[at9 t,.string n] L Q:=fun h hs=>B9t ht hsz hl ((hx.then hy).s hs) fun S h' af=>hq S h' af
theorem B9q{t:Nat}{E:List Ent}{id:Int}(ht:TP h0)(hl:E.length≤10000)(hq:At (l4 t (A1b id E)::old h0::L2) (Q (.int .i64 ((A5Z id E).length:Nat))))(hx:Has L (l4 t E) L1:=by repeat first|with_reducible exact U9|apply V1)(hy:Has L1 (old h0) L2:=by repeat first|with_reducible exact U9|apply V1):
  FW prog 71 #[at9 t,.int .i64 id] L Q:=fun h hs=>C06 ht hl ((hx.then hy).s hs) fun h' af=>hq h' af
theorem C02{t:Nat}{E:List Ent}{id:Int}{f:B3O}(ht:TP h0)(hsz:f.size≤16777216)(hl:E.length≤10000)(hq:At (l4 t (A1H E id f)::old h0::L2) (Q (.bool (decide ((A1H E id f).length<E.length)))))(hx:Has L (l4 t E) L1:=by repeat first|with_reducible exact U9|apply V1)(hy:Has L1 (old h0) L2:=by repeat first|with_reducible exact U9|apply V1):
  FW prog 111 #[at9 t,.int .i64 id,.string f] L Q:=fun h hs=>B0R ht hsz (by omega) ((hx.then hy).s hs) fun h' af=>hq h' af
theorem C5O{E:List Ent}{i:Nat}{x:Ent}{k:Int×B3O}(ha:Asc E)(hi:E[i]? =some x)(hk:b8 x=k):E.findIdx? (fun x=>decide (b8 x=k))=some i:=by
 rw[J0]
 obtain⟨ah,hx⟩:=D8.1 hi
 refine⟨ah,by simp[hx,hk],fun j hj hc=>?_⟩
 have h1:=List.pairwise_iff_getElem.1 ha j i (by omega) ah hj
 simp only[decide_eq_true_eq] at hc
 rw[hx,hk,hc] at h1
 exact absurd h1 (A9s.eN _)
theorem C6i{t:Nat}{E:List Ent}{id q:Int}{f:B3O}(ht:TP h0)(hsz:f.size≤9223372036854775807)(hl:E.length≤10000)(hq:At (l4 t (A2G E id f q).2::old h0::L2) (Q (.int .u8 (A2G E id f q).1)))(hx:Has L (l4 t E) L1:=by repeat first|with_reducible exact U9|apply V1)(hy:Has L1 (old h0) L2:=by repeat first|with_reducible exact U9|apply V1):
  FW prog 109 #[at9 t,C4w id f q] L Q:=fun h hs=>by
 have h1:=(hx.then hy).s hs
 have bP:=A8W h1
 unfold A2G at hq
 refine C3n ht hsz (by omega) h1 (fun hb h' af=>?_) (fun hb dT h' af=>?_) (fun hb q0 q1 i x hi hk h' af=>?_) (fun hb q0 q1 ax hc h' af=>?_) (fun hb q0 q1 ax hc h' af=>?_)
 ·rw[if_pos hb] at hq;exact hq h' af
 ·rw[if_neg (by simp[hb]),if_pos dT] at hq;exact hq h' af
 ·rw[if_neg (by simp[hb]),if_neg (by omega)] at hq
  have hf:E.findIdx? (fun x=>decide (b8 x=(id,f)))=some i:=C5O bP.2 hi hk
  rw[hf] at hq
  exact hq h' af
 ·rw[if_neg (by simp[hb]),if_neg (by omega),O1.2 (fun x hx=>by simpa using ax x hx)] at hq
  simp only[if_pos hc] at hq
  exact hq h' af
 ·rw[if_neg (by simp[hb]),if_neg (by omega),O1.2 (fun x hx=>by simpa using ax x hx)] at hq
  simp only[if_neg (show ¬64≤A02 E id by omega)] at hq
  exact hq h' af
end
section
open Go.H Go.Proofs
variable {h h0:Heap} {L L' L1 L2 L3 R:List Asn} {Q:Value→Heap→Prop}
def B2l(id:Int)(ps:List PkO)(l:List (Int×Tup tC)):List j5:=(l.filter fun x=>decide (x.2.1=id)).flatMap fun x=>ps.map fun p=>⟨x.1,p,false⟩
theorem B3W{id:Int}{l:List Y3}:(l.map z7).filter (fun x=>decide (x.2.1=id))=(l.filter fun x=>decide (x.aD=id)).map z7:=by
 rw[R6];rfl
theorem C4J{id:Int}{ps:List PkO}{l:List Y3}{done:List (Int×Tup tC)}(hp:done.Perm (l.map z7))(hu:(l.filter fun x=>decide (x.aD=id)).length≤1):B2l id ps done=A1w l id ps:=by
 unfold B2l A1w
 have h1:=hp.filter fun x=>decide (x.2.1=id)
 rw[B3W] at h1
 generalize l.filter (fun x=>decide (x.aD=id))=k at hu h1
 match k,hu with
 |[],_=>rw[List.Perm.eq_nil h1];rfl
 |[x],_=>
  rw[B6,I3,List.perm_singleton] at h1
  rw[h1];rfl
theorem C33{id:Int}{l:List Y3}{done rest:List (Int×Tup tC)}{q:Int×Tup tC}(hp:(done++q::rest).Perm (l.map z7))(hu:(l.filter fun x=>decide (x.aD=id)).length≤1)(hq:q.2.1=id):done.filter (fun x=>decide (x.2.1=id))=[]:=by
 have h1:=(hp.filter fun x=>decide (x.2.1=id)).length_eq
 rw[B3W,B9,E9,G6 (by simpa using hq),B4,B7] at h1
 exact J9.1 (by omega)
def C4T(c:Bool)(A:Asn)(L:List Asn):List Asn:=match c with
 |true=>A::L
 |false=>L
theorem B7g{c:Bool}{A:Asn}{L:List Asn}:Sub (C4T c A L) L:=by
 cases c
 ·exact Sub.rfl
 ·exact Sub.drop Sub.rfl
theorem C7g{t b:Nat}{full:Bool}{os os':List j5}{ps:List MsT}{so sp:Slc}(e:os'=os)(hs:sat h (cells t #[at0 b,.bool full,.slice so.a so.len so.cap,.slice sp.a sp.len sp.cap]::V8 .u8 so os::U4 Z4 5 sp ps::R)):sat h (thA t b full os' ps::R):=by
 subst e;exact A2x.2 ⟨so,sp,hs⟩
theorem C4I{id:Int}{ps:List PkO}{os:List j5}:os++B2l id ps []=os:=C1 _
theorem A3A{t b:Nat}{full:Bool}{T:U7}{id:Int}{S:Slc}{ps:List PkO}(hu:(T.b.aB.filter fun x=>decide (x.aD=id)).length≤1)(hb:T.outs.length+ps.length≤100000000)
  (hq:At (X5 t b full (q7 id ps T)::L2) (Q (.tuple #[])))(hx:Has L (X5 t b full T) L1:=by repeat first|with_reducible exact U9|apply V1)(hy:Has L1 (o6 .u8 S ps) L2:=by repeat first|with_reducible exact U9|apply V1):
  FW prog 72 #[at0 t,.int .i64 id,.slice S.a S.len S.cap] L Q:=by
 refine fun h hs=>A5l (some ⟨t,0,none⟩) id S h Q ((?_:W (X5 t b full T::o6 .u8 S ps::L2) _ _) h ((hx.then hy).s hs))
 clear hs h hx hy
 delta A4u az bn cx A0R ie ix ji km kp nn nw pu sn vi wi
 refine W3 ?_
 refine C2k (fun h R=>A0P.1) ?_
 refine A8U (fun h R=>A2x.1) fun so sp=>?_
 refine W.load (v:=some ⟨b,0,none⟩) ?_
 refine W3 ?_
 refine A2b (fun h R=>A1q.1) fun p=>?_
 refine W.load (v:=some p.cm) ?_
 refine W.range fun it=>?_
 refine B2b (A:=thA t b full (T.outs++B2l id ps []) T.aT) (fun h hs=>C7g C4I hs) ?_
 refine C5X (ek:=eKI) (ev:=eVC) (r:=p.cm) (l:=T.b.aB.map z7) (fun done _=>thA t b full (T.outs++B2l id ps done) T.aT::cells b (A7K p)::A1e p.tb T.b.last T.b.aD::l4 p.sb T.b.aH::A1l p.kb T.b.kept::C4T (done.filter fun x=>decide (x.2.1=id)).isEmpty (o6 .u8 S ps) L2) ?_ (fun done s hp K hd=>?_) (fun done q rest s hp K bp hd=>?_)
 ·show Sub _ (_::thA t b full (T.outs++B2l id ps []) T.aT::cells b (A7K p)::A1e p.tb T.b.last T.b.aD::l4 p.sb T.b.aH::A1l p.kb T.b.kept::o6 .u8 S ps::L2)
  repeat(first|with_reducible exact T5|with_reducible exact T6|refine T7 (by repeat first|with_reducible exact U9|apply V1) ?_|refine T8 ?_)
 ·refine W6 rfl (U1 (hd () _ (U1 ?_)))
  rw[C4J hp hu]
  refine At.eU (A:=A0F b T.b) (fun h hs=>A1q.2 ⟨p,hs⟩) (At.cZ (A:=X5 t b full (q7 id ps T)) (fun h hs=>A0P.2 hs) (At.sub hq (Sub.cons U9 B7g)) (V1 U9) U9)
 ·refine X7 rfl ?_
  refine W.entry (x:=q.1) (y:=q.2) ?_
  refine Y0 fun iu=>?_
  refine A0a ?_
  refine W.load (v:=q.2.1) ?_
  by_cases dT:q.2.1=id
  ·refine A1d (by simpa using dT) ?_
   have dj:=C33 hp hu dT
   have e0:B2l id ps done=[]:=by unfold B2l;rw[dj];rfl
   have hn:=bp ()
   dsimp only at hn⊢
   have e2:(done++[q]).filter (fun x=>decide (x.2.1=id))=[q]:=by rw[E9,dj,G6 (by simpa using dT)];rfl
   have e3:B2l id ps (done++[q])=ps.map fun p=>⟨q.1,p,false⟩:=by unfold B2l;rw[e2];exact C1 _
   rw[e3,e2] at hn
   rw[e0,dj]
   refine B68 (fun h R=>A7a.1) (fun PT ud=>?_) (hx:=(by repeat first|with_reducible exact U9|apply V1:Has (_::_::_::_::_::_::_::o6 .u8 S ps::L2) _ _))
   subst ud
   refine X2 ?_
   refine Y2 (X1 (enc:=W7 .u8) (size:=26) (s:=S) (xs:=PT.map pkF)) fun hl=>?_
   rw[B9] at hl hb
   refine B2a PT.length (fun i s=>s.1=(i:Int)) (fun i _=>thA t b full (T.outs++(PT.take i).map fun z=>⟨q.1,z.2.2,false⟩) T.aT::U4 (W7 .u8) 26 S (PT.map pkF)::a7 (pkB .u8) (PT.drop i)::itA eKI eVC p.cm (T.b.aB.map z7) it (done++[q]) rest::cells b (A7K p)::A1e p.tb T.b.last T.b.aD::l4 p.sb T.b.aH::A1l p.kb T.b.kept::L2) rfl ?_ (fun i s hi hI=>by rw[hI,hl];exact F9.2 (by omega)) (fun s hI K2 iq=>?_) (fun i s ah hI K2 jG iq=>?_)
   ·show Sub _ (thA t b full (T.outs++[]) T.aT::U4 (W7 .u8) 26 S (PT.map pkF)::a7 (pkB .u8) PT::itA eKI eVC p.cm (T.b.aB.map z7) it (done++[q]) rest::cells b (A7K p)::A1e p.tb T.b.last T.b.aD::l4 p.sb T.b.aH::A1l p.kb T.b.kept::L2)
    repeat(first|with_reducible exact T5|with_reducible exact T6|refine T7 (by repeat first|with_reducible exact U9|apply V1) ?_|refine T8 ?_)
   ·refine U1 (iq _ _ (b7 (U1 ?_)))
    have e4:(PT.take PT.length).map (fun z:Slc×Slc×PkO=>(⟨q.1,z.2.2,false⟩:j5))=(PT.map (·.2.2)).map fun p=>⟨q.1,p,false⟩:=by rw[F5,F0];rfl
    rw[e4]
    refine At.sub hn ?_
    show Sub _ (_::_::_::_::_::_::L2)
    repeat(first|with_reducible exact T5|with_reducible exact T6|refine T7 (by repeat first|with_reducible exact U9|apply V1) ?_|refine T8 ?_)
   ·have hi:(PT.map pkF)[i]? =some (pkF PT[i]):=by simp[ah]
    refine e8 (enc:=W7 .u8) (xs:=PT.map pkF) (i:=i) (by simpa using ah) (fun a ha=>?_) (he:=hI)
    refine B3e (x:=pkF PT[i]) (v:=pkF PT[i]) ha hi ?_
    refine Y0 fun rP=>?_
    refine A0a ?_
    refine q8 (v:=pkF PT[i]) ?_
    rw[D9 ah]
    refine C2k (fun h R=>k8.1) ?_
    refine Z1 (C2y (full:=full) (os:=T.outs++(PT.take i).map fun z=>⟨q.1,z.2.2,false⟩) (ps:=T.aT) (b:=b) (o:=PT[i].2.2) (ci:=PT[i].1) (pi:=PT[i].2.1) (by rw[B4,B9,E1];omega) (At.bD ?_))
    have kO:=jG (IntKind.wrap .i64 (s.1+1),()) (by simp only[hI];rw[V5 (by omega) (by omega)];rfl)
    have e4:T.outs++(PT.take (i+1)).map (fun z:Slc×Slc×PkO=>(⟨q.1,z.2.2,false⟩:j5))=(T.outs++(PT.take i).map fun z=>⟨q.1,z.2.2,false⟩)++[⟨q.1,PT[i].2.2,false⟩]:=by
     rw[C3 ah,B8,←D4];rfl
    rw[e4] at kO
    exact U1 kO.sub
  ·refine l7 (by simpa using dT) ?_
   refine b7 (U1 ?_)
   have e5:(done++[q]).filter (fun x=>decide (x.2.1=id))=done.filter (fun x=>decide (x.2.1=id)):=by rw[E9,F8 (by simpa using dT),J4,C1]
   have e6:B2l id ps (done++[q])=B2l id ps done:=by unfold B2l;rw[e5]
   have hn:=bp ()
   rw[e6,e5] at hn
   refine At.sub hn ?_
   repeat(first|with_reducible exact T5|with_reducible exact T6|refine T7 (by repeat first|with_reducible exact U9|apply V1) ?_|refine T8 ?_)
end
section
open Go.H Go.Proofs
variable {h h0:Heap} {L L' L1 L2 L3 R:List Asn} {Q:Value→Heap→Prop}
theorem A99{A:List V7}{s:V7}{k:Int}{f g:V7→V7}(hn:(A.map (·.id)).Nodup)(hm:s∈A)(hk:s.id=k)(e:f s=g s):X8 k f A=X8 k g A:=by
 unfold X8
 refine H9 fun x hx=>?_
 by_cases pC:x.id=k
 ·rw[if_pos pC,if_pos pC,A81 (f:=(·.id)) hn hx hm (pC.trans hk.symm)];exact e
 ·rw[if_neg pC,if_neg pC]
theorem A6i{b ob ib:Nat}{last k:Int}{A:List V7}{s:V7}{o:Z8}(hn:(A.map (·.id)).Nodup)(hm:s∈A)(hk:s.id=k):∀h,sat h (A0i ob o::A0d ib s.aZ::A94 b last A s ob ib::R)→sat h (A1e b last (X8 k (Y6 o) A)::R):=fun h hs=>by
 have h1:=B4L h hs
 rw[hk,A99 (f:=fun x=>{x with out:=o,aZ:=s.aZ}) (g:=Y6 o) hn hm hk rfl] at h1
 exact h1
theorem C4B{b ob ib:Nat}{last k:Int}{A:List V7}{s:V7}{i:r8}(hn:(A.map (·.id)).Nodup)(hm:s∈A)(hk:s.id=k):∀h,sat h (A0i ob s.out::A0d ib i::A94 b last A s ob ib::R)→sat h (A1e b last (X8 k (j3 i) A)::R):=fun h hs=>by
 have h1:=B4L h hs
 rw[hk,A99 (f:=fun x=>{x with out:=s.out,aZ:=i}) (g:=j3 i) hn hm hk rfl] at h1
 exact h1
theorem B3f{b ob ib:Nat}{last k:Int}{A:List V7}{s:V7}(hk:s.id=k)(hq:At (A0i ob s.out::A0d ib s.aZ::A94 b last A s ob ib::L3) (Q (at0 ob)))(hx:Has L (A0i ob s.out) L1:=by repeat first|with_reducible exact U9|apply V1)(hy:Has L1 (A0d ib s.aZ) L2:=by repeat first|with_reducible exact U9|apply V1)(hz:Has L2 (A94 b last A s ob ib) L3:=by repeat first|with_reducible exact U9|apply V1):
  FW prog 56 #[at0 b,.int .i64 k] L Q:=by subst hk;exact C80 hq hx hy hz
theorem C81{b ob ib:Nat}{last k:Int}{A:List V7}{s:V7}(hk:s.id=k)(hq:At (A0i ob s.out::A0d ib s.aZ::A94 b last A s ob ib::L3) (Q (at0 ib)))(hx:Has L (A0i ob s.out) L1:=by repeat first|with_reducible exact U9|apply V1)(hy:Has L1 (A0d ib s.aZ) L2:=by repeat first|with_reducible exact U9|apply V1)(hz:Has L2 (A94 b last A s ob ib) L3:=by repeat first|with_reducible exact U9|apply V1):
  FW prog 106 #[at0 b,.int .i64 k] L Q:=by subst hk;exact C9q hq hx hy hz
theorem C7C{i:Int}{tk rs:List Ent}{e:Ent}{rest:List Ent}(hz:tk++rs=e::rest)(he:e.1=i)(hs:(tk++rs).Pairwise fun a b=>a.1≤b.1)(h1:∀y∈tk,y.1=i)(h2:∀y∈rs.head?,y.1≠i):0<tk.length∧∀y∈rs,i<y.1:=by
 match tk,h1,hz with
 |[],_,hz=>
  rw[F2] at hz
  subst hz
  exact absurd he (h2 e (by simp))
 |y0::tk,h1,hz=>
  refine⟨by simp,?_⟩
  have h0:=h1 y0 (B5 ..)
  rw[G4,I4] at hs
  match rs,h2,hs with
  |[],_,_=>intro y hy;cases hy
  |z::rs,h2,hs=>
   have dv:=hs.1 z (G5 _ (B5 ..))
   have gu:=h2 z (by simp)
   have hp:=(I7.1 hs.2).2.1
   rw[I4] at hp
   intro y hy
   rcases D7.1 hy with rfl|hy
   ·omega
   ·have:=hp.1 y hy;omega
theorem C3Q{tk:List Ent}{y:Ent}:B8J (tk++[y])=max (B8J tk) y.2.2:=by unfold B8J;rw[List.foldl_append];rfl
theorem C5o{t b:Nat}{full:Bool}{T:U7}{m:MsT}(ht:TP h0)(ag:j7 T.b)(hb:T.outs.length≤50000000)(hm:m.1.size≤9223372036854775807)
  (hq:At (X5 t b full (A0A m T)::old h0::L2) (Q (.tuple #[])))(hx:Has L (X5 t b full T) L1:=by repeat first|with_reducible exact U9|apply V1)(hy:Has L1 (old h0) L2:=by repeat first|with_reducible exact U9|apply V1):
  FW prog 43 #[at0 t,vMs m] L Q:=by
 refine fun h hs=>A7J (some ⟨t,0,none⟩) (toU m) h Q ((?_:W (X5 t b full T::old h0::L2) _ _) h ((hx.then hy).s hs))
 clear hs h hx hy
 delta A6R bn cc cp cu cx ie ix jb ji jt ki kp nn nw pu rq ve vi vs
 refine Y0 fun x1=>?_
 refine W.load (v:=m.2.2.2.1) ?_
 refine W.cut (fun _=>X5 t b full (A1X m T)::cells x1 (aS7 (toU m))::old h0::L2) (fun K hK=>?_) (fun _=>?_)
 ·refine A0e (fun hr=>?_) (fun hr=>?_)
  ·have e:A1X m T=B9u (B0a 64 T.b.kept (m.1,m.2.1,m.2.2.1,())).2 T:=if_pos hr
   rw[e] at hK
   refine W3 ?_
   refine A6a (fun h R=>l9) fun so sp p=>?_
   refine W.load (v:=some ⟨b,0,none⟩) ?_
   refine W3 ?_
   refine W.load ?_
   refine W.load (v:=m.1) ?_
   refine W.load (v:=m.2.1) ?_
   refine W.load (v:=m.2.2.1) ?_
   refine b6 (C7A (b:=p.kb) (K:=T.b.kept) (m:=(m.1,m.2.1,m.2.2.1,())) ht hm (At.un (U1 ?_)))
   refine At.bG (B9u (B0a 64 T.b.kept (m.1,m.2.1,m.2.2.1,())).2 T) so sp p ?_
   exact(hK ()).sub
  ·have e:A1X m T=T:=if_neg (by rw[hr];decide)
   rw[e] at hK
   exact U1 (hK ()).sub
 have hk:=B5B (m:=m) ag
 have bY:(A46 none (T.b.aH.filter fun x=>Y9 x.2.1 m.1)).foldl (A1a m (T.b.aH.filter fun x=>Y9 x.2.1 m.1)) (A1X m T)=A0A m T:=rfl
 rw[←hk.aH] at bY
 have hZ:=hk.ok
 have gM:(A1X m T).outs.length≤50000000:=C4 hk.outs hb
 clear hk
 generalize A1X m T=T0 at*
 refine W3 ?_
 refine A6a (fun h R=>l9) fun so sp p=>?_
 refine W.load (v:=some ⟨b,0,none⟩) ?_
 refine W3 ?_
 refine W.load ?_
 refine W.load (v:=m.1) ?_
 refine Y2 (fun h R hs=>(A8W (t:=p.sb) (L:=T0.b.aH) hs).2) fun fx=>?_
 refine b6 (C3h (t:=p.sb) (E:=T0.b.aH) (n:=m.1) ht hm hZ.aH (fun S=>At.un (x:=S) ?_))
 refine W.bG T0 so sp p ?_
 have bg:∀e∈T0.b.aH.filter (fun x=>Y9 x.2.1 m.1),e∈T0.b.aH:=fun e he=>(E7.1 he).1
 have nY:(T0.b.aH.filter fun x=>Y9 x.2.1 m.1).Pairwise fun a b=>a.1≤b.1:=(C76 fx).filter _
 have xI:(T0.b.aH.filter fun x=>Y9 x.2.1 m.1).length≤10000:=C4 (D1 _ _) hZ.aH
 generalize T0.b.aH.filter (fun x=>Y9 x.2.1 m.1)=M at*
 clear fx
 refine W.loop (γ:=List Ent×U7) (fun g s=>(∃done,M=done++g.1∧∀a∈done,∀y∈g.1,a.1<y.1)∧(A46 none g.1).foldl (A1a m M) g.2=A0A m T∧j7 g.2.b∧g.2.b.aH=T0.b.aH∧g.2.outs.length+320*g.1.length≤53200000)
  (fun g s=>X5 t b full g.2::U4 Z9 3 s.1 g.1::cells x1 (aS7 (toU m))::old h0::L2) (fun g=>g.1.length) (M,T0) ⟨⟨[],rfl,by simp⟩,bY,hZ,rfl,by simp only;omega⟩ ?_ ?_
 ·show Sub _ (X5 t b full T0::U4 Z9 3 S M::cells x1 (aS7 (toU m))::old h0::L2)
  repeat(first|with_reducible exact T5|with_reducible exact T6|refine T7 (by repeat first|with_reducible exact U9|apply V1) ?_|refine T8 ?_)
 rintro⟨rest,T1⟩ s ⟨⟨done,qN,gx⟩,fv,aF,iw,fT⟩ K h1 h2
 simp only at qN gx fv aF iw fT
 refine Y2 (X1 (enc:=Z9) (size:=3) (s:=s.1) (xs:=rest)) fun hl=>?_
 cases rest with
 |nil=>
  refine W6 (by rw[hl];rfl) (U1 (h2 _ _ (U1 ?_)))
  have fv:T1=A0A m T:=fv
  rw[fv]
  exact hq.sub
 |cons e rest'=>
  refine X7 (by rw[hl];exact decide_eq_true (by simp only[B7];omega)) ?_
  refine e8 (enc:=Z9) (xs:=e::rest') (i:=0) (by simp) (fun a ha=>?_)
  refine A3Q (k:=0) (x:=e) (v:=e.1) ha rfl ?_
  refine C8d (X:=List Ent×List Ent) (fun z a=>z.1++z.2=e::rest'∧(∀y∈z.1,y.1=e.1)∧(∀y∈z.2.head?,y.1≠e.1)∧a.1=B8J z.1) (fun z a=>X5 t b full T1::U4 Z9 3 a.2.1 z.2::cells x1 (aS7 (toU m))::old h0::L2) (fun K2 bd=>?_) (fun z a hz=>?_)
  ·refine C8W (γ:=List Ent×List Ent) (fun z s=>z.1++z.2=e::rest'∧(∀y∈z.1,y.1=e.1)∧s.1=B8J z.1) (fun z s=>X5 t b full T1::U4 Z9 3 s.2.1 z.2::cells x1 (aS7 (toU m))::old h0::L2) (fun z=>z.2.length) ([],e::rest') ⟨rfl,by simp,rfl⟩ ?_ ?_
   ·show Sub _ (X5 t b full T1::U4 Z9 3 s.1 (e::rest')::cells x1 (aS7 (toU m))::old h0::L2)
    repeat(first|with_reducible exact T5|with_reducible exact T6|refine T7 (by repeat first|with_reducible exact U9|apply V1) ?_|refine T8 ?_)
   rintro⟨tk,rs⟩ s2 ⟨dv,gu,lr⟩ K3 k1 k2
   simp only at dv gu lr
   refine Y2 (X1 (enc:=Z9) (size:=3) (s:=s2.2.1) (xs:=rs)) fun fg=>?_
   cases rs with
   |nil=>exact l7 (by rw[fg];rfl) (b7 (W6 rfl (U1 (k2 _ _ (bd (tk,[]) _ ⟨dv,gu,by simp,lr⟩).sub))))
   |cons y rs'=>
    refine A1d (by rw[fg];exact decide_eq_true (by simp only[B7];omega)) ?_
    refine X2 (e8 (enc:=Z9) (xs:=y::rs') (i:=0) (by simp) (fun a2 dq=>?_))
    refine X2 (A3Q (k:=0) (x:=y) (v:=y.1) dq rfl ?_)
    refine b7 ?_
    by_cases hy:y.1=e.1
    ·refine X7 (by simpa using hy) ?_
     refine e8 (enc:=Z9) (xs:=y::rs') (i:=0) (by simp) (fun a3 iU=>?_)
     refine A3Q (k:=2) (x:=y) (v:=y.2.2) iU rfl ?_
     refine C8V (enc:=Z9) (xs:=y::rs') (lo:=1) (hi:=(y::rs').length) (by simp) (D6 _) (fun s'=>?_) ⟨rfl,by simp⟩ (fun c _ e=>e.symm)
     rw[F5,List.drop_one,List.tail_cons]
     have f1:∀z∈tk++[y],z.1=e.1:=fun z hz=>by
      rcases C7.1 hz with hz|hz
      ·exact gu z hz
      ·rw[C0.1 hz];exact hy
     have f2:(if s2.1<y.2.2 then y.2.2 else s2.1)=B8J (tk++[y]):=by
      rw[C3Q,←lr];split<;>omega
     have f3:tk++[y]++rs'=e::rest':=by rw[D4];exact dv
     exact U1 (k1 (tk++[y],rs') _ (Nat.lt_succ_self _) ⟨f3,f1,f2⟩).sub
    ·have f4:∀z∈(y::rs').head?,z.1≠e.1:=by simpa using hy
     exact W6 (by simpa using hy) (U1 (k2 _ _ (bd (tk,y::rs') _ ⟨dv,gu,f4,lr⟩).sub))
  ·obtain⟨tk,rs⟩:=z
   obtain⟨dv,gu,lr,uq⟩:=hz
   simp only at dv gu lr uq
   have hg:=C7C dv rfl (by rw[dv];rw[qN] at nY;exact(I7.1 nY).2.1) gu lr
   have ft:A2A M e.1=B8J tk:=by
    rw[qN,←dv]
    refine C3I (fun y hy=>?_) gu (fun y hy=>?_)
    ·have:=gx y hy e (B5 ..);omega
    ·have:=hg.2 y hy;omega
   have iL:(if a.1<m.2.2.1 then a.1 else m.2.2.1)=min m.2.2.1 (A2A M e.1):=by rw[ft,uq];split<;>omega
   obtain⟨s3,aj,hid⟩:=aF.live e (by rw[iw];refine bg e ?_;rw[qN];exact G5 _ (B5 ..))
   have cX:=A3Y (aF.bM s3 aj) (m.1,m.2.1,min m.2.2.1 (A2A M e.1),false,e0S)
   have e9:A1a m M T1 e.1=q7 e.1 (Y1 s3.out (m.1,m.2.1,min m.2.2.1 (A2A M e.1),false,e0S)).1.2 (A0C (X8 e.1 (Y6 (Y1 s3.out (m.1,m.2.1,min m.2.2.1 (A2A M e.1),false,e0S)).1.1) T1.b.aD) T1):=by
    unfold A1a A0M
    rw[A3i aF.nd aj hid]
   have bU:=B0v (m:=m) (l:=M) T1 e.1 aF
   have wZ:=congrArg List.length dv
   simp only[B4,B7] at wZ fT
   have aw:∀s',At (X5 t b full (A1a m M T1 e.1)::U4 Z9 3 s' rs::cells x1 (aS7 (toU m))::old h0::L2) (K (.inl (s',()))):=fun s'=>by
    refine h1 (rs,A1a m M T1 e.1) (s',()) ?_ ⟨⟨done++tk,?_,?_⟩,?_,bU.ok,bU.aH.trans iw,?_⟩
    ·simp only[B7];have:=hg.1;omega
    ·rw[qN,←dv,D4]
    ·intro x hx y hy
     rcases C7.1 hx with hx|hx
     ·exact gx x hx y (by rw[←dv];exact G5 _ hy)
     ·rw[gu x hx];exact hg.2 y hy
    ·rw[C1M rfl dv gu lr] at fv
     exact fv
    ·have:=bU.outs
     have:=hg.1
     simp only
     omega
   rw[e9] at aw
   clear hq fv gx h1 h2
   refine W3 ?_
   refine A6a (fun h R=>l9) fun so sp p=>?_
   refine W.load (v:=some ⟨b,0,none⟩) ?_
   refine W3 ?_
   refine W.load (v:=some ⟨p.tb,0,none⟩) ?_
   refine W.load (v:=m.1) ?_
   refine W.load (v:=m.2.1) ?_
   refine W.load (v:=m.2.2.1) ?_
   rw[iL]
   refine A8U (fun h R=>A6j aj h R) fun ob ib=>?_
   refine A7O ?_ ?_
   ·refine b6 (B3f hid (At.un ?_))
    repeat(first|refine b7 ?_|refine X2 ?_|refine Y0 fun _=>?_|refine W.load ?_|refine B4u ?_|refine i7 ?_|(refine q8 ?_;try dsimp only)|(refine A8g ?_;try dsimp only)|refine A0a ?_|refine W.store ?_|refine W.store0 ?_|refine A4e ?_|refine A06 ?_ rfl|refine A1d rfl ?_|refine l7 rfl ?_|refine X7 rfl ?_|refine W6 rfl ?_|refine W.inl ?_|refine W.inr ?_|refine W3 ?_|refine l7 (Go.H.nbq _) ?_|refine W6 (Go.H.nbq _) ?_|refine l7 (Go.H.nbd rfl) ?_|refine W6 (Go.H.nbd rfl) ?_)
    refine Z1 (B4y (b:=ob) (o:=s3.out) (m:=(m.1,m.2.1,min m.2.2.1 (A2A M e.1),false,e0S)) (aF.bM s3 aj) (fun S2=>At.bD (x:=(S2,(Y1 s3.out (m.1,m.2.1,min m.2.2.1 (A2A M e.1),false,e0S)).2,())) ?_))
    refine B2b (A:=A1e p.tb T1.b.last (X8 e.1 (Y6 (Y1 s3.out (m.1,m.2.1,min m.2.2.1 (A2A M e.1),false,e0S)).1.1) T1.b.aD)) (fun h hs=>A6i aF.nd aj hid h hs) ?_
    refine W.bG (A0C (X8 e.1 (Y6 (Y1 s3.out (m.1,m.2.1,min m.2.2.1 (A2A M e.1),false,e0S)).1.1) T1.b.aD) T1) so sp p ?_
    refine Z1 (A3A (T:=(A0C (X8 e.1 (Y6 (Y1 s3.out (m.1,m.2.1,min m.2.2.1 (A2A M e.1),false,e0S)).1.1) T1.b.aD) T1)) (id:=e.1) (ps:=(Y1 s3.out (m.1,m.2.1,min m.2.2.1 (A2A M e.1),false,e0S)).1.2) (aF.one e.1) (by have:=cX.2;show T1.outs.length+_≤_;omega) (At.bD ?_))
    exact U1 (aw _).sub
   ·repeat(first|refine b7 ?_|refine X2 ?_|refine Y0 fun _=>?_|refine W.load ?_|refine B4u ?_|refine i7 ?_|(refine q8 ?_;try dsimp only)|(refine A8g ?_;try dsimp only)|refine A0a ?_|refine W.store ?_|refine W.store0 ?_|refine A4e ?_|refine A06 ?_ rfl|refine A1d rfl ?_|refine l7 rfl ?_|refine X7 rfl ?_|refine W6 rfl ?_|refine W.inl ?_|refine W.inr ?_|refine W3 ?_|refine l7 (Go.H.nbq _) ?_|refine W6 (Go.H.nbq _) ?_|refine l7 (Go.H.nbd rfl) ?_|refine W6 (Go.H.nbd rfl) ?_)
    refine b6 (B3f hid (At.un ?_))
    repeat(first|refine b7 ?_|refine X2 ?_|refine Y0 fun _=>?_|refine W.load ?_|refine B4u ?_|refine i7 ?_|(refine q8 ?_;try dsimp only)|(refine A8g ?_;try dsimp only)|refine A0a ?_|refine W.store ?_|refine W.store0 ?_|refine A4e ?_|refine A06 ?_ rfl|refine A1d rfl ?_|refine l7 rfl ?_|refine X7 rfl ?_|refine W6 rfl ?_|refine W.inl ?_|refine W.inr ?_|refine W3 ?_|refine l7 (Go.H.nbq _) ?_|refine W6 (Go.H.nbq _) ?_|refine l7 (Go.H.nbd rfl) ?_|refine W6 (Go.H.nbd rfl) ?_)
    refine Z1 (B4y (b:=ob) (o:=s3.out) (m:=(m.1,m.2.1,min m.2.2.1 (A2A M e.1),false,e0S)) (aF.bM s3 aj) (fun S2=>At.bD (x:=(S2,(Y1 s3.out (m.1,m.2.1,min m.2.2.1 (A2A M e.1),false,e0S)).2,())) ?_))
    refine B2b (A:=A1e p.tb T1.b.last (X8 e.1 (Y6 (Y1 s3.out (m.1,m.2.1,min m.2.2.1 (A2A M e.1),false,e0S)).1.1) T1.b.aD)) (fun h hs=>A6i aF.nd aj hid h hs) ?_
    refine W.bG (A0C (X8 e.1 (Y6 (Y1 s3.out (m.1,m.2.1,min m.2.2.1 (A2A M e.1),false,e0S)).1.1) T1.b.aD) T1) so sp p ?_
    refine Z1 (A3A (T:=(A0C (X8 e.1 (Y6 (Y1 s3.out (m.1,m.2.1,min m.2.2.1 (A2A M e.1),false,e0S)).1.1) T1.b.aD) T1)) (id:=e.1) (ps:=(Y1 s3.out (m.1,m.2.1,min m.2.2.1 (A2A M e.1),false,e0S)).1.2) (aF.one e.1) (by have:=cX.2;show T1.outs.length+_≤_;omega) (At.bD ?_))
    exact U1 (aw _).sub
end
section
open Go.H Go.Proofs
variable {h h0:Heap} {L L' L1 L2 L3 R:List Asn} {Q:Value→Heap→Prop}
theorem B7x{t b:Nat}{full:Bool}{T:U7}{m:MsT}(ht:TP h0)(ag:j7 T.b)(hb:T.outs.length≤50000000)(hp:T.aT.length≤1000000000)(hm:m.1.size≤9223372036854775807)
  (hq:At (X5 t b full (A3Z m T)::old h0::L2) (Q (.tuple #[])))(hx:Has L (X5 t b full T) L1:=by repeat first|with_reducible exact U9|apply V1)(hy:Has L1 (old h0) L2:=by repeat first|with_reducible exact U9|apply V1):
  FW prog 96 #[at0 t,vMs m] L Q:=by
 refine fun h hs=>A5m (some ⟨t,0,none⟩) (toU m) h Q ((?_:W (X5 t b full T::old h0::L2) _ _) h ((hx.then hy).s hs))
 clear hs h hx hy
 have fb:((A0A m T).aT.length+1)*64≤140737488355328:=by rw[A7t];omega
 have hq:At (X5 t b full (⟨(A0A m T).b,(A0A m T).outs,(A0A m T).aT++[m]⟩:U7)::old h0::L2) (Q (.tuple #[])):=hq
 delta A4v az bn cx g7 kc nn nw pu rq sx vs
 refine Y0 fun x1=>?_
 refine q8 (v:=toU m) ?_
 refine Z1 (C5o (m:=m) ht ag hb hm (At.bD ?_))
 generalize A0A m T=T1 at*
 refine W3 ?_
 refine A6a (fun h R=>l9) fun so sp p=>?_
 refine i7 (b:=t) (i:=3) (v:=sp) ?_
 refine q8 (v:=toU m) ?_
 refine Y0 fun x7=>?_
 refine i7 (b:=t) (i:=3) (v:=sp) ?_
 refine A06 ?_ rfl
 refine A9E (xs:=T1.aT) (enc:=Z4) (s:=sp) m (fun s'=>?_) fb
 refine W3 ?_
 refine A4e (b:=t) (i:=3) (cs':=#[at0 b,.bool full,.slice so.a so.len so.cap,.slice s'.a s'.len s'.cap]) ?_
 refine W.bG (⟨T1.b,T1.outs,T1.aT++[m]⟩:U7) so s' p ?_
 exact U1 hq.sub
theorem A3H(l:List Y3)(c:Int):W0 (l.map z7) c=(A04 c l).map B71:=by
 unfold W0 A04
 induction l with
 |nil=>rfl
 |cons x l ih=>
  rw[B6,List.find?_cons,List.find?_cons]
  by_cases hx:x.c=c
  ·simp[hx]
  ·simp only[z7,hx,decide_false]
   exact ih
theorem C3P{l:List Y3}{c:Int}(hn:(l.map (·.c)).Nodup):mdel (l.map z7) c=(l.filter fun y=>decide (y.c≠c)).map z7:=by
 have jI:((l.map z7).map (·.1)).Nodup:=by rw[F0];exact hn
 rw[A1x jI,R6]
 rfl
theorem B4F{m:Nat}{l:List Y3}(hs:sat h (mapA eKI eVC m (l.map z7)::R)):(l.map (·.c)).Nodup:=by
 have:=hs.bN
 rw[F0] at this
 exact this
theorem kKI:KeyLaw (Instr.sameNow (.int .i64)) eKI:=B8P .i64
theorem C20{t b:Nat}{full:Bool}{T:U7}{c:Int}{aX:Bool}(ht:TP h0)(ag:j7 T.b)(hb:T.outs.length≤50000000)(hp:T.aT.length≤1000000000)
  (hq:At (X5 t b full (A4n full c aX T)::old h0::L2) (Q (.tuple #[])))(hx:Has L (X5 t b full T) L1:=by repeat first|with_reducible exact U9|apply V1)(hy:Has L1 (old h0) L2:=by repeat first|with_reducible exact U9|apply V1):
  FW prog 54 #[at0 t,.int .i64 c,.bool aX] L Q:=by
 refine fun h hs=>A8f (some ⟨t,0,none⟩) c aX h Q ((?_:W (X5 t b full T::old h0::L2) _ _) h ((hx.then hy).s hs))
 clear hs h hx hy
 unfold A4n at hq
 delta A73 ad bn cb ci cx g7 ie jb ji kb km kp nn nw pu sn vi
 refine W3 ?_
 refine A6a (fun h R=>l9) fun so sp p=>?_
 refine W.load (v:=some ⟨b,0,none⟩) ?_
 refine W3 ?_
 refine W.load (v:=some p.cm) ?_
 refine Y2 (fun h R hs=>B4F (m:=p.cm) (l:=T.b.aB) hs) fun au=>?_
 refine W.lookup (kind:=.agg tC) kKI c ?_
 rw[A3H]
 cases hg:A04 c T.b.aB with
 |none=>
  rw[hg] at hq
  refine Y0 fun x6=>?_
  refine A0a ?_
  refine X7 rfl ?_
  refine W.bG T so sp p ?_
  exact U1 hq.sub
 |some x=>
  rw[hg] at hq
  simp only at hq
  refine Y0 fun x6=>?_
  refine A0a ?_
  refine W.cells (b:=x6) (lS4 (B71 x)).toArray ?_
  refine W6 rfl ?_
  refine W3 ?_
  refine W.load (v:=some ⟨b,0,none⟩) ?_
  refine W3 ?_
  refine W.load (v:=some p.cm) ?_
  refine W.mdel kKI c ?_
  rw[C3P au]
  refine W3 ?_
  refine W.load (v:=some ⟨b,0,none⟩) ?_
  refine W3 ?_
  refine W.load (v:=some ⟨p.tb,0,none⟩) ?_
  refine W.load (v:=x.aD) ?_
  refine b6 (C7n (b:=p.tb) (A:=T.b.aD) (k:=x.aD) (At.un ?_))
  have h1:=B82 (k:=x.aD) (ag.conn fun y=>decide (y.c≠c)) (ag.gone hg)
  rw[B4B] at hq h1
  simp only at hq h1
  refine W.cut (fun _=>X5 t b full (tB ⟨T.b.last,(A4F x.aD T.b.aD).2,if(A4F x.aD T.b.aD).1=true then A1b x.aD T.b.aH else T.b.aH,T.b.kept,T.b.aB.filter fun y=>decide (y.c≠c)⟩ T)::cells x6 (lS4 (B71 x)).toArray::old h0::L2) (fun K hK=>?_) (fun _=>?_)
  ·refine A0e (fun hd=>?_) (fun hd=>?_)
   ·rw[if_pos hd] at hK
    refine W3 ?_
    refine W.load (v:=some ⟨b,0,none⟩) ?_
    refine W3 ?_
    refine W.load ?_
    refine W.load (v:=x.aD) ?_
    refine b6 (B9q (t:=p.sb) (E:=T.b.aH) (id:=x.aD) ht ag.aH (At.un (U1 ?_)))
    refine At.bG (tB ⟨T.b.last,(A4F x.aD T.b.aD).2,A1b x.aD T.b.aH,T.b.kept,T.b.aB.filter fun y=>decide (y.c≠c)⟩ T) so sp p ?_
    exact(hK ()).sub
   ·rw[if_neg (by rw[hd];decide)] at hK
    refine U1 ?_
    refine At.bG (tB ⟨T.b.last,(A4F x.aD T.b.aD).2,T.b.aH,T.b.kept,T.b.aB.filter fun y=>decide (y.c≠c)⟩ T) so sp p ?_
    exact(hK ()).sub
  have sD:=(ag.wl x (A1K hg).1).1
  clear au hg
  generalize(if(A4F x.aD T.b.aD).1=true then A1b x.aD T.b.aH else T.b.aH)=subs' at*
  generalize(A4F x.aD T.b.aD).2=ses' at*
  generalize T.b.aB.filter (fun y=>decide (y.c≠c))=conns' at*
  cases aX with
  |false=>
   rw[if_neg (by simp)] at hq
   exact l7 rfl (b7 (l7 rfl (b7 (U1 hq.sub))))
  |true=>
   refine A1d rfl ?_
   refine X2 (W.load (v:=x.bE) ?_)
   cases eG:x.bE with
   |false=>
    rw[if_neg (by simp[eG])] at hq
    exact l7 rfl (b7 (l7 rfl (b7 (U1 hq.sub))))
   |true=>
    refine A1d rfl ?_
    refine X2 (W3 ?_)
    refine A6a (fun h R=>l9) fun gb iv p2=>?_
    refine X2 (W.load (v:=full) ?_)
    refine b7 ?_
    refine W.bG (tB ⟨T.b.last,ses',subs',T.b.kept,conns'⟩ T) gb iv p2 ?_
    cases full with
    |true=>
     rw[if_neg (by simp)] at hq
     exact l7 rfl (b7 (U1 hq.sub))
    |false=>
     rw[if_pos ⟨rfl,eG,rfl⟩] at hq
     refine A1d rfl ?_
     refine X2 (A8g (v:=toU x.aX) ?_)
     refine X2 (Z1 (B7x (T:=tB ⟨T.b.last,ses',subs',T.b.kept,conns'⟩ T) (m:=x.aX) ht h1.1 hb hp sD (At.bD ?_)))
     exact b7 (U1 hq.sub)
theorem B66{α:Type}{m:HM α}{Q':α→Heap→Prop}{k:IntKind}(o:PkO)(hc:o.bZ=[])(hp:o.props=[])(hw:W (pkB k (⟨none,0,0⟩,⟨none,0,0⟩,o)::L) m Q'):W L m Q':=fun h hs=>hw h (A28 hc hp hs)
theorem A8t{t b:Nat}{full:Bool}{T:U7}{c code:Int}(ht:TP h0)(ag:j7 T.b)(hb:T.outs.length<50000000)(hp:T.aT.length≤1000000000)
  (hq:At (X5 t b full (A0q full c code T)::old h0::L2) (Q (.tuple #[])))(hx:Has L (X5 t b full T) L1:=by repeat first|with_reducible exact U9|apply V1)(hy:Has L1 (old h0) L2:=by repeat first|with_reducible exact U9|apply V1):
  FW prog 68 #[at0 t,.int .i64 c,.int .u8 code] L Q:=by
 refine fun h hs=>A55 (some ⟨t,0,none⟩) c code h Q ((?_:W (X5 t b full T::old h0::L2) _ _) h ((hx.then hy).s hs))
 clear hs h hx hy
 unfold A0q at hq
 delta A49 cx pu ve vi vz
 refine B66 (k:=.u8) (Z7 14 0 code) rfl rfl ?_
 refine Z1 (B9g (T:=T) (c:=c) (o:=Z7 14 0 code) (ci:=⟨none,0,0⟩) (pi:=⟨none,0,0⟩) (by omega) (At.bD ?_))
 refine Z1 (C20 (T:=A0t ⟨c,Z7 14 0 code,true⟩ T) (c:=c) (aX:=true) ht ag (by show(T.outs++[_]).length≤_;rw[B4];simp only[B7,G8];omega) hp (At.bD ?_))
 exact U1 hq.sub
end
section
open Go.H Go.Proofs
variable {h h0:Heap} {L L' L1 L2 L3 R:List Asn} {Q:Value→Heap→Prop}
abbrev pkI(p:Pk)(pl:List o8)(sl:List A0w)(fl:List B3O):PkI:=
 {kind:=p.1,dG:=p.2.2.1,eP:=p.2.2.2.1,id:=p.2.2.2.2.1,cC:=p.2.2.2.2.2.1,cQ:=p.2.2.2.2.2.2.1,code:=p.2.2.2.2.2.2.2.1,props:=pl,
  aC:=p.2.2.2.2.2.2.2.2.2.2.1,clean:=p.2.2.2.2.2.2.2.2.2.2.2.1,bE:=p.2.2.2.2.2.2.2.2.2.2.2.2.2.1,
  aX:=(p.2.2.2.2.2.2.2.2.2.2.2.2.2.2.1,p.2.2.2.2.2.2.2.2.2.2.2.2.2.2.2.1,p.2.2.2.2.2.2.2.2.2.2.2.2.2.2.2.2.1,p.2.2.2.2.2.2.2.2.2.2.2.2.2.2.2.2.2.1,e0S),aH:=sl,bK:=fl}
theorem A8Q{s:B3O}(ht:TP h0)(hsz:s.size≤9223372036854775807)(hq:At (old h0::L1) (Q (.int .u8 (A2t s))))(hx:Has L (old h0) L1:=by repeat first|with_reducible exact U9|apply V1):FW prog 12 #[.string s] L Q:=fun h hs=>
 A3n (hx.s hs) ht hsz fun h' af=>hq h' af
theorem C6m{k:Int}{A:List V7}:X8 k (fun s=>s) A=A:=by
 unfold X8
 simp
theorem C0Q{o:Z8}{k id c:Int}(h:(A0S o k id c).2≠0):(A0S o k id c).1.1=o:=by
 unfold A0S at h⊢
 split at h
 ·rw[if_pos (by assumption)]
 ·rw[if_neg (by assumption)]
  split at h
  ·rfl
  ·split at h
   ·rw[if_pos (by assumption)];split at h
    ·rw[if_pos (by assumption)]
    ·exact absurd rfl h
   ·rw[if_neg (by assumption)];split at h
    ·rw[if_pos (by assumption)];split at h
     ·rw[if_pos (by assumption)]
     ·split at h<;>exact absurd rfl h
    ·rw[if_neg (by assumption)];split at h
     ·rw[if_pos (by assumption)]
     ·exact absurd rfl h
theorem C7h{t b:Nat}{full:Bool}{T:U7}{x:Y3}{p:Pk}{pl:List o8}{sl:List A0w}{fl:List B3O}(ht:TP h0)(ag:j7 T.b)(hc:A04 x.c T.b.aB=some x)(hb:T.outs.length<40000000)(hp:T.aT.length≤1000000000)(hsz:p.2.2.2.2.2.1.size≤9223372036854775807)
  (hq:At (X5 t b full (A6h full x (pkI p pl sl fl) T)::old h0::L2) (Q (.tuple #[])))(hx:Has L (X5 t b full T) L1:=by repeat first|with_reducible exact U9|apply V1)(hy:Has L1 (old h0) L2:=by repeat first|with_reducible exact U9|apply V1):
  FW prog 63 #[at0 t,.int .i64 x.c,A2p .u8 p] L Q:=by
 refine fun h hs=>A7H (some ⟨t,0,none⟩) x.c p h Q ((?_:W (X5 t b full T::old h0::L2) _ _) h ((hx.then hy).s hs))
 clear hs h hx hy
 obtain⟨s,hs,hid⟩:=ag.cl x (A1K hc).1
 unfold A6h at hq
 simp only[A3i ag.nd hs hid] at hq
 delta A6P az bn cp cu cx A0R ie jb ji jt kb km kp nn nw pu rq ve vi vs
 refine Y0 fun x1=>?_
 refine A07 (fun r=>r.1=(decide (p.1=3)&& !Y8 p.2.2.2.2.2.1)) (fun K hK=>?_) (fun r hr=>?_)
 ·refine W.load (v:=p.1) ?_
  refine A0e (fun h3=>?_) (fun h3=>?_)
  ·refine W.load (v:=p.2.2.2.2.2.1) ?_
   refine b6 (A8Q ht hsz (At.un ?_))
   refine U1 (At.sub (hK _ ?_))
   simp only[P8] at h3
   simp only[h3,decide_true,G2]
   unfold A2t
   cases Y8 p.2.2.2.2.2.1<;>rfl
  ·refine U1 (hK _ ?_)
   simp only[H4,ne_eq] at h3
   simp[h3]
 obtain⟨r,_⟩:=r
 simp only at hr
 subst hr
 by_cases al:p.1=3∧Y8 p.2.2.2.2.2.1=false
 ·rw[if_pos al] at hq
  refine X7 (by simp[al.1,al.2]) ?_
  refine Z1 (A8t (T:=T) (c:=x.c) (code:=144) ht ag (by omega) hp (At.bD ?_))
  exact U1 hq.sub
 rw[if_neg al] at hq
 refine W6 (by
  by_cases e:p.1=3
  ·have:Y8 p.2.2.2.2.2.1=true:=by
    cases hn:Y8 p.2.2.2.2.2.1
    ·exact absurd ⟨e,hn⟩ al
    ·rfl
   simp[this]
  ·simp[e]) ?_
 refine W3 ?_
 refine A6a (fun h R=>l9) fun so sp q=>?_
 refine W.load (v:=full) ?_
 refine A07 (fun r=>r.1=if full=true then 151 else 0) (fun K hK=>A0e (fun e=>U1 (hK _ (if_pos e).symm)) (fun e=>U1 (hK _ (if_neg (by simp[e])).symm))) (fun r hr=>?_)
 obtain⟨why,_⟩:=r
 simp only at hr
 rw[←hr] at hq
 clear hr al
 refine W3 ?_
 refine W.load (v:=some ⟨b,0,none⟩) ?_
 refine W3 ?_
 refine W.load (v:=some q.cm) ?_
 refine W.lookup (kind:=.agg tC) kKI x.c ?_
 rw[A3H,hc]
 refine W3 ?_
 refine W.load (v:=some ⟨b,0,none⟩) ?_
 refine W3 ?_
 refine W.load (v:=some ⟨q.tb,0,none⟩) ?_
 refine q8 (v:=p) ?_
 refine A8U (fun h R=>A6j hs h R) fun ob ib=>?_
 refine b6 (C81 (k:=x.aD) hid (At.un ?_))
 refine q8 (v:=p) ?_
 refine A06 ?_ rfl
 refine Z1 (C5l (f:=ib) (s:=s.aZ) (p:=p) (why:=why) (fun S=>At.bD (x:=((k9 s.aZ p.1 p.2.2.2.1 p.2.2.2.2.1 why).1,S,(k9 s.aZ p.1 p.2.2.2.1 p.2.2.2.2.1 why).2.2.1,())) ?_))
 generalize hR:k9 s.aZ p.1 p.2.2.2.1 p.2.2.2.2.1 why=r at hq⊢
 refine B2b (A:=A1e q.tb T.b.last (X8 x.aD (j3 ⟨s.aZ.most,s.aZ.taken,r.2.2.2⟩) T.b.aD)) (fun h af=>C4B ag.nd hs hid h af) ?_
 refine W.bG (A0C (X8 x.aD (j3 ⟨s.aZ.most,s.aZ.taken,r.2.2.2⟩) T.b.aD) T) so sp q ?_
 have aF:j7 (A0C (X8 x.aD (j3 ⟨s.aZ.most,s.aZ.taken,r.2.2.2⟩) T.b.aD) T).b:=ag.fE
 by_cases av:r.2.2.1=0
 ·rw[if_neg (by simpa using av)] at hq
  refine W6 (by simp[av]) ?_
  have ke:(A3P r.2.1 p.2.2.2.2.1).length≤1:=by unfold A3P;split<;>simp
  refine Z1 (A3A (T:=(A0C (X8 x.aD (j3 ⟨s.aZ.most,s.aZ.taken,r.2.2.2⟩) T.b.aD) T)) (id:=x.aD) (ps:=A3P r.2.1 p.2.2.2.2.1) (ag.one x.aD) (by simp only;omega) (At.bD ?_))
  have sH:(T.outs++A1w T.b.aB x.aD (A3P r.2.1 p.2.2.2.2.1)).length≤50000000:=by
   rw[B4];have:=A8X (A3P r.2.1 p.2.2.2.2.1) (ag.one x.aD);omega
  cases hf:r.1 with
  |false=>
   rw[if_neg (by simp[hf])] at hq
   exact l7 rfl (b7 (l7 rfl (b7 (U1 hq.sub))))
  |true=>
   refine A1d rfl ?_
   refine X2 (W3 ?_)
   refine A6a (fun h R=>l9) fun gb iv p2=>?_
   refine X2 (W.load (v:=full) ?_)
   refine b7 ?_
   refine W.bG (q7 x.aD (A3P r.2.1 p.2.2.2.2.1) (A0C (X8 x.aD (j3 ⟨s.aZ.most,s.aZ.taken,r.2.2.2⟩) T.b.aD) T)) gb iv p2 ?_
   cases full with
   |true=>
    rw[if_neg (by simp)] at hq
    exact l7 rfl (b7 (U1 hq.sub))
   |false=>
    rw[if_pos ⟨hf,rfl⟩] at hq
    refine A1d rfl ?_
    refine X2 (W.load (v:=p.2.2.2.2.2.1) ?_)
    refine X2 (W.load (v:=p.2.2.2.2.2.2.1) ?_)
    refine X2 (W.load (v:=p.2.2.2.1) ?_)
    refine X2 (W.load (v:=p.2.2.1) ?_)
    refine X2 (Z1 (B7x (m:=(p.2.2.2.2.2.1,p.2.2.2.2.2.2.1,p.2.2.2.1,p.2.2.1,e0S)) (T:=q7 x.aD (A3P r.2.1 p.2.2.2.2.1) (A0C (X8 x.aD (j3 ⟨s.aZ.most,s.aZ.taken,r.2.2.2⟩) T.b.aD) T)) ht aF sH hp hsz (At.bD ?_)))
    exact b7 (U1 hq.sub)
 ·rw[if_pos (by simpa using av)] at hq
  refine X7 (by simp[av]) ?_
  refine Z1 (A8t (T:=(A0C (X8 x.aD (j3 ⟨s.aZ.most,s.aZ.taken,r.2.2.2⟩) T.b.aD) T)) (c:=x.c) (code:=r.2.2.1) ht aF (by simp only;omega) hp (At.bD ?_))
  exact U1 hq.sub
theorem C5P{t b:Nat}{full:Bool}{T:U7}{x:Y3}{p:Pk}{pl:List o8}{sl:List A0w}{fl:List B3O}(ht:TP h0)(ag:j7 T.b)(hc:A04 x.c T.b.aB=some x)(hb:T.outs.length<40000000)(hp:T.aT.length≤1000000000)
  (hq:At (X5 t b full (A3V full x (pkI p pl sl fl) T)::old h0::L2) (Q (.tuple #[])))(hx:Has L (X5 t b full T) L1:=by repeat first|with_reducible exact U9|apply V1)(hy:Has L1 (old h0) L2:=by repeat first|with_reducible exact U9|apply V1):
  FW prog 64 #[at0 t,.int .i64 x.c,A2p .u8 p] L Q:=by
 refine fun h hs=>A57 (some ⟨t,0,none⟩) x.c p h Q ((?_:W (X5 t b full T::old h0::L2) _ _) h ((hx.then hy).s hs))
 clear hs h hx hy
 obtain⟨s,hs,hid⟩:=ag.cl x (A1K hc).1
 unfold A3V A0M at hq
 simp only[A3i ag.nd hs hid] at hq
 have cX:=B4G (ag.bM s hs) p.1 p.2.2.2.2.1 p.2.2.2.2.2.2.2.1
 have qt:=C0Q (o:=s.out) (k:=p.1) (id:=p.2.2.2.2.1) (c:=p.2.2.2.2.2.2.2.1)
 delta A5b az bn cp cx A0R ie km kp nn nw pu rq vi vs
 refine Y0 fun x1=>?_
 refine W3 ?_
 refine A6a (fun h R=>l9) fun so sp q=>?_
 refine W.load (v:=some ⟨b,0,none⟩) ?_
 refine W3 ?_
 refine W.load (v:=some q.cm) ?_
 refine W.lookup (kind:=.agg tC) kKI x.c ?_
 rw[A3H,hc]
 refine W3 ?_
 refine W.load (v:=some ⟨b,0,none⟩) ?_
 refine W3 ?_
 refine W.load (v:=some ⟨q.tb,0,none⟩) ?_
 refine q8 (v:=p) ?_
 refine A8U (fun h R=>A6j hs h R) fun ob ib=>?_
 refine b6 (B3f (k:=x.aD) hid (At.un ?_))
 refine q8 (v:=p) ?_
 refine A06 ?_ rfl
 refine Z1 (C7y (b:=ob) (o:=s.out) (p:=p) (ag.bM s hs) (fun S=>At.bD (x:=(S,(A0S s.out p.1 p.2.2.2.2.1 p.2.2.2.2.2.2.2.1).2,())) ?_))
 generalize A0S s.out p.1 p.2.2.2.2.1 p.2.2.2.2.2.2.2.1=r at hq cX qt⊢
 refine B2b (A:=A1e q.tb T.b.last (X8 x.aD (Y6 r.1.1) T.b.aD)) (fun h af=>A6i ag.nd hs hid h af) ?_
 by_cases av:r.2=0
 ·rw[if_neg (by simpa using av)] at hq
  refine W.bG (A0C (X8 x.aD (Y6 r.1.1) T.b.aD) T) so sp q ?_
  refine W6 (by simp[av]) ?_
  refine Z1 (A3A (T:=(A0C (X8 x.aD (Y6 r.1.1) T.b.aD) T)) (id:=x.aD) (ps:=r.1.2) (ag.one x.aD) (by have:=cX.2;simp only;omega) (At.bD ?_))
  exact U1 hq.sub
 ·rw[if_pos (by simpa using av)] at hq
  have e1:X8 x.aD (Y6 r.1.1) T.b.aD=T.b.aD:=by
   rw[qt av,A99 (f:=Y6 s.out) (g:=fun s=>s) ag.nd hs hid rfl,C6m]
  rw[e1]
  refine W.bG T so sp q ?_
  refine X7 (by simp[av]) ?_
  refine Z1 (A8t (T:=T) (c:=x.c) (code:=r.2) ht ag (by omega) hp (At.bD ?_))
  exact U1 hq.sub
end
end Go.Proofs.YtidlldnlphdhcaaGreatDoor