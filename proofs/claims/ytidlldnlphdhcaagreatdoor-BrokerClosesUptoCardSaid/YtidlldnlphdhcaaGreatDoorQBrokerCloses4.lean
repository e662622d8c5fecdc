/-
  Our texts, packed by program.
-/
import Derived.Test.YtidlldnlphdhcaaGreatDoorQBrokerCloses3
set_option linter.unusedSimpArgs false
set_option linter.unusedVariables false
set_option maxHeartbeats 16000000
set_option maxRecDepth 100000
set_option synthInstance.maxSize 100000
set_option synthInstance.maxHeartbeats 400000
namespace Go.Proofs.YtidlldnlphdhcaaGreatDoor
open Go.H
open Go.Proofs.Tryz
section
open Go.H Go.Proofs
variable {h h0:Heap} {R:List Asn}
def o6(t:Nat)(L:List Ent):Asn:=exA fun x:Nds×List (Int×Int)=>star (pr (A03 x.1 L∧A95 x.2 L)) (trM t x.1 x.2)
theorem A0p{t:Nat}{L:List Ent}:sat h (o6 t L::R)↔∃N C,A03 N L∧A95 C L∧sat h (trM t N C::R):=by
 unfold o6
 rw[sat.bA]
 constructor
 ·rintro⟨⟨N,C⟩,hs⟩
  rw[sat.aI,sat.bC] at hs
  exact⟨N,C,hs.1.1,hs.1.2,hs.2⟩
 ·rintro⟨N,C,h1,h2,hs⟩
  refine⟨(N,C),?_⟩
  rw[sat.aI,sat.bC]
  exact⟨⟨h1,h2⟩,hs⟩
theorem B6q(L:List Ent)(k:Int):A08 L k≤L.length:=by
 unfold A08
 have:=List.count_le_length (a:=k) (l:=L.map (·.1))
 simpa using this
theorem C3m(hs:sat h R){Q:Value→Heap→Prop}(hq:∀t h',sat h' (o6 t []::R)→Q (at9 t) h'):V3 prog 28 #[] h Q:=by
 refine B9n hs fun t nd h' h1 h2 af=>hq t h' (A0p.2 ⟨_,_,⟨by simp,List.Pairwise.nil,?_⟩,?_,af⟩)
 ·intro p k q
  constructor
  ·intro he
   exfalso
   unfold ent at he
   rw[Y4,B5u] at he
   by_cases e:([]:Path)=p
   ·rw[if_pos e] at he
    rw[N9,h1] at he
    simp at he
   ·rw[if_neg e] at he
    simp at he
  ·rintro⟨f,-,hm⟩
   simp at hm
 ·intro k
  simp[A08]
theorem C3o{t:Nat}{L:List Ent}(ht:TP h0){id q:Int}{f:B3O}(hsz:f.size≤9223372036854775807)(hl:L.length≤100000)(hs:sat h (o6 t L::old h0::R)){Q:Value→Heap→Prop}
  (al:X5 f=false→∀h',sat h' (o6 t L::old h0::R)→Q (.int .u8 143) h')
  (ft:X5 f=true→(q<0∨2<q)→∀h',sat h' (o6 t L::old h0::R)→Q (.int .u8 155) h')
  (eX:X5 f=true→0≤q→q≤2→∀i x,L[i]? =some x→b7 x=(id,f)→∀h',sat h' (o6 t (L.set i (id,f,q))::old h0::R)→Q (.int .u8 0) h')
  (aA:X5 f=true→0≤q→q≤2→(∀x∈L,b7 x≠(id,f))→64≤A08 L id→∀h',sat h' (o6 t L::old h0::R)→Q (.int .u8 151) h')
  (iZ:X5 f=true→0≤q→q≤2→(∀x∈L,b7 x≠(id,f))→A08 L id<64→∀h',sat h' (o6 t (A2q ltK b7 (id,f,q) L)::old h0::R)→Q (.int .u8 0) h'):
  V3 prog 109 #[at9 t,C4F id f q] h Q:=by
 obtain⟨N,C,hA,hC,aa⟩:=A0p.1 hs
 have hg:=hC.getD id
 refine C6r ht hsz aa (fun h1 h' af=>al h1 h' (A0p.2 ⟨N,C,hA,hC,af⟩)) (fun h1 h2 h' af=>ft h1 h2 h' (A0p.2 ⟨N,C,hA,hC,af⟩)) (fun h1 h2 h3 q0 h4 N' h' h5 af=>?_)
  (fun h1 h2 h3 h4 h5 h' af=>aA h1 h2 h3 ((hA.none f id).1 h4) (by rw[hg] at h5;omega) h' (A0p.2 ⟨N,C,hA,hC,af⟩)) (fun h1 h2 h3 h4 h5 N' h' h6 af=>?_)
 ·have hm:=(hA.get f id q0).1 h4
  obtain⟨i,hi⟩:=List.mem_iff_getElem?.1 hm
  refine eX h1 h2 h3 i _ hi rfl h' (A0p.2 ⟨N',C,hA.set hi rfl h1 h5,fun k=>?_,af⟩)
  rw[C5U (A68 (e:=(id,f,q)) hi rfl)]
  exact hC k
 ·have ax:=(hA.none f id).1 h4
  rw[hg] at h5 af
  rw[V8 (by have:=B6q L id;omega) (by have:=B6q L id;omega)] at af
  exact iZ h1 h2 h3 ax (by omega) h' (A0p.2 ⟨N',_,hA.ins ax h1 h6,hC.ins (id,f,q),af⟩)
theorem B8b{t:Nat}{N:Nds}{C:List (Int×Int)}(hs:sat h (trM t N C::R)):(C.map (·.1)).Nodup∧∀p nd,W3 N p=some nd→(nd.q.map (·.1)).Nodup∧(nd.nx.map (·.1)).Nodup:=by
 obtain⟨rb,cm,hT,aa⟩:=A2e.1 hs
 exact⟨aa.p2.bP,fun p nd hp=>A6J hp aa.p1⟩
theorem B0S{t:Nat}{L:List Ent}(ht:TP h0){id:Int}{f:B3O}(hsz:f.size≤16777216)(hl:L.length≤100000)(hs:sat h (o6 t L::old h0::R)){Q:Value→Heap→Prop}
  (hq:∀h',sat h' (o6 t (A1L L id f)::old h0::R)→Q (.bool (decide ((A1L L id f).length<L.length))) h'):
  V3 prog 111 #[at9 t,.int .i64 id,.string f] h Q:=by
 obtain⟨N,C,hA,hC,aa⟩:=A0p.1 hs
 have hg:=hC.getD id
 refine C0S ht hsz aa (fun hn h' af=>?_) (fun q0 iP N' h' hN af=>?_)
 ·have ax:=(hA.none f id).1 hn
  have e:=C4b ax
  rw[e] at hq
  have:=hq h' (A0p.2 ⟨N,C,hA,hC,af⟩)
  simpa using this
 ·have hm:=(hA.get f id q0).1 iP
  have ah:(A1L L id f).length<L.length:=by
   have:=B9e hA.dE hm id
   rw[if_pos rfl] at this
   refine Nat.lt_of_le_of_ne (D4 _ _) fun e=>?_
   have:=O0.1 e _ hm
   simp at this
  have xW:=hC.del hA.dE (B8b aa).1 hm
  rw[hg] at af
  rw[V8 (by have:=B6q L id;omega) (by have:=B6q L id;omega)] at af
  have:=hq h' (A0p.2 ⟨N',_,hA.del hN,xW,af⟩)
  rw[decide_eq_true ah] at this
  exact this
end
section
open Go.H Go.Proofs Go.Lib
variable {h h0:Heap} {R:List Asn}
theorem B6M{s t:Slc}{xs ys:List B3O}(hr:Z7 eS 1 h s xs)(ht:Z7 eS 1 h t ys)(hl:xs.length≤1000000){Q:Value→Heap→Prop}(hq:Q (.bool (eqL xs ys)) h):
  V3 prog 37 #[.slice s.a s.len s.cap,.slice t.a t.len t.cap,.func (.func 38) #[] #[]] h Q:=by
 refine A67 s t _ h Q ?_
 delta A6q bn ie ix lt pu wi
 have rI:=hr.1
 have ah:=ht.1
 (try dsimp only);rw[U9]
 by_cases cg:xs.length=ys.length
 ·rw[if_neg (by simp[rI,ah,cg])]
  (try dsimp only);rw[U1]
  refine l9 (γ:=Nat) (fun g c h'=>h'=h∧c.1=(((xs.length-g:Nat)):Int)∧g≤xs.length∧eqL xs ys=eqL (xs.drop (xs.length-g)) (ys.drop (xs.length-g))) (fun g=>g) xs.length ⟨rfl,by simp,D9 _,by simp⟩ ?_
  rintro g ⟨c,⟨⟩⟩ h' ⟨rfl,hc,hg,hf⟩
  simp only at hc
  subst hc
  (try dsimp only);rw[U9]
  by_cases hi:xs.length-g<xs.length
  ·rw[if_pos (by simp only[decide_eq_true_eq,rI];omega)]
   obtain⟨x,hx⟩:∃x,xs[xs.length-g]? =some x:=⟨_,B0 hi⟩
   obtain⟨y,hy⟩:∃y,ys[xs.length-g]? =some y:=⟨_,B0 (by omega)⟩
   rw[A6P hx,A6P hy] at hf
   (try dsimp only);rw[U1]
   refine X8 hr hx fun a ha=>?_
   refine⟨x,by have:=ha 0 (.string x) rfl;rwa[Go.H.add_zero] at this,?_⟩
   (try dsimp only);rw[U1]
   refine X8 ht hy fun a' i'=>?_
   refine⟨y,by have:=i' 0 (.string y) rfl;rwa[Go.H.add_zero] at this,?_⟩
   refine⟨38,#[],#[],rfl,call38,?_⟩
   refine A8n x y h' _ ?_
   delta A8o bn ie pu
   have fin:∀z:Bool,z=(decide (x=r8)||decide (x=y))→(if(!z)=true then Q (.bool false) h' else Go.H.Next (fun g (c:Int×Unit) aR=>aR=h'∧c.1=(((xs.length-g:Nat)):Int)∧g≤xs.length∧eqL xs ys=eqL (xs.drop (xs.length-g)) (ys.drop (xs.length-g))) (fun g=>g) g (IntKind.wrap .i64 ((((xs.length-g:Nat)):Int)+1),()) h'):=by
    rintro z rfl
    simp only[eqL] at hf
    have ay:xs.length-g+1=xs.length-(g-1):=by omega
    rw[ay] at hf
    cases hz:(decide (x=r8)||decide (x=y)) with
    |false=>
     rw[hz,K6] at hf
     rw[hf] at hq
     rw[if_pos (by rfl)]
     exact hq
    |true=>
     rw[hz,G3] at hf
     rw[if_neg (by simp)]
     exact .mk (g-1) (by omega) ⟨rfl,by simp only;rw[V8 (by omega) (by omega)];omega,by omega,hf⟩
   refine V4 (fun z aR=>aR=h'∧z.1=(decide (x=r8)||decide (x=y))) ?_ ?_
   ·(try dsimp only);rw[U9]
    by_cases h1:x=r8
    ·rw[if_pos (by simpa[r8] using h1)]
     exact⟨rfl,by simp[h1]⟩
    ·rw[if_neg (by simpa[r8] using h1)]
     exact⟨rfl,by simp[h1]⟩
   rintro⟨z,⟨⟩⟩ aR ⟨rfl,hz⟩
   refine⟨z,rfl,?_⟩
   have cG:=fin z hz
   (try dsimp only);rw[U9]
   by_cases uD:(!z)=true
   ·rw[if_pos uD] at cG⊢
    exact cG
   ·rw[if_neg uD] at cG⊢
    exact cG
  ·rw[if_neg (by simp only[decide_eq_true_eq,rI];omega)]
   simp only[D7,E8,V1]
   have h1:xs.drop (xs.length-g)=[]:=by simp;omega
   have h2:ys.drop (xs.length-g)=[]:=by simp;omega
   rw[h1,h2] at hf
   rw[hf] at hq
   exact hq
 ·have nU:∀(xs ys:List B3O),xs.length≠ys.length→eqL xs ys=false:=by
   intro xs
   induction xs with
   |nil=>intro ys hh;cases ys with
    |nil=>exact absurd rfl hh
    |cons=>rfl
   |cons x xs ih=>intro ys hh;cases ys with
    |nil=>rfl
    |cons y ys=>simp only[eqL,ih ys (by simpa using hh),Bool.and_false]
  rw[nU xs ys cg] at hq
  rw[if_pos (by simp[rI,ah];omega)]
  exact hq
theorem A7J(b c:UInt8):((b.toNat:Int)==(c.toNat:Int))=decide (b=c):=by
 by_cases h:b=c
 ·simp[h]
 ·rw[decide_eq_false h]
  simp only[H5,ne_eq]
  intro e
  exact h (UInt8.toNat_inj.1 (by omega))
theorem C2o(hs:sat h (old h0::R))(ht:TP h0){f n:B3O}(oO:f.size≤9223372036854775807)(rH:n.size≤9223372036854775807){Q:Value→Heap→Prop}
  (hq:∀h',sat h' (old h0::R)→Q (.bool (Y8 f n)) h'):V3 prog 14 #[.string f,.string n] h Q:=by
 refine B0P f n h Q ?_
 delta B3i bn cb cc cu ie ix lt pu vs wi
 refine V4 (fun x h'=>sat h' (old h0::R)∧x.1= !(X5 f&&Z4 n)) ?_ ?_
 ·refine U6 (A60 hs ht oO fun h1 aa=>⟨_,rfl,?_⟩)
  unfold A91
  (try dsimp only);rw[U9]
  cases hf:X5 f with
  |false=>rw[if_pos (by rfl)];exact⟨aa,rfl⟩
  |true=>
   rw[if_neg (by simp)]
   refine U6 (A3u aa ht rH fun h2 ae=>⟨_,rfl,?_⟩)
   unfold A2Q
   cases hn:Z4 n<;>exact⟨ae,rfl⟩
 rintro⟨x,⟨⟩⟩ h1 ⟨aa,hx⟩
 simp only at hx
 subst hx
 unfold Y8 at hq
 (try dsimp only);rw[U9]
 cases ag:(X5 f&&Z4 n) with
 |false=>
  rw[ag] at hq
  rw[if_pos (by rfl)]
  exact hq _ aa
 |true=>
 rw[ag,G3] at hq
 rw[if_neg (by simp)]
 rw[F0] at ag
 have jf:=A0X.1 (A0z ag.1)
 have eR:=A0X.1 (A4D ag.2)
 have xt:A4d (levels f)=true:=by
  have:=ag.1
  unfold X5 at this
  rw[F0] at this
  exact this.2
 refine V4 (fun x h'=>h'=h1∧x.1=A3Z f n) ?_ ?_
 ·unfold A3Z
  refine⟨n.get! 0,by decide,A3o (k:=0) (by omega),?_⟩
  (try dsimp only);rw[U9]
  have vX:=A7J (n.get! 0) 36
  by_cases jU:n.get! 0=36
  ·rw[if_pos (by rw[show(36:Int)=((36:UInt8).toNat:Int) from rfl,vX,jU];rfl)]
   refine⟨0,1,⟨rfl,by omega⟩,rfl,?_⟩
   (try dsimp only);rw[U9]
   by_cases er:f.get! 0=43
   ·rw[if_pos (by simpa using(B2X jf.2.1 43).2 er)]
    exact⟨rfl,by simp[jU,er]⟩
   ·rw[if_neg (by simpa using fun e=>er ((B2X jf.2.1 43).1 e))]
    refine⟨0,1,⟨rfl,by omega⟩,rfl,rfl,?_⟩
    have yb:decide (f.extract 0 1=ByteArray.mk #[35])=decide (f.get! 0=35):=by rw[G6];exact B2X jf.2.1 35
    simp only[jU,er,decide_true,decide_false,G3,S3]
    exact yb
  ·rw[if_neg (by rw[show(36:Int)=((36:UInt8).toNat:Int) from rfl,vX];simpa using jU)]
   exact⟨rfl,by simp[jU]⟩
 rintro⟨x,⟨⟩⟩ h2 ⟨rfl,hx⟩
 simp only at hx
 subst hx
 (try dsimp only);rw[U9]
 cases iH:A3Z f n with
 |true=>
  rw[iH] at hq
  rw[if_pos rfl]
  exact hq _ aa
 |false=>
 rw[iH,S6,G3,B5x _ _ (B2J f) xt] at hq
 rw[if_neg (by simp)]
 refine U6 (A4l aa ht jf.2.2.1 fun sf h3 aj=>⟨sf,rfl,?_⟩)
 refine U6 (A4l aj.p1 ht eR.2.2.1 fun sn h4 ak=>⟨sn,rfl,?_⟩)
 have pT:=ak.aO A1F
 have nJ:=(ak.re [2,0,1]).aO A1F
 have ai:sat h4 (old h0::R):=(ak.re [0,2,1]).drop.drop
 have vb:(levels f).length≤32:=jf.2.2.2
 have ke:(levels n).length≤32:=eR.2.2.2
 have cg:1≤(levels f).length:=by
  have:=A7n f
  omega
 clear ak aj
 generalize levels f=lf at*
 generalize levels n=ln at*
 have fa:=nJ.1
 have fg:=pT.1
 have hw:IntKind.wrap .i64 ((sf.len:Int)-1)=((lf.length-1:Nat):Int):=by rw[fa,V8 (by omega) (by omega)];omega
 rw[hw]
 obtain⟨x,hx⟩:∃x,lf[lf.length-1]? =some x:=⟨_,B0 (by omega)⟩
 have dh:B3b lf=decide (x=o8):=by unfold B3b;rw[hx];simp
 (try dsimp only);rw[U1]
 refine X8 nJ hx fun a ha=>?_
 refine⟨x,by have:=ha 0 (.string x) rfl;rwa[Go.H.add_zero] at this,?_⟩
 refine V4 (fun x h'=>h'=h4∧Z7 eS 1 h4 x.1 (A6S lf)) ?_ ?_
 ·unfold A6S
  (try dsimp only);rw[U9]
  by_cases hh:x=o8
  ·rw[if_pos (by simpa[o8] using hh),if_pos (by rw[dh];simpa using hh)]
   (try dsimp only);rw[U1]
   exact B2h nJ (by omega) fun s' af=>⟨rfl,af⟩
  ·rw[if_neg (by simpa[o8] using hh),if_neg (by rw[dh];simpa using hh)]
   exact⟨rfl,nJ⟩
 rintro⟨sc,⟨⟩⟩ h5 ⟨rfl,te⟩
 simp only at te
 have kX:=te.1
 have aQ:(A6S lf).length≤32:=by
  unfold A6S
  split
  ·simp;omega
  ·exact vb
 refine V4 (fun x h'=>h'=h5∧x.1=decide (ln.length<(A6S lf).length∨(B3b lf=false∧(A6S lf).length<ln.length))) ?_ ?_
 ·(try dsimp only);rw[U9]
  by_cases hh:ln.length<(A6S lf).length
  ·rw[if_pos (by simp only[decide_eq_true_eq];omega)]
   exact⟨rfl,by simp[hh]⟩
  ·rw[if_neg (by simp only[decide_eq_true_eq];omega)]
   (try dsimp only);rw[U9]
   by_cases kO:x=o8
   ·rw[if_neg (by simpa[o8] using kO)]
    exact⟨rfl,by simp[hh,dh,kO]⟩
   ·rw[if_pos (by simpa[o8] using kO)]
    refine⟨rfl,?_⟩
    simp only[G6,dh,kO,decide_false,true_and]
    omega
 rintro⟨y,⟨⟩⟩ h6 ⟨rfl,hy⟩
 simp only at hy
 subst hy
 unfold B8J at hq
 (try dsimp only);rw[U9]
 by_cases hc:ln.length<(A6S lf).length∨(B3b lf=false∧(A6S lf).length<ln.length)
 ·rw[if_pos hc] at hq
  rw[if_pos (by simpa using hc)]
  exact hq _ ai
 ·rw[if_neg hc] at hq
  rw[if_neg (by simpa using hc)]
  (try dsimp only);rw[U1]
  refine B2h (n:=sc.len) pT (by omega) fun s' af=>?_
  rw[kX] at af
  (try dsimp only)
  refine U6 (B6M te af (by omega) ⟨_,rfl,?_⟩)
  exact hq _ ai
end
section
open Go.Proofs Go.Shelf
def B3l:Go.Shelf.Ren:=⟨fun n=>match n with|6=>84|8=>130|9=>131|11=>187|13=>123|12=>188|23=>180|24=>181|14=>229|15=>230|16=>231|17=>232|18=>233|19=>234|20=>235|21=>236|22=>237|25=>260|26=>214|27=>215|28=>261|29=>262|30=>263|31=>271|n=>n,fun n=>match n with|26=>9|28=>216|24=>43|0=>0|3=>3|37=>263|48=>315|50=>317|4=>4|40=>308|39=>307|45=>180|5=>5|9=>9|51=>343|55=>347|57=>378|58=>361|33=>107|n=>n,fun n=>n⟩
theorem C6B:SlLaysZ.n6 prog B3l where
 mixed:=by kernel_rfl
 f6:=⟨f84.name,by kernel_rfl,func84.trans (congrArg some (by kernel_rfl))⟩
 f8:=⟨f130.name,by kernel_rfl,func130.trans (congrArg some (by kernel_rfl))⟩
 f11:=⟨f187.name,by kernel_rfl,func187.trans (congrArg some (by kernel_rfl))⟩
 t0:=underlying0
 a0:=isAgg0
 z0:=sizeOf0
 v0:=zeroValue0
 t24:=underlying43
 a24:=isAgg43
 z24:=sizeOf43
 v24:=zeroValue43
 t26:=underlying9
 a26:=isAgg9
 z26:=sizeOf9
 v26:=zeroValue9
 t28:=underlying216
 a28:=isAgg216
 z28:=sizeOf216
 v28:=zeroValue216
 i26:=by kernel_rfl
def B4P:Go.Shelf.Ren:=⟨fun n=>match n with|6=>131|8=>123|9=>188|19=>180|20=>181|21=>229|22=>230|23=>231|24=>232|25=>233|26=>234|27=>235|28=>236|29=>237|36=>260|31=>214|32=>215|37=>261|38=>262|39=>263|41=>271|n=>n,fun n=>match n with|27=>43|29=>9|3=>3|32=>263|26=>43|0=>0|44=>315|46=>317|4=>4|36=>308|35=>307|41=>180|5=>5|9=>9|53=>343|57=>347|63=>378|64=>361|n=>n,fun n=>n⟩
theorem C7D:SlLaysM.n6 prog B4P where
 mixed:=by kernel_rfl
 f6:=⟨f131.name,by kernel_rfl,func131.trans (congrArg some (by kernel_rfl))⟩
 f8:=func123.trans (congrArg some (by kernel_rfl))
 f9:=⟨f188.name,by kernel_rfl,func188.trans (congrArg some (by kernel_rfl))⟩
 f19:=func180.trans (congrArg some (by kernel_rfl))
 f20:=func181.trans (congrArg some (by kernel_rfl))
 f21:=⟨f229.name,by kernel_rfl,func229.trans (congrArg some (by kernel_rfl))⟩
 f22:=⟨f230.name,by kernel_rfl,func230.trans (congrArg some (by kernel_rfl))⟩
 f23:=⟨f231.name,by kernel_rfl,func231.trans (congrArg some (by kernel_rfl))⟩
 f24:=⟨f232.name,by kernel_rfl,func232.trans (congrArg some (by kernel_rfl))⟩
 f25:=⟨f233.name,by kernel_rfl,func233.trans (congrArg some (by kernel_rfl))⟩
 f26:=⟨f234.name,by kernel_rfl,func234.trans (congrArg some (by kernel_rfl))⟩
 f27:=⟨f235.name,by kernel_rfl,func235.trans (congrArg some (by kernel_rfl))⟩
 f28:=⟨f236.name,by kernel_rfl,func236.trans (congrArg some (by kernel_rfl))⟩
 f29:=⟨f237.name,by kernel_rfl,func237.trans (congrArg some (by kernel_rfl))⟩
 f31:=func214.trans (congrArg some (by kernel_rfl))
 f32:=func215.trans (congrArg some (by kernel_rfl))
 f36:=⟨Tryz.f260.name,by kernel_rfl,func260.trans (congrArg some (by kernel_rfl))⟩
 f37:=⟨f261.name,by kernel_rfl,func261.trans (congrArg some (by kernel_rfl))⟩
 f38:=⟨f262.name,by kernel_rfl,func262.trans (congrArg some (by kernel_rfl))⟩
 f39:=⟨f263.name,by kernel_rfl,func263.trans (congrArg some (by kernel_rfl))⟩
 f41:=⟨f271.name,by kernel_rfl,func271.trans (congrArg some (by kernel_rfl))⟩
 t0:=underlying0
 a0:=isAgg0
 z0:=sizeOf0
 v0:=zeroValue0
 t3:=underlying3
 a3:=isAgg3
 z3:=sizeOf3
 v3:=zeroValue3
 t4:=underlying4
 a4:=isAgg4
 z4:=sizeOf4
 v4:=zeroValue4
 t5:=underlying5
 a5:=isAgg5
 z5:=sizeOf5
 v5:=zeroValue5
 t9:=underlying9
 a9:=isAgg9
 z9:=sizeOf9
 v9:=zeroValue9
 t26:=underlying43
 a26:=isAgg43
 z26:=sizeOf43
 v26:=zeroValue43
 t27:=underlying43
 a27:=isAgg43
 z27:=sizeOf43
 v27:=zeroValue43
 t29:=underlying9
 a29:=isAgg9
 z29:=sizeOf9
 v29:=zeroValue9
 t32:=underlying263
 a32:=isAgg263
 z32:=sizeOf263
 v32:=zeroValue263
 t35:=underlying307
 a35:=isAgg307
 z35:=sizeOf307
 v35:=zeroValue307
 t36:=underlying308
 a36:=isAgg308
 z36:=sizeOf308
 v36:=zeroValue308
 t41:=underlying180
 a41:=isAgg180
 z41:=sizeOf180
 v41:=zeroValue180
 t44:=underlying315
 a44:=isAgg315
 z44:=sizeOf315
 v44:=zeroValue315
 t46:=underlying317
 a46:=isAgg317
 z46:=sizeOf317
 v46:=zeroValue317
 t53:=underlying343
 a53:=isAgg343
 z53:=sizeOf343
 v53:=zeroValue343
 t57:=underlying347
 a57:=isAgg347
 z57:=sizeOf347
 v57:=zeroValue347
 t63:=underlying378
 a63:=isAgg378
 z63:=sizeOf378
 v63:=zeroValue378
 t64:=underlying361
 a64:=isAgg361
 z64:=sizeOf361
 v64:=zeroValue361
open Go.Proofs Go.Shelf
def A7p:Go.Shelf.Ren:=⟨fun n=>match n with|7=>165|10=>212|n=>n,fun n=>match n with|23=>177|26=>9|3=>204|28=>216|0=>0|27=>215|33=>107|4=>4|n=>n,fun n=>n⟩
theorem C5s:SlLaysZ.n7 prog A7p where
 mixed:=by kernel_rfl
 f7:=⟨Tryz.f165.name,by kernel_rfl,func165.trans (congrArg some (by kernel_rfl))⟩
 f10:=⟨f212.name,by kernel_rfl,func212.trans (congrArg some (by kernel_rfl))⟩
 t0:=underlying0
 a0:=isAgg0
 z0:=sizeOf0
 v0:=zeroValue0
 t4:=underlying4
 a4:=isAgg4
 z4:=sizeOf4
 v4:=zeroValue4
 t23:=underlying177
 a23:=isAgg177
 z23:=sizeOf177
 v23:=zeroValue177
 t26:=underlying9
 a26:=isAgg9
 z26:=sizeOf9
 v26:=zeroValue9
 t27:=underlying215
 a27:=isAgg215
 z27:=sizeOf215
 v27:=zeroValue215
 t28:=underlying216
 a28:=isAgg216
 z28:=sizeOf216
 v28:=zeroValue216
 t33:=underlying107
 a33:=isAgg107
 z33:=sizeOf107
 v33:=zeroValue107
open Go.H Go.Proofs Go.Lib
abbrev B1m(b:Nat):Value:=.pointer (some ⟨b,0,none⟩)
abbrev j7:=B3O×B3O×Int×Unit
abbrev kM:Kind:=.agg [.str,.str,.int .i64]
abbrev vM(m:j7):Value:=.agg #[.string m.1,.string m.2.1,.int .i64 m.2.2.1]
abbrev A0c(m:j7):C9P:=[.string m.1,.string m.2.1,.int .i64 m.2.2.1]
abbrev eKS(s:B3O):Value:=.string s
def zM:j7:=(ByteArray.mk #[],ByteArray.mk #[],0,())
theorem A3T:∀x:j7,(A0c x).length=3:=fun _=>rfl
theorem A7E:∀x:j7,∀v∈A0c x,v.oneCell'=true:=fun x v hv=>by
 simp only[A0c,D3,R1,or_false] at hv
 rcases hv with rfl|rfl|rfl<;>rfl
theorem C6S:∀a b:B3O,eKS a=eKS b→a=b:=fun a b h=>by cases h;rfl
def B6R(b:Nat)(most:Int)(l:List (B3O×j7)):Asn:=exA fun m:Nat=>star (cells b #[.int .i64 most,.map (some m)]) (mapA eKS (Kind.val kM) m l)
variable {h h0:Heap} {R:List Asn}
theorem A4Q{b:Nat}{most:Int}{l:List (B3O×j7)}:sat h (B6R b most l::R)↔∃m:Nat,sat h (cells b #[.int .i64 most,.map (some m)]::mapA eKS (Kind.val kM) m l::R):=by
 unfold B6R
 rw[sat.bA]
 constructor
 ·rintro⟨m,hs⟩;exact⟨m,sat.aI.1 hs⟩
 ·rintro⟨m,hs⟩;exact⟨m,sat.aI.2 hs⟩
def B8G(n:Int):Int:=if 0<(if 64<n then 64 else n) then(if 64<n then 64 else n) else 0
theorem B9F(hs:sat h R)(n:Int){Q:Value→Heap→Prop}(hq:∀b h',sat h' (B6R b (B8G n) []::R)→Q (B1m b) h'):V3 prog 29 #[.int .i64 n] h Q:=by
 refine B2l n h Q ?_
 delta B4Y az bn nw pu vi
 (try dsimp only);rw[U1]
 refine A7i (ek:=eKS) (ev:=Kind.val kM) hs fun m h1 aa=>?_
 refine V5 aa fun b h2 ae=>?_
 exact hq b h2 (A4Q.2 ⟨m,ae⟩)
def C3v(most:Int)(l:List (B3O×j7))(m:j7):Int×List (B3O×j7):=
 if Z4 m.1=false then(144,l)
 else if m.2.2.1<0∨2<m.2.2.1 then(155,l)
 else if m.2.1=ByteArray.mk #[] then(0,mdel l m.1)
 else if W3 l m.1=none∧most≤l.length then(151,l)
 else(0,mset l m.1 m)
theorem C6g{b:Nat}{most:Int}{l:List (B3O×j7)}{m:j7}(hs:sat h (B6R b most l::old h0::R))(ht:TP h0)(hsz:m.1.size≤9223372036854775807){Q:Value→Heap→Prop}
  (hq:∀h',sat h' (B6R b most (C3v most l m).2::old h0::R)→Q (.int .u8 (C3v most l m).1) h'):V3 prog 79 #[B1m b,vM m] h Q:=by
 refine A7d (some ⟨b,0,none⟩) m h Q ?_
 obtain⟨mb,hs⟩:=A4Q.1 hs
 delta A6y az bn cu es ie ji jt ki km nn nw pu rq sn ve vi
 refine V5 hs fun x h1 aa=>?_
 (try dsimp only);rw[U9,if_neg (by simp)]
 refine⟨m.1,by rw[U3];exact aa.cell 0,?_⟩
 refine U6 (A3u (aa.re [3,0,1,2]) ht hsz fun h2 ba=>⟨_,rfl,?_⟩)
 have ae:sat h2 (cells x #[.string m.1,.string m.2.1,.int .i64 m.2.2.1]::cells b #[.int .i64 most,.map (some mb)]::mapA eKS (Kind.val kM) mb l::old h0::R):=ba.re [1,2,3,0]
 clear ba aa hs
 have fin:∀{h'},sat h' (cells x #[.string m.1,.string m.2.1,.int .i64 m.2.2.1]::cells b #[.int .i64 most,.map (some mb)]::mapA eKS (Kind.val kM) mb l::old h0::R)→sat h' (B6R b most l::old h0::R):=fun hh=>A4Q.2 ⟨mb,hh.drop⟩
 unfold C3v at hq
 (try dsimp only);rw[U9]
 cases hn:Z4 m.1 with
 |false=>
  rw[if_pos hn] at hq
  rw[if_pos (by simp[A2Q,hn])]
  exact hq _ (fin ae)
 |true=>
 rw[if_neg (by simp[hn])] at hq
 rw[if_neg (by simp[A2Q,hn])]
 refine V4 (fun z h'=>h'=h2∧z.1=decide (m.2.2.1<0∨2<m.2.2.1)) ?_ ?_
 ·refine⟨m.2.2.1,by rw[U3];exact ae.cell 2,?_⟩
  (try dsimp only);rw[U9]
  by_cases h1:m.2.2.1<0
  ·rw[if_pos (by simpa using h1)]
   exact⟨rfl,by simp[h1]⟩
  ·rw[if_neg (by simpa using h1)]
   refine⟨m.2.2.1,by rw[U3];exact ae.cell 2,rfl,?_⟩
   simp[h1]
 rintro⟨z,⟨⟩⟩ h3 ⟨rfl,hz⟩
 simp only at hz
 subst hz
 (try dsimp only);rw[U9]
 by_cases dV:m.2.2.1<0∨2<m.2.2.1
 ·rw[if_pos dV] at hq
  rw[if_pos (by simpa using dV)]
  exact hq _ (fin ae)
 rw[if_neg dV] at hq
 rw[if_neg (by simpa using dV)]
 refine⟨m.2.1,by rw[U3];exact ae.cell 1,?_⟩
 (try dsimp only);rw[U9]
 by_cases hp:m.2.1=ByteArray.mk #[]
 ·rw[if_pos hp] at hq
  rw[if_pos (by simpa using hp)]
  refine⟨_,rfl,some mb,by rw[U3];exact ae.p1.cell 1,?_⟩
  refine⟨m.1,by rw[U3];exact ae.cell 0,?_⟩
  (try dsimp only);rw[U1]
  refine A5Q A9d (ae.re [2,0,1]) fun h4 ak=>?_
  exact hq _ (A4Q.2 ⟨mb,(ak.re [1,2,0]).drop⟩)
 rw[if_neg hp] at hq
 rw[if_neg (by simpa using hp)]
 refine⟨_,rfl,some mb,by rw[U3];exact ae.p1.cell 1,?_⟩
 refine⟨m.1,by rw[U3];exact ae.cell 0,?_⟩
 (try dsimp only);rw[U1]
 refine u7 (kind:=kM) (z:=zM) A9d rfl (ae.re [2,0,1]) ?_
 refine V5 ae fun y h4 bp=>?_
 have ak:sat h4 (cells y #[.string (ByteArray.mk #[]),.string (ByteArray.mk #[]),.int .i64 0]::cells x #[.string m.1,.string m.2.1,.int .i64 m.2.2.1]::cells b #[.int .i64 most,.map (some mb)]::mapA eKS (Kind.val kM) mb l::old h0::R):=bp
 clear bp
 (try dsimp only);rw[U1]
 refine u7 (kind:=kM) (z:=zM) A9d rfl (ak.re [3,0,1,2]) ?_
 refine⟨rfl,?_⟩
 refine⟨m.1,by rw[U3];exact ak.p1.cell 0,rfl,?_⟩
 refine⟨some mb,by rw[U3];exact(ak.re [2,0,1]).cell 1,rfl,?_⟩
 (try dsimp only);rw[U1]
 refine l5 ak rfl rfl fun h5 fo=>?_
 have ai:sat h5 (cells x #[.string m.1,.string m.2.1,.int .i64 m.2.2.1]::cells b #[.int .i64 most,.map (some mb)]::mapA eKS (Kind.val kM) mb l::old h0::R):=fo.drop
 clear fo
 refine V4 (fun z h'=>h'=h5∧z.1=decide (W3 l m.1=none∧most≤l.length)) ?_ ?_
 ·(try dsimp only);rw[U9]
  cases hg:W3 l m.1 with
  |none=>
   rw[if_pos (by rfl)]
   refine⟨_,rfl,some mb,by rw[U3];exact ai.p1.cell 1,?_⟩
   (try dsimp only);rw[U1]
   refine A9a (ai.re [2,0,1]) ?_
   refine⟨_,rfl,most,by rw[U3];exact ai.p1.cell 0,rfl,?_⟩
   simp
  |some v=>
   rw[if_neg (by simp)]
   exact⟨rfl,by simp⟩
 rintro⟨z,⟨⟩⟩ h6 ⟨rfl,hz⟩
 simp only at hz
 subst hz
 (try dsimp only);rw[U9]
 by_cases hc:W3 l m.1=none∧most≤l.length
 ·rw[if_pos hc] at hq
  rw[if_pos (by simpa using hc)]
  exact hq _ (fin ai)
 rw[if_neg hc] at hq
 rw[if_neg (by simpa using hc)]
 refine⟨_,rfl,some mb,by rw[U3];exact ai.p1.cell 1,?_⟩
 refine⟨m.1,by rw[U3];exact ai.cell 0,?_⟩
 refine Y5 (ts:=[.str,.str,.int .i64]) m ai rfl ?_
 (try dsimp only);rw[U1]
 refine A4A (x:=m) A9d C6S (ai.re [2,0,1]) fun h7 aK=>?_
 exact hq _ (A4Q.2 ⟨mb,(aK.re [1,2,0]).drop⟩)
def B8T(l:List (B3O×j7))(f:B3O)(ns:List B3O):List j7:=(ns.filter (Y8 f)).map fun n=>(W3 l n).getD zM
theorem C6k{b:Nat}{most:Int}{l:List (B3O×j7)}{f:B3O}(hs:sat h (B6R b most l::old h0::R))(ht:TP h0)(hsz:f.size≤9223372036854775807)(hl:l.length≤64)(hk:∀p∈l,p.1.size≤256){Q:Value→Heap→Prop}
  (hq:∀(sl:Slc) h',sat h' (U5 A0c 3 sl (B8T l f (A5v (l.map (·.1))))::B6R b most l::old h0::R)→Q (.slice sl.a sl.len sl.cap) h'):V3 prog 110 #[B1m b,.string f] h Q:=by
 refine A50 (some ⟨b,0,none⟩) f h Q ?_
 obtain⟨mb,hs⟩:=A4Q.1 hs
 delta A4Y az bn cb cc ie ix km lt nn nw pu ve vi wi
 (try dsimp only);rw[U9,if_neg (by simp)]
 refine⟨_,rfl,some mb,by rw[U3];exact hs.cell 1,?_⟩
 refine U6 ?_
 refine C1G (ρk:=A7p) C5s (some mb) ?_
 refine⟨_,rfl,?_⟩
 have ae:=(hs.bK (T:=A7p.t 23) (cs:=#[.map (some mb)]))
 refine U6 ?_
 refine B8h (ρk:=A7p) (ρs:=B3l) (ρt:=B4P) C5s C6B C7D rfl (enters_of func131 (by kernel_rfl) rfl) (enters_of func212 (by kernel_rfl) rfl) (ae.re [2,0,1])
  (fun p hp=>?_) (by omega) (ae.cell 0) fun sl h1 aj=>?_
 ·have:=hk p hp
  unfold maxLen
  omega
 have ak:=(aj.re [2,0,1,3,4]).drop
 clear aj ae hs
 have iq:(A5v (l.map (·.1))).length=l.length:=by simp[A5v,O9]
 have an:∀n∈A5v (l.map (·.1)),n.size≤256:=by
  intro n hn
  unfold A5v at hn
  obtain⟨x,hx,rfl⟩:=E4.1 hn
  obtain⟨y,hy,rfl⟩:=E4.1 ((R0 _ _).mem_iff.1 hx)
  obtain⟨p,hp,rfl⟩:=E4.1 hy
  exact hk p hp
 generalize A5v (l.map (·.1))=ns at ak iq an hq
 have hlen:=ak.aW
 refine⟨sl,rfl,?_⟩
 (try dsimp only);rw[U1]
 refine l9 (γ:=Nat) (hb:=fun s=>by
   repeat' with_reducible first
    |refine @A0r _ _ _ _ ?_ (fun _=>?_)
    |refine @A0Z _ _ _ _ ?_ ?_
   all_goals infer_instance)
  (fun g c h'=>c.2.1=(((ns.length-g:Nat)):Int)∧g≤ns.length∧sat h' (U5 A0c 3 c.1 (B8T l f (ns.take (ns.length-g)))::U5 eS 1 sl ns::cells b #[.int .i64 most,.map (some mb)]::mapA eKS (Kind.val kM) mb l::old h0::R)) (fun g=>g) ns.length
  ⟨by simp,D9 _,by
   rw[Q3]
   exact Z3 (ak.re [0,2,1])⟩ ?_
 rintro g ⟨out,c,⟨⟩⟩ h2 ⟨hc,hg,ai⟩
 simp only at hc ai
 subst hc
 (try dsimp only);rw[U9]
 by_cases hi:ns.length-g<ns.length
 ·rw[if_pos (by simp only[decide_eq_true_eq,hlen];omega)]
  obtain⟨n,hn⟩:∃n,ns[ns.length-g]? =some n:=⟨_,B0 hi⟩
  have rH:n.size≤256:=an n (E9 hn)
  have hw:IntKind.wrap .i64 ((((ns.length-g:Nat)):Int)+1)=((ns.length-(g-1):Nat):Int):=by rw[V8 (by omega) (by omega)];omega
  have fk:ns.take (ns.length-(g-1))=ns.take (ns.length-g)++[n]:=by
   rw[show ns.length-(g-1)=ns.length-g+1 by omega,H8,hn]
   rfl
  (try dsimp only);rw[U1]
  refine X8 (ai.p1.aO A1F) hn fun a ha=>?_
  refine⟨n,by have:=ha 0 (.string n) rfl;rwa[Go.H.add_zero] at this,?_⟩
  refine U6 (C2o (ai.re [4,0,1,2,3]) ht hsz (by omega) fun h3 gI=>⟨_,rfl,?_⟩)
  have aw:sat h3 (U5 A0c 3 out (B8T l f (ns.take (ns.length-g)))::U5 eS 1 sl ns::cells b #[.int .i64 most,.map (some mb)]::mapA eKS (Kind.val kM) mb l::old h0::R):=gI.re [1,2,3,4,0]
  clear gI ai
  refine V4 (fun z h'=>sat h' (U5 A0c 3 z.1 (B8T l f (ns.take (ns.length-(g-1))))::U5 eS 1 sl ns::cells b #[.int .i64 most,.map (some mb)]::mapA eKS (Kind.val kM) mb l::old h0::R)) ?_ ?_
  ·rw[fk]
   unfold B8T
   rw[F3,C0]
   (try dsimp only);rw[U9]
   cases hm:Y8 f n with
   |true=>
    rw[if_pos rfl]
    refine⟨_,rfl,some mb,by rw[U3];exact(aw.re [2,0,1]).cell 1,?_⟩
    (try dsimp only);rw[U1]
    refine u7 (kind:=kM) (z:=zM) A9d rfl (aw.re [3,0,1,2]) ?_
    have jG:(B8T l f (ns.take (ns.length-g))).length≤64:=by
     unfold B8T
     rw[C2]
     refine C4 (D4 _ _) ?_
     rw[E6]
     omega
    refine A06 (x:=(W3 l n).getD zM) A3T A7E rfl aw (by decide) (by decide) (by omega) fun s' h4 aK=>?_
    simp only[H6,hm,if_true,J9,B6,I4]
    exact aK
   |false=>
    rw[if_neg (by simp)]
    simp only[H6,hm,H7,if_false,J9,I4,C1]
    exact aw
  rintro⟨z,⟨⟩⟩ h4 aK
  simp only[D7,E8,V1]
  exact .mk (g-1) (by omega) ⟨by simp only[hw],by omega,aK⟩
 ·rw[if_neg (by simp only[decide_eq_true_eq,hlen];omega)]
  rw[D6 (by omega)] at ai
  exact hq out h2 (((A4Q.2 ⟨mb,ai.re [2,3,0,1]⟩).re [2,1,0]).drop.p1.re [1,0])
end
section
open Go.H Go.Proofs Go.Lib
variable {h h0:Heap} {R:List Asn}
theorem drop_byte{s:B3O}{i:Nat}(hi:i<s.size):s.data.toList.drop i=s.get! i::s.data.toList.drop (i+1):=by
 have h1:i<s.data.toList.length:=by rw[N6];exact hi
 rw[E1 h1]
 congr 1
 have h2:i<s.data.size:=hi
 show s.data.toList[i]=s.data[i]!
 rw[getElem!_pos s.data i h2]
 simp
theorem B1N{s:B3O}(hsz:s.size≤9223372036854775800){c:UInt8}{Q:Value→Heap→Prop}(hq:Q (.bool (hasB c s)) h):
  V3 prog 239 #[.string s,.int .u8 (c.toNat:Int)] h Q:=by
 refine B4i s _ h Q ?_
 delta B7t bn ie pu wi
 (try dsimp only);rw[U1]
 refine l9 (γ:=Nat) (fun g k h'=>h'=h∧k.1=(((s.size-g:Nat)):Int)∧g≤s.size∧hasB c s=decide (c∈s.data.toList.drop (s.size-g))) (fun g=>g) s.size ⟨rfl,by simp,D9 _,by simp[hasB]⟩ ?_
 rintro g ⟨k,⟨⟩⟩ h' ⟨rfl,hc,hg,hf⟩
 simp only at hc
 subst hc
 (try dsimp only);rw[U9]
 by_cases hi:s.size-g<s.size
 ·rw[if_pos (by simp only[decide_eq_true_eq];omega)]
  rw[drop_byte hi] at hf
  refine⟨s.get! (s.size-g),by omega,by rw[O2];exact A3o hi,?_⟩
  (try dsimp only);rw[U9,A7J]
  by_cases hb:s.get! (s.size-g)=c
  ·rw[if_pos (by simpa using hb)]
   rw[hf,show decide (c∈s.get! (s.size-g)::s.data.toList.drop (s.size-g+1))=true by simp[hb]] at hq
   simp only[D7,E8,V1]
   exact hq
  ·rw[if_neg (by simpa using hb)]
   simp only[D7,E8,V1]
   refine .mk (g-1) (by omega) ⟨rfl,by simp only;rw[V8 (by omega) (by omega)];omega,by omega,?_⟩
   rw[hf,show s.size-(g-1)=s.size-g+1 by omega]
   simp[Ne.symm hb]
 ·rw[if_neg (by simp only[decide_eq_true_eq];omega)]
  have:s.data.toList.drop (s.size-g)=[]:=by
   rw[List.drop_eq_nil_iff,N6]
   show s.size≤_
   omega
  rw[hf,this] at hq
  simp only[D7,E8,V1]
  simpa using hq
theorem C0s{s:B3O}{i:Nat}(hi:i<s.size):(s.extract i (i+1)).data.toList=[s.get! i]:=by
 have h1:=drop_byte hi
 have h2:(s.extract i (i+1)).data.toList=(s.data.toList.drop i).take 1:=by
  simp[ByteArray.data_extract,Array.toList_extract,List.extract]
 rw[h2,h1]
 rfl
theorem A4B(hs:sat h R){s:B3O}(hsz:s.size≤256){Q:Value→Heap→Prop}
  (hq:∀(sl:Slc) h',sat h' (U5 eS 1 sl (levels s)::R)→Q (.slice sl.a sl.len sl.cap) h'):
  V3 prog 241 #[.string s] h Q:=by
 refine B0q s h Q ?_
 delta B1f az bn ie nw pu ve wi
 (try dsimp only);rw[U1]
 refine l9 (γ:=Nat) (fun g k h'=>∃xs:List B3O,sat h' (U5 eS 1 k.1 xs::R)∧k.2.2.1=(((s.size-g:Nat)):Int)∧g≤s.size∧xs.length≤s.size-g∧k.2.1.size≤s.size-g∧
  xs.map (·.data.toList)++lev 47 k.2.1.data.toList (s.data.toList.drop (s.size-g))=(levels s).map (·.data.toList)) (fun g=>g) s.size
  ⟨[],Z3 hs,by simp,D9 _,D1 _,D1 _,by simp[A2U]⟩ ?_
 rintro g ⟨sl,x,i,⟨⟩⟩ h1 ⟨xs,aa,hc,hg,yn,fc,hf⟩
 simp only at hc aa fc hf
 subst hc
 (try dsimp only);rw[U9]
 by_cases hi:s.size-g<s.size
 ·rw[if_pos (by simp only[decide_eq_true_eq];omega)]
  rw[drop_byte hi] at hf
  have ay:s.size-g+1=s.size-(g-1):=by omega
  rw[ay] at hf
  have hw:IntKind.wrap .i64 ((((s.size-g:Nat)):Int)+1)=((s.size-(g-1):Nat):Int):=by rw[V8 (by omega) (by omega)];omega
  refine V4 (fun k h'=>∃xs:List B3O,sat h' (U5 eS 1 k.1 xs::R)∧xs.length≤s.size-(g-1)∧k.2.1.size≤s.size-(g-1)∧
   xs.map (·.data.toList)++lev 47 k.2.1.data.toList (s.data.toList.drop (s.size-(g-1)))=(levels s).map (·.data.toList)) ?_ ?_
  ·refine⟨s.get! (s.size-g),by omega,by rw[O2];exact A3o hi,?_⟩
   (try dsimp only);rw[U9,show(47:Int)=((47:UInt8).toNat:Int) from rfl,A7J]
   by_cases hb:s.get! (s.size-g)=47
   ·rw[if_pos (by simpa using hb)]
    refine A06 (x:=x) A1F B4C rfl aa (by decide) (by decide) (by omega) fun s' h2 ae=>?_
    refine⟨xs++[x],ae,by simp;omega,D1 _,?_⟩
    simp only[lev,if_pos hb] at hf
    rw[←hf]
    simp
   ·rw[if_neg (by simpa using hb)]
    refine⟨s.size-g,s.size-g+1,⟨by rw[hw];omega,by omega⟩,⟨rfl,by omega⟩,?_⟩
    have he:=C0s hi
    have hz:(s.extract (s.size-g) (s.size-g+1)).size=1:=by
     rw[ByteArray.size_extract]
     omega
    refine⟨by rw[hz];omega,xs,aa,by omega,?_,?_⟩
    ·simp only[ByteArray.size_append]
     omega
    ·simp only[lev,if_neg hb] at hf
     rw[←hf]
     simp only[ByteArray.data_append,Array.toList_append,he]
  rintro⟨sl',x',⟨⟩⟩ h2 ⟨xs',ae,sK,sJ,nV⟩
  simp only[D7,E8,V1]
  exact .mk (g-1) (by omega) ⟨xs',ae,by simp only[hw],by omega,sK,sJ,nV⟩
 ·rw[if_neg (by simp only[decide_eq_true_eq];omega)]
  have:s.data.toList.drop (s.size-g)=[]:=by
   rw[List.drop_eq_nil_iff,N6]
   show s.size≤_
   omega
  rw[this] at hf
  simp only[lev] at hf
  simp only[D7,E8,V1]
  have he:xs++[x]=levels s:=A7l (by simpa using hf)
  refine A06 (x:=x) A1F B4C rfl aa (by decide) (by decide) (by omega) fun s' h2 ae=>?_
  rw[he] at ae
  exact hq s' h2 ae
theorem B3o(hs:sat h R){s:B3O}(hsz:s.size≤9223372036854775800){Q:Value→Heap→Prop}
  (hq:∀h',sat h' R→Q (.bool (A1l s)) h'):V3 prog 238 #[.string s] h Q:=by
 refine B1d s h Q ?_
 delta B3z bn cc ie pu
 refine u9 (B3D hs s hsz ⟨(match q8 s with|some n=>((n:Int),true,())|none=>(0,false,())),by cases q8 s<;>rfl,?_⟩)
 refine V4 (fun x h'=>h'=h∧x.1= !((q8 s).isNone&&decide (s.size≠0)&&decide (s.size≤256))) ?_ ?_
 ·(try dsimp only);rw[U9]
  cases hf:q8 s with
  |some n=>
   rw[if_pos rfl]
   exact⟨rfl,rfl⟩
  |none=>
   rw[if_neg (by simp)]
   (try dsimp only);rw[U9]
   by_cases h0:s.size=0
   ·rw[if_pos (by simp[h0])]
    exact⟨rfl,by simp[h0]⟩
   ·rw[if_neg (by simpa using h0)]
    refine⟨rfl,?_⟩
    by_cases h1:s.size≤256
    ·simp[h0,h1];omega
    ·simp[h0,h1];omega
 rintro⟨x,⟨⟩⟩ h1 ⟨rfl,hx⟩
 simp only at hx
 subst hx
 unfold A1l at hq
 (try dsimp only);rw[U9]
 cases hz:((q8 s).isNone&&decide (s.size≠0)&&decide (s.size≤256)) with
 |false=>
  rw[hz] at hq
  rw[if_pos (by rfl)]
  exact hq _ hs
 |true=>
  rw[hz,G3] at hq
  rw[if_neg (by simp)]
  have hle:s.size≤256:=by
   simp only[F0,decide_eq_true_eq] at hz
   exact hz.2
  refine U6 (A4B hs hle fun sl h2 ae=>⟨sl,rfl,?_⟩)
  have hl:=ae.aW
  have:=hq _ ae.drop
  have e:decide ((sl.len:Int)≤32)=decide ((levels s).length≤32):=by rw[G6,hl];omega
  simp only[V1]
  rw[e]
  exact this
theorem A4m(hs:sat h R){s:B3O}(hsz:s.size≤9223372036854775800){Q:Value→Heap→Prop}
  (hq:∀h',sat h' R→Q (.int .i64 (A2Q s)) h'):V3 prog 190 #[.string s] h Q:=by
 refine A8d s h Q ?_
 delta A7Y bn cb ie pu
 refine U6 (B3o hs hsz fun h1 aa=>⟨_,rfl,?_⟩)
 refine U6 (B1N (c:=43) hsz ⟨_,rfl,?_⟩)
 refine U6 (B1N (c:=35) hsz ⟨_,rfl,?_⟩)
 refine V4 (fun x h'=>h'=h1∧x.1= !Z4 s) ?_ ?_
 ·unfold Z4
  (try dsimp only);rw[U9]
  cases A1l s with
  |false=>rw[if_pos (by rfl)];exact⟨rfl,rfl⟩
  |true=>
   rw[if_neg (by simp)]
   (try dsimp only);rw[U9]
   cases hasB 43 s with
   |true=>rw[if_pos rfl];exact⟨rfl,rfl⟩
   |false=>rw[if_neg (by simp)];exact⟨rfl,by simp⟩
 rintro⟨x,⟨⟩⟩ h2 ⟨rfl,hx⟩
 simp only at hx
 subst hx
 have:=hq _ aa
 unfold A2Q at this
 (try dsimp only);rw[U9]
 cases hn:Z4 s with
 |true=>rw[hn,if_pos rfl] at this;rw[if_neg (by simp)];exact this
 |false=>rw[hn,if_neg (by simp)] at this;rw[if_pos (by rfl)];exact this
theorem A5A(hs:sat h R){s:B3O}(hsz:s.size≤9223372036854775800){Q:Value→Heap→Prop}
  (hq:∀h',sat h' R→Q (.int .i64 (A91 s)) h'):V3 prog 240 #[.string s] h Q:=by
 refine A6C s h Q ?_
 delta A5z bn cb cc ie ix lt pu wi
 refine U6 (B3o hs hsz fun h1 aa=>⟨_,rfl,?_⟩)
 unfold A91 X5 at hq
 (try dsimp only);rw[U9]
 cases hz:A1l s with
 |false=>
  rw[hz] at hq
  rw[if_pos (by rfl)]
  exact hq _ aa
 |true=>
 rw[hz,G3] at hq
 rw[if_neg (by simp)]
 have hle:=A3F hz
 refine U6 (A4B aa hle fun sl h2 ae=>⟨sl,rfl,?_⟩)
 have hlen:=ae.aW
 have aM:=ae.aO A1F
 have hn:(levels s).length≤32:=(A0X.1 hz).2.2.2
 have fc:∀x∈levels s,x.size≤256:=fun x hx=>C4 (C3U hx) hle
 generalize levels s=l at hlen aM hn hq fc
 have aj:=ae.drop
 clear ae
 (try dsimp only);rw[U1]
 refine l9 (γ:=Nat) (fun g c h'=>h'=h2∧c.1=(((l.length-g:Nat)):Int)∧g≤l.length∧A4d l=A4d (l.drop (l.length-g))) (fun g=>g) l.length ⟨rfl,by simp,D9 _,by simp⟩ ?_
 rintro g ⟨c,⟨⟩⟩ h' ⟨rfl,hc,hg,hf⟩
 simp only at hc
 subst hc
 (try dsimp only);rw[U9]
 by_cases ah:l.length-g<l.length
 ·rw[if_pos (by simp only[decide_eq_true_eq,hlen];omega)]
  obtain⟨x,hx⟩:∃x,l[l.length-g]? =some x:=⟨_,B0 ah⟩
  have ym:x.size≤256:=fc x (E9 hx)
  have ld:∀{Q:B3O→Heap→Prop},Q x h'→(HM.bind (A3W sl.a sl.len (((l.length-g:Nat)):Int) 1) fun a=>l6 .str a) h' Q:=by
   intro Q hQ
   (try dsimp only);rw[U1]
   refine X8 aM hx fun a ha=>?_
   exact⟨x,by have:=ha 0 (.string x) rfl;rwa[Go.H.add_zero] at this,hQ⟩
  have rp:∀{β:Type} {k:B3O→HM β} {Q:β→Heap→Prop},k x h' Q→(HM.bind (A3W sl.a sl.len (((l.length-g:Nat)):Int) 1) fun a=>HM.bind (l6 .str a) k) h' Q:=fun hk=>ld (Q:=fun y aR=>_) hk
  rw[A6P hx,A7A] at hf
  have fp:(l.drop (l.length-g+1)).isEmpty=decide (l.length-g+1=l.length):=by
   by_cases he:l.length-g+1=l.length
   ·rw[he];simp
   ·have:l.drop (l.length-g+1)≠[]:=by simp;omega
    cases hh:l.drop (l.length-g+1) with
    |nil=>exact absurd hh this
    |cons=>simp[he]
  rw[fp] at hf
  have hw:IntKind.wrap .i64 ((sl.len:Int)-1)=(l.length:Int)-1:=by rw[hlen];exact V8 (by omega) (by omega)
  have je:IntKind.wrap .i64 (((l.length-g:Nat):Int)+1)=((l.length-(g-1):Nat):Int):=by rw[V8 (by omega) (by omega)];omega
  have ay:l.length-g+1=l.length-(g-1):=by omega
  rw[ay] at hf
  rw[hw,je]
  refine rp ?_
  refine U6 (B1N (c:=43) (by omega) ⟨_,rfl,?_⟩)
  refine rp ?_
  refine U6 (B1N (c:=35) (by omega) ⟨_,rfl,?_⟩)
  unfold B2L at hf
  refine V4 (fun z aR=>aR=h'∧z.1=(hasB 43 x&&decide (x≠r8))) ?_ ?_
  ·(try dsimp only);rw[U9]
   cases hasB 43 x with
   |true=>
    rw[if_pos rfl]
    refine rp ⟨rfl,?_⟩
    by_cases hp:x=ByteArray.mk #[43]<;>simp[r8,hp]
   |false=>rw[if_neg (by simp)];exact⟨rfl,rfl⟩
  rintro⟨z,⟨⟩⟩ aR ⟨rfl,dx⟩
  simp only at dx
  subst dx
  (try dsimp only);rw[U9]
  cases ha:(hasB 43 x&&decide (x≠r8)) with
  |true=>
   rw[ha,Bool.true_or,N7,K6] at hf
   rw[hf,if_neg (by simp)] at hq
   rw[if_pos rfl]
   simp only[D7,E8,V1]
   exact hq _ aj
  |false=>
  rw[ha,S3] at hf
  rw[if_neg (by simp)]
  refine V4 (fun z h'=>h'=aR∧z.1=(hasB 35 x&&(decide (x≠o8)|| !decide (l.length-(g-1)=l.length)))) ?_ ?_
  ·(try dsimp only);rw[U9]
   cases hasB 35 x with
   |true=>
    rw[if_pos rfl]
    refine rp ?_
    (try dsimp only);rw[U9]
    by_cases kQ:x=o8
    ·rw[if_neg (by simpa[o8] using kQ)]
     refine⟨rfl,?_⟩
     simp only[kQ,ne_eq,not_true_eq_false,decide_false,S3,G3]
     rw[←decide_not,G6]
     omega
    ·rw[if_pos (by simpa[o8] using kQ)]
     exact⟨rfl,by simp[kQ]⟩
   |false=>rw[if_neg (by simp)];exact⟨rfl,rfl⟩
  rintro⟨z,⟨⟩⟩ h3 ⟨rfl,dx⟩
  simp only at dx
  subst dx
  (try dsimp only);rw[U9]
  cases hb:(hasB 35 x&&(decide (x≠o8)|| !decide (l.length-(g-1)=l.length))) with
  |true=>
   rw[hb,N7,K6] at hf
   rw[hf,if_neg (by simp)] at hq
   rw[if_pos rfl]
   simp only[D7,E8,V1]
   exact hq _ aj
  |false=>
   rw[hb,S6,G3] at hf
   rw[if_neg (by simp)]
   simp only[D7,E8,V1]
   exact .mk (g-1) (by omega) ⟨rfl,rfl,by omega,hf⟩
 ·rw[if_neg (by simp only[decide_eq_true_eq,hlen];omega)]
  simp only[D7,E8,V1]
  have:l.drop (l.length-g)=[]:=by simp;omega
  rw[this] at hf
  rw[hf] at hq
  exact hq _ aj
theorem C5P{f n:B3O}(hf:f.size≠0)(hn:n.size≠0){Q:Bool×Unit→Heap→Prop}(hq:Q (A3Z f n,()) h):
  (HM.bind (α:=Int) (A5f n 0) fun(x4:Int)=>
   A04 (x4==36) (
   HM.bind (α:=Int) (A5f f 0) fun(x5:Int)=>
   A04 (x5==43) (
   W9 (true,())) (
   HM.bind (α:=Int) (A5f f 0) fun(x6:Int)=>
   W9 (x6==35,()))) (
   W9 (false,()))) h Q:=by
 unfold A3Z at hq
 refine⟨n.get! 0,by decide,A3o (k:=0) (by omega),?_⟩
 (try dsimp only);rw[U9,show(36:Int)=((36:UInt8).toNat:Int) from rfl,A7J]
 by_cases jU:n.get! 0=36
 ·rw[if_pos (by simpa using jU)]
  refine⟨f.get! 0,by decide,A3o (k:=0) (by omega),?_⟩
  (try dsimp only);rw[U9,show(43:Int)=((43:UInt8).toNat:Int) from rfl,A7J]
  by_cases er:f.get! 0=43
  ·rw[if_pos (by simpa using er)]
   simp only[jU,er,decide_true,G3,Bool.true_or] at hq
   exact hq
  ·rw[if_neg (by simpa using er)]
   refine⟨f.get! 0,by decide,A3o (k:=0) (by omega),?_⟩
   simp only[V1]
   rw[show(35:Int)=((35:UInt8).toNat:Int) from rfl,A7J]
   simp only[jU,er,decide_true,decide_false,G3,S3] at hq
   exact hq
 ·rw[if_neg (by simpa using jU)]
  simp only[jU,decide_false,K6] at hq
  exact hq
theorem B3C(hs:sat h R){f n:B3O}(oO:f.size≤9223372036854775800)(rH:n.size≤9223372036854775800){Q:Value→Heap→Prop}
  (hq:∀h',sat h' R→Q (.bool (Y8 f n)) h'):V3 prog 192 #[.string f,.string n] h Q:=by
 refine B1e f n h Q ?_
 delta B3A bn cc ci ie ix lt pu wi
 refine U6 (A5A hs oO fun h1 aa=>⟨_,rfl,?_⟩)
 refine U6 (A4m aa rH fun h2 ae=>⟨_,rfl,?_⟩)
 refine V4 (fun x h'=>h'=h2∧x.1= !(X5 f&&Z4 n)) ?_ ?_
 ·unfold A91 A2Q
  (try dsimp only);rw[U9]
  cases hf:X5 f with
  |false=>rw[if_pos (by rfl)];exact⟨rfl,rfl⟩
  |true=>
   rw[if_neg (by simp)]
   cases hn:Z4 n<;>exact⟨rfl,rfl⟩
 rintro⟨x,⟨⟩⟩ h3 ⟨rfl,hx⟩
 simp only at hx
 subst hx
 unfold Y8 at hq
 (try dsimp only);rw[U9]
 cases ag:(X5 f&&Z4 n) with
 |false=>
  rw[ag] at hq
  rw[if_pos (by rfl)]
  exact hq _ ae
 |true=>
 rw[ag,G3] at hq
 rw[if_neg (by simp)]
 rw[F0] at ag
 have jf:=A0X.1 (A0z ag.1)
 have eR:=A0X.1 (A4D ag.2)
 refine V4 (fun x h'=>h'=h3∧x.1=A3Z f n) (C5P jf.2.1 eR.2.1 ⟨rfl,rfl⟩) ?_
 rintro⟨x,⟨⟩⟩ h4 ⟨rfl,hx⟩
 simp only at hx
 subst hx
 (try dsimp only);rw[U9]
 cases iH:A3Z f n with
 |true=>
  rw[iH] at hq
  rw[if_pos rfl]
  exact hq _ ae
 |false=>
 rw[iH,S6,G3] at hq
 rw[if_neg (by simp)]
 refine U6 (A4B ae jf.2.2.1 fun sf h3 aj=>⟨sf,rfl,?_⟩)
 refine U6 (A4B aj eR.2.2.1 fun sn h4 ak=>⟨sn,rfl,?_⟩)
 have pT:=ak.aO A1F
 have nJ:=ak.p1.aO A1F
 have ai:sat h4 R:=ak.drop.drop
 have vb:(levels f).length≤32:=jf.2.2.2
 have ke:(levels n).length≤32:=eR.2.2.2
 clear ak aj
 generalize levels f=lf at*
 generalize levels n=ln at*
 have fa:=nJ.1
 have fg:=pT.1
 (try dsimp only);rw[U1]
 refine l9 (γ:=Nat) (fun g c h'=>h'=h4∧c.1=(((lf.length-g:Nat)):Int)∧g≤lf.length∧lf.length-g≤ln.length∧A2o lf ln=A2o (lf.drop (lf.length-g)) (ln.drop (lf.length-g))) (fun g=>g) lf.length ⟨rfl,by simp,D9 _,by simp,by simp⟩ ?_
 rintro g ⟨c,⟨⟩⟩ h' ⟨rfl,hc,hg,vw,hm⟩
 simp only at hc
 subst hc
 (try dsimp only);rw[U9]
 by_cases ah:lf.length-g<lf.length
 ·rw[if_pos (by simp only[decide_eq_true_eq,fa];omega)]
  obtain⟨x,hx⟩:∃x,lf[lf.length-g]? =some x:=⟨_,B0 ah⟩
  have ldf:∀{β:Type} {k:B3O→HM β} {Q:β→Heap→Prop},k x h' Q→(HM.bind (A3W sf.a sf.len (((lf.length-g:Nat)):Int) 1) fun a=>HM.bind (l6 .str a) k) h' Q:=by
   intro β k Q hQ
   (try dsimp only);rw[U1]
   refine X8 nJ hx fun a ha=>?_
   exact⟨x,by have:=ha 0 (.string x) rfl;rwa[Go.H.add_zero] at this,hQ⟩
  rw[A6P hx,A39] at hm
  have ay:lf.length-g+1=lf.length-(g-1):=by omega
  have je:IntKind.wrap .i64 (((lf.length-g:Nat):Int)+1)=((lf.length-(g-1):Nat):Int):=by rw[V8 (by omega) (by omega)];omega
  rw[je]
  refine ldf ?_
  (try dsimp only);rw[U9]
  by_cases kO:x=o8
  ·rw[if_pos kO] at hm
   rw[hm] at hq
   rw[if_pos (by simpa[o8] using kO)]
   simp only[D7,E8,V1]
   exact hq _ ai
  rw[if_neg kO] at hm
  rw[if_neg (by simpa[o8] using kO)]
  (try dsimp only);rw[U9]
  by_cases xg:ln.length≤lf.length-g
  ·rw[if_pos (by simp only[decide_eq_true_eq];omega)]
   rw[show ln.drop (lf.length-g)=[] by simp;omega] at hm
   rw[hm] at hq
   simp only[D7,E8,V1]
   exact hq _ ai
  rw[if_neg (by simp only[decide_eq_true_eq];omega)]
  obtain⟨y,hy⟩:∃y,ln[lf.length-g]? =some y:=⟨_,B0 (by omega)⟩
  rw[A6P hy,ay] at hm
  simp only at hm
  refine V4 (fun z aR=>aR=h'∧z.1=decide (x≠r8∧x≠y)) ?_ ?_
  ·refine ldf ?_
   (try dsimp only);rw[U9]
   by_cases nB:x=r8
   ·rw[if_neg (by simpa[r8] using nB)]
    exact⟨rfl,by simp[nB]⟩
   ·rw[if_pos (by simpa[r8] using nB)]
    refine ldf ?_
    (try dsimp only);rw[U1]
    refine X8 pT hy fun a ha=>?_
    refine⟨y,by have:=ha 0 (.string y) rfl;rwa[Go.H.add_zero] at this,rfl,?_⟩
    by_cases oD:x=y<;>simp[nB,oD]
  rintro⟨z,⟨⟩⟩ aR ⟨rfl,hz⟩
  simp only at hz
  subst hz
  (try dsimp only);rw[U9]
  by_cases hc:x≠r8∧x≠y
  ·rw[if_pos hc] at hm
   rw[hm] at hq
   rw[if_pos (by simpa using hc)]
   simp only[D7,E8,V1]
   exact hq _ ai
  ·rw[if_neg hc] at hm
   rw[if_neg (by simpa using hc)]
   simp only[D7,E8,V1]
   exact .mk (g-1) (by omega) ⟨rfl,rfl,by omega,by omega,hm⟩
 ·rw[if_neg (by simp only[decide_eq_true_eq,fa];omega)]
  simp only[D7,E8,V1]
  rw[show lf.drop (lf.length-g)=[] by simp;omega] at hm
  have he:((sf.len:Int)==(sn.len:Int))=A2o lf ln:=by
   rw[hm]
   simp only[A2o]
   rw[fa,fg]
   by_cases he:lf.length=ln.length
   ·rw[show ln.drop (lf.length-g)=[] by simp;omega]
    simp[he]
   ·cases hd:ln.drop (lf.length-g) with
    |nil=>rw[List.drop_eq_nil_iff] at hd;omega
    |cons=>simpa using fun e=>he (by omega)
  rw[he]
  exact hq _ ai
end
section
open Go.H Go.Proofs Go.Lib
variable {h h0:Heap} {R:List Asn}
def A1N(b:Nat)(most:Int)(L:List j7):Asn:=exA fun s:Slc=>star (cells b #[.int .i64 most,.slice s.a s.len s.cap]) (U5 A0c 3 s L)
theorem A2L{b:Nat}{most:Int}{L:List j7}:sat h (A1N b most L::R)↔∃s:Slc,sat h (cells b #[.int .i64 most,.slice s.a s.len s.cap]::U5 A0c 3 s L::R):=by
 unfold A1N
 rw[sat.bA]
 constructor
 ·rintro⟨m,hs⟩;exact⟨m,sat.aI.1 hs⟩
 ·rintro⟨m,hs⟩;exact⟨m,sat.aI.2 hs⟩
theorem C3F(hs:sat h R)(n:Int){Q:Value→Heap→Prop}(hq:∀b h',sat h' (A1N b (B8G n) []::R)→Q (B1m b) h'):V3 prog 45 #[.int .i64 n] h Q:=by
 refine B4c n h Q ?_
 delta B7n az bn ie nw pu vi vz
 refine V4 (fun z h'=>h'=h∧z.1=if n<0 then 0 else n) ?_ ?_
 ·(try dsimp only);rw[U9]
  by_cases h1:n<0
  ·rw[if_pos (by simpa using h1)];exact⟨rfl,by simp[h1]⟩
  ·rw[if_neg (by simpa using h1)];exact⟨rfl,by simp[h1]⟩
 rintro⟨x,⟨⟩⟩ h1 ⟨rfl,hx⟩
 simp only at hx
 subst hx
 refine V4 (fun z h'=>h'=h1∧z.1=B8G n) ?_ ?_
 ·(try dsimp only);rw[U9]
  unfold B8G
  by_cases h2:64<(if n<0 then 0 else n)
  ·rw[if_pos (by simpa using h2)]
   refine⟨rfl,?_⟩
   simp only
   split at h2<;>split<;>split<;>omega
  ·rw[if_neg (by simpa using h2)]
   refine⟨rfl,?_⟩
   simp only
   split at h2<;>split<;>split<;>omega
 rintro⟨x,⟨⟩⟩ h2 ⟨rfl,hx⟩
 simp only at hx
 subst hx
 refine V5 hs fun b h3 aj=>?_
 exact hq b h3 (A2L.2 ⟨⟨none,0,0⟩,(Z3 (enc:=A0c) (size:=3) aj).p1⟩)
theorem B5A{a:Addr}{m:j7}(ha:∀j v,(A0c m)[j]? =some v→W0 h (a.add j)=some v){Q:j7→Heap→Prop}(hq:Q m h):o3 [.str,.str,.int .i64] a h Q:=
 A0n (ts:=[.str,.str,.int .i64]) m (fun i v hv=>ha i v hv) hq
def A4u(L:List j7)(k:B3O):List j7:=L.filter fun m=>decide (m.1≠k)
theorem B8a{s:Slc}{L:List j7}{k:B3O}(hs:sat h (U5 A0c 3 s L::R))(hL:L.length≤1000){Q:Value→Heap→Prop}
  (hq:∀(sl:Slc) h',sat h' (U5 A0c 3 sl (A4u L k)::U5 A0c 3 s L::R)→Q (.slice sl.a sl.len sl.cap) h'):V3 prog 191 #[.slice s.a s.len s.cap,.string k] h Q:=by
 refine A9v s k h Q ?_
 delta A9R az bn ie ix kt nw pu ve vi wi
 have hlen:=hs.aW
 (try dsimp only);rw[U1]
 refine l9 (γ:=Nat) (fun g c h'=>c.2.1=(((L.length-g:Nat)):Int)∧g≤L.length∧sat h' (U5 A0c 3 c.1 (A4u (L.take (L.length-g)) k)::U5 A0c 3 s L::R)) (fun g=>g) L.length
  ⟨by simp,D9 _,by rw[Q3];exact Z3 hs⟩ ?_
 rintro g ⟨out,c,⟨⟩⟩ h2 ⟨hc,hg,ai⟩
 simp only at hc ai
 subst hc
 (try dsimp only);rw[U9]
 by_cases hi:L.length-g<L.length
 ·rw[if_pos (by simp only[decide_eq_true_eq,hlen];omega)]
  obtain⟨m,hm⟩:∃m,L[L.length-g]? =some m:=⟨_,B0 hi⟩
  have hw:IntKind.wrap .i64 ((((L.length-g:Nat)):Int)+1)=((L.length-(g-1):Nat):Int):=by rw[V8 (by omega) (by omega)];omega
  have fk:L.take (L.length-(g-1))=L.take (L.length-g)++[m]:=by
   rw[show L.length-(g-1)=L.length-g+1 by omega,H8,hm]
   rfl
  (try dsimp only);rw[U1]
  refine X8 (ai.p1.aO A3T) hm fun a ha=>?_
  refine⟨m.1,ha 0 _ rfl,?_⟩
  refine V4 (fun z h'=>sat h' (U5 A0c 3 z.1 (A4u (L.take (L.length-(g-1))) k)::U5 A0c 3 s L::R)) ?_ ?_
  ·rw[fk]
   unfold A4u
   rw[F3]
   (try dsimp only);rw[U9]
   by_cases he:m.1=k
   ·rw[if_neg (by simpa using he)]
    simp only[H6,he,ne_eq,not_true_eq_false,decide_false,H7,if_false,J9,C1]
    exact ai
   ·rw[if_pos (by simpa using he)]
    (try dsimp only);rw[U1]
    refine X8 (ai.p1.aO A3T) hm fun a' i'=>?_
    (try dsimp only);rw[U1]
    refine B5A i' ?_
    have jG:(A4u (L.take (L.length-g)) k).length≤1000:=by
     unfold A4u
     refine C4 (D4 _ _) ?_
     rw[E6]
     omega
    refine A06 (x:=m) A3T A7E rfl ai (by decide) (by decide) (by omega) fun s' h4 aK=>?_
    simp only[H6,he,ne_eq,not_false_eq_true,decide_true,if_true,J9]
    exact aK
  rintro⟨z,⟨⟩⟩ h4 aK
  simp only[D7,E8,V1]
  exact .mk (g-1) (by omega) ⟨by simp only[hw],by omega,aK⟩
 ·rw[if_neg (by simp only[decide_eq_true_eq,hlen];omega)]
  rw[D6 (by omega)] at ai
  exact hq out h2 ai
def B0d(most:Int)(L:List j7)(m:j7):Int×List j7:=
 if Z4 m.1=false then(144,L)
 else if m.2.2.1<0∨2<m.2.2.1 then(155,L)
 else if m.2.1.size=0 then(0,A4u L m.1)
 else if(A4u L m.1).length=L.length∧most≤(A4u L m.1).length then(151,L)
 else(0,A2q ltS (·.1) m (A4u L m.1))
def A8J(m:j7):List j7→Bool×List j7
 |[]=>(false,[])
 |x::r=>if ltS m.1 x.1 then(true,m::x::r) else((A8J m r).1,x::(A8J m r).2)
theorem C1K(m:j7):∀L:List j7,A2q ltS (·.1) m L=(if(A8J m L).1=true then(A8J m L).2 else(A8J m L).2++[m])
 |[]=>rfl
 |x::r=>by
  unfold A2q A8J
  split
  ·simp
  ·rw[C1K m r]
   split<;>rename_i h1<;>simp[h1]
def A3m(m:j7)(L:List j7):Bool×List j7:=L.foldl (fun c x=>if c.1=false∧ltS m.1 x.1 then(true,c.2++[m,x]) else(c.1,c.2++[x])) (false,[])
theorem C1L(m:j7)(L:List j7)(x:j7):A3m m (L++[x])=(if(A3m m L).1=false∧ltS m.1 x.1 then(true,(A3m m L).2++[m,x]) else((A3m m L).1,(A3m m L).2++[x])):=by
 unfold A3m
 rw[List.foldl_append]
 rfl
theorem B5F(m:j7):∀(L out:List j7),L.foldl (fun c x=>if c.1=false∧ltS m.1 x.1 then(true,c.2++[m,x]) else(c.1,c.2++[x])) (true,out)=(true,out++L)
 |[],out=>by simp
 |x::r,out=>by
  rw[I1,if_neg (by simp),B5F m r]
  simp
theorem B5G(m:j7):∀(L out:List j7),L.foldl (fun c x=>if c.1=false∧ltS m.1 x.1 then(true,c.2++[m,x]) else(c.1,c.2++[x])) (false,out)=((A8J m L).1,out++(A8J m L).2)
 |[],out=>by simp[A8J]
 |x::r,out=>by
  rw[I1]
  by_cases hx:ltS m.1 x.1
  ·rw[if_pos ⟨rfl,hx⟩,B5F]
   simp[A8J,hx]
  ·rw[if_neg (fun h=>hx h.2),B5G m r]
   simp[A8J,hx]
theorem C3X(m:j7)(L:List j7):A2q ltS (·.1) m L=(if(A3m m L).1=true then(A3m m L).2 else(A3m m L).2++[m]):=by
 unfold A3m
 rw[B5G,C1K]
 simp
theorem B7L(m:j7):∀(L:List j7),(A3m m L).2.length≤L.length+1:=fun L=>by
 unfold A3m
 rw[B5G]
 have:=(A1M ltS (fun x:j7=>x.1) m L).length_eq
 rw[C1K] at this
 simp only[F2,B8] at this⊢
 split at this
 ·omega
 ·simp at this;omega
theorem C3D{b:Nat}{most:Int}{L:List j7}{m:j7}(hs:sat h (A1N b most L::R))(hL:L.length≤64)(hsz:m.1.size≤9223372036854775800){Q:Value→Heap→Prop}
  (hq:∀h',sat h' (A1N b most (B0d most L m).2::R)→Q (.int .i64 (B0d most L m).1) h'):V3 prog 136 #[B1m b,vM m] h Q:=by
 refine B4b (some ⟨b,0,none⟩) m h Q ?_
 obtain⟨s,hs⟩:=A2L.1 hs
 delta B7m az bn cc ci ie ix ji jt kc ki kt nn nw pu sx ve vi vs wi
 refine V5 hs fun x h1 aa=>?_
 refine⟨m.1,by rw[U3];exact aa.cell 0,?_⟩
 refine U6 (A4m aa hsz fun h2 ba=>⟨_,rfl,?_⟩)
 have ae:sat h2 (cells x (A0c m).toArray::cells b #[.int .i64 most,.slice s.a s.len s.cap]::U5 A0c 3 s L::R):=ba
 clear ba aa hs
 have fin:∀{h'},sat h' (cells x (A0c m).toArray::cells b #[.int .i64 most,.slice s.a s.len s.cap]::U5 A0c 3 s L::R)→sat h' (A1N b most L::R):=fun hh=>A2L.2 ⟨s,hh.drop⟩
 unfold B0d at hq
 (try dsimp only);rw[U9]
 cases hn:Z4 m.1 with
 |false=>
  rw[if_pos hn] at hq
  rw[if_pos (by simp[A2Q,hn])]
  exact hq _ (fin ae)
 |true=>
 rw[if_neg (by simp[hn])] at hq
 rw[if_neg (by simp[A2Q,hn])]
 refine V4 (fun z h'=>h'=h2∧z.1=decide (m.2.2.1<0∨2<m.2.2.1)) ?_ ?_
 ·refine⟨m.2.2.1,by rw[U3];exact ae.cell 2,?_⟩
  (try dsimp only);rw[U9]
  by_cases h1:m.2.2.1<0
  ·rw[if_pos (by simpa using h1)]
   exact⟨rfl,by simp[h1]⟩
  ·rw[if_neg (by simpa using h1)]
   refine⟨m.2.2.1,by rw[U3];exact ae.cell 2,rfl,?_⟩
   simp[h1]
 rintro⟨z,⟨⟩⟩ h3 ⟨rfl,hz⟩
 simp only at hz
 subst hz
 (try dsimp only);rw[U9]
 by_cases dV:m.2.2.1<0∨2<m.2.2.1
 ·rw[if_pos dV] at hq
  rw[if_pos (by simpa using dV)]
  exact hq _ (fin ae)
 rw[if_neg dV] at hq
 rw[if_neg (by simpa using dV)]
 refine⟨_,rfl,s,by rw[U3];exact ae.p1.cell 1,?_⟩
 refine⟨m.1,by rw[U3];exact ae.cell 0,?_⟩
 refine U6 (B8a (ae.re [2,0,1]) (by omega) fun sl h4 bp=>⟨sl,rfl,?_⟩)
 have ak:sat h4 (cells x (A0c m).toArray::cells b #[.int .i64 most,.slice s.a s.len s.cap]::U5 A0c 3 sl (A4u L m.1)::U5 A0c 3 s L::R):=bp.re [2,3,0,1]
 clear bp ae
 have wQ:(A4u L m.1).length≤64:=C4 (D4 _ _) hL
 generalize A4u L m.1=T at ak hq wQ
 have fa:sl.len=T.length:=(ak.re [2,0,1]).aW
 have fg:s.len=L.length:=(ak.re [3,0,1,2]).aW
 refine⟨m.2.1,by rw[U3];exact ak.cell 1,?_⟩
 (try dsimp only);rw[U9]
 by_cases hp:m.2.1.size=0
 ·rw[if_pos hp] at hq
  rw[if_pos (by simp[hp])]
  refine⟨_,rfl,?_⟩
  (try dsimp only);rw[U1,U3]
  refine W7 ak.p1 (by simp) rfl fun h5 ai=>?_
  exact hq _ (A2L.2 ⟨sl,(ai.re [0,2,1,3]).re [0,1]|>.re [2,3,0,1]|>.drop.drop⟩)
 rw[if_neg hp] at hq
 rw[if_neg (by simpa using hp)]
 refine V4 (fun z h'=>h'=h4∧z.1=decide (T.length=L.length∧most≤T.length)) ?_ ?_
 ·refine⟨_,rfl,s,by rw[U3];exact ak.p1.cell 1,?_⟩
  (try dsimp only);rw[U9]
  by_cases he:T.length=L.length
  ·rw[if_pos (by simp[fa,fg,he])]
   refine⟨_,rfl,most,by rw[U3];exact ak.p1.cell 0,rfl,?_⟩
   rw[fa]
   simp[he]
  ·rw[if_neg (by simp[fa,fg];omega)]
   exact⟨rfl,by simp[he]⟩
 rintro⟨z,⟨⟩⟩ h5 ⟨rfl,hz⟩
 simp only at hz
 subst hz
 (try dsimp only);rw[U9]
 by_cases hc:T.length=L.length∧most≤T.length
 ·rw[if_pos hc] at hq
  rw[if_pos (by simpa using hc)]
  exact hq _ (A2L.2 ⟨s,(ak.drop.re [1,0,2]).drop⟩)
 rw[if_neg hc] at hq
 rw[if_neg (by simpa using hc)]
 (try dsimp only);rw[U1]
 refine l9 (γ:=Nat) (hb:=fun s=>by
   repeat' with_reducible first
    |refine @A0r _ _ _ _ ?_ (fun _=>?_)
    |refine @A0Z _ _ _ _ ?_ ?_
   all_goals infer_instance)
  (fun g c h'=>c.2.2.1=(((T.length-g:Nat)):Int)∧g≤T.length∧c.1=(A3m m (T.take (T.length-g))).1∧
   sat h' (U5 A0c 3 c.2.1 (A3m m (T.take (T.length-g))).2::cells x (A0c m).toArray::cells b #[.int .i64 most,.slice s.a s.len s.cap]::U5 A0c 3 sl T::U5 A0c 3 s L::R)) (fun g=>g) T.length
  ⟨by simp,D9 _,by simp[A3m],by
   rw[Q3]
   exact Z3 ak⟩ ?_
 rintro g ⟨pb,out,c,⟨⟩⟩ h2 ⟨qM,hg,pZ,ai⟩
 simp only at qM ai pZ
 subst qM
 subst pZ
 (try dsimp only);rw[U9]
 by_cases hi:T.length-g<T.length
 ·rw[if_pos (by simp only[decide_eq_true_eq,fa];omega)]
  obtain⟨y,hy⟩:∃y,T[T.length-g]? =some y:=⟨_,B0 hi⟩
  have hw:IntKind.wrap .i64 ((((T.length-g:Nat)):Int)+1)=((T.length-(g-1):Nat):Int):=by rw[V8 (by omega) (by omega)];omega
  have fk:T.take (T.length-(g-1))=T.take (T.length-g)++[y]:=by
   rw[show T.length-(g-1)=T.length-g+1 by omega,H8,hy]
   rfl
  have dR:=C1L m (T.take (T.length-g)) y
  rw[←fk] at dR
  have lE:=B7L m (T.take (T.length-g))
  rw[E6] at lE
  generalize A3m m (T.take (T.length-g))=st at ai dR lE⊢
  refine V4 (fun z h'=>h'=h2∧z.1=decide (st.1=false∧ltS m.1 y.1)) ?_ ?_
  ·(try dsimp only);rw[U9]
   cases cy:st.1 with
   |true=>rw[if_neg (by simp)];exact⟨rfl,by simp⟩
   |false=>
    rw[if_pos (by rfl)]
    refine⟨m.1,by rw[U3];exact ai.p1.cell 0,?_⟩
    (try dsimp only);rw[U1]
    refine X8 ((ai.re [3,0,1,2]).aO A3T) hy fun a ha=>?_
    refine⟨y.1,ha 0 _ rfl,rfl,?_⟩
    simp only[B96,true_and]
  rintro⟨z,⟨⟩⟩ h6 ⟨rfl,hz⟩
  simp only at hz
  subst hz
  refine V4 (fun z h'=>z.2.1=(A3m m (T.take (T.length-(g-1)))).1∧∃pre,pre++[y]=(A3m m (T.take (T.length-(g-1)))).2∧pre.length≤100∧sat h' (U5 A0c 3 z.1 pre::cells x (A0c m).toArray::cells b #[.int .i64 most,.slice s.a s.len s.cap]::U5 A0c 3 sl T::U5 A0c 3 s L::R)) ?_ ?_
  ·rw[dR]
   (try dsimp only);rw[U9]
   by_cases fT:st.1=false∧ltS m.1 y.1
   ·rw[if_pos (by simpa using fT),if_pos fT]
    refine Y5 (ts:=[.str,.str,.int .i64]) m ai.p1 rfl ?_
    refine A06 (x:=m) A3T A7E rfl ai (by decide) (by decide) (by omega) fun s' h7 aK=>?_
    exact⟨rfl,st.2++[m],by simp,by simp;omega,aK⟩
   ·rw[if_neg (by simpa using fT),if_neg fT]
    exact⟨rfl,st.2,rfl,by omega,ai⟩
  rintro⟨z1,z2,⟨⟩⟩ h7 ⟨gz,pre,jJ,lH,aK⟩
  simp only at gz aK
  (try dsimp only);rw[U1]
  refine X8 ((aK.re [3,0,1,2]).aO A3T) hy fun a ha=>?_
  (try dsimp only);rw[U1]
  refine B5A ha ?_
  refine A06 (x:=y) A3T A7E rfl aK (by decide) (by decide) (by omega) fun s' h8 bw=>?_
  rw[jJ] at bw
  simp only[D7,E8,V1]
  exact .mk (g-1) (by omega) ⟨by simp only[hw],by omega,gz,bw⟩
 ·rw[if_neg (by simp only[decide_eq_true_eq,fa];omega)]
  rw[D6 (by omega)] at ai⊢
  have qC:=C3X m T
  have lE:=B7L m T
  generalize A3m m T=st at ai qC lE⊢
  simp only[D7,E8,V1]
  refine V4 (fun z h'=>sat h' (U5 A0c 3 z.1 (A2q ltS (·.1) m T)::cells x (A0c m).toArray::cells b #[.int .i64 most,.slice s.a s.len s.cap]::U5 A0c 3 sl T::U5 A0c 3 s L::R)) ?_ ?_
  ·rw[qC]
   (try dsimp only);rw[U9]
   cases cy:st.1 with
   |true=>rw[if_neg (by simp),if_pos rfl];exact ai
   |false=>
    rw[if_pos (by rfl),if_neg (by simp)]
    refine Y5 (ts:=[.str,.str,.int .i64]) m ai.p1 rfl ?_
    refine A06 (x:=m) A3T A7E rfl ai (by decide) (by decide) (by omega) fun s' h7 aK=>aK
  rintro⟨z,⟨⟩⟩ h7 aK
  simp only at aK
  refine⟨_,rfl,?_⟩
  (try dsimp only);rw[U1,U3]
  refine W7 (aK.re [2,0,1]) (by simp) rfl fun h8 bw=>?_
  exact hq _ (A2L.2 ⟨z,(bw.re [2,3,4,0,1]).drop.drop.drop⟩)
def C7U(L:List j7)(k:B3O):Option j7:=L.find? fun m=>decide (m.1=k)
def A56(L:List j7)(f:B3O):List j7:=L.filter fun m=>Y8 f m.1
theorem C3H{b:Nat}{most:Int}{L:List j7}{f:B3O}(hs:sat h (A1N b most L::R))(hL:L.length≤64)(hk:∀m∈L,m.1.size≤256)(hsz:f.size≤9223372036854775800){Q:Value→Heap→Prop}
  (hq:∀(sl:Slc) h',sat h' (U5 A0c 3 sl (A56 L f)::A1N b most L::R)→Q (.slice sl.a sl.len sl.cap) h'):V3 prog 197 #[B1m b,.string f] h Q:=by
 refine B04 (some ⟨b,0,none⟩) f h Q ?_
 obtain⟨s,hs⟩:=A2L.1 hs
 have hl:s.len=L.length:=hs.p1.aW
 delta B3s az bn cb ie ix kc kt nn nw pu ve vi wi
 (try dsimp only);rw[U1]
 refine l9 (γ:=Nat) (hb:=fun s=>by
   repeat' with_reducible first
    |refine @A0r _ _ _ _ ?_ (fun _=>?_)
    |refine @A0Z _ _ _ _ ?_ ?_
   all_goals infer_instance)
  (fun g c h'=>c.2.1=(((L.length-g:Nat)):Int)∧g≤L.length∧sat h' (U5 A0c 3 c.1 (A56 (L.take (L.length-g)) f)::cells b #[.int .i64 most,.slice s.a s.len s.cap]::U5 A0c 3 s L::R)) (fun g=>g) L.length
  ⟨by simp,D9 _,by rw[Q3];exact Z3 hs⟩ ?_
 rintro g ⟨out,c,⟨⟩⟩ h2 ⟨hc,hg,ai⟩
 simp only at hc ai
 subst hc
 refine⟨_,rfl,s,by rw[U3];exact ai.p1.cell 1,?_⟩
 (try dsimp only);rw[U9]
 by_cases hi:L.length-g<L.length
 ·rw[if_pos (by simp only[decide_eq_true_eq,hl];omega)]
  obtain⟨m,hm⟩:∃m,L[L.length-g]? =some m:=⟨_,B0 hi⟩
  have yr:m.1.size≤256:=hk m (E9 hm)
  have hw:IntKind.wrap .i64 ((((L.length-g:Nat)):Int)+1)=((L.length-(g-1):Nat):Int):=by rw[V8 (by omega) (by omega)];omega
  have fk:L.take (L.length-(g-1))=L.take (L.length-g)++[m]:=by
   rw[show L.length-(g-1)=L.length-g+1 by omega,H8,hm]
   rfl
  refine⟨_,rfl,s,by rw[U3];exact ai.p1.cell 1,?_⟩
  (try dsimp only);rw[U1]
  refine X8 ((ai.re [2,0,1]).aO A3T) hm fun a ha=>?_
  refine⟨m.1,ha 0 _ rfl,?_⟩
  refine U6 (B3C ai hsz (by omega) fun h3 gI=>⟨_,rfl,?_⟩)
  have aw:sat h3 (U5 A0c 3 out (A56 (L.take (L.length-g)) f)::cells b #[.int .i64 most,.slice s.a s.len s.cap]::U5 A0c 3 s L::R):=gI
  clear gI ai
  refine V4 (fun z h'=>sat h' (U5 A0c 3 z.1 (A56 (L.take (L.length-(g-1))) f)::cells b #[.int .i64 most,.slice s.a s.len s.cap]::U5 A0c 3 s L::R)) ?_ ?_
  ·rw[fk]
   unfold A56
   rw[F3]
   (try dsimp only);rw[U9]
   cases va:Y8 f m.1 with
   |true=>
    rw[if_pos rfl]
    refine⟨_,rfl,s,by rw[U3];exact aw.p1.cell 1,?_⟩
    (try dsimp only);rw[U1]
    refine X8 ((aw.re [2,0,1]).aO A3T) hm fun a' i'=>?_
    (try dsimp only);rw[U1]
    refine B5A i' ?_
    have jG:(A56 (L.take (L.length-g)) f).length≤64:=by
     unfold A56
     refine C4 (D4 _ _) ?_
     rw[E6]
     omega
    refine A06 (x:=m) A3T A7E rfl aw (by decide) (by decide) (by omega) fun s' h4 aK=>?_
    simp only[H6,va,if_true,J9]
    exact aK
   |false=>
    rw[if_neg (by simp)]
    simp only[H6,va,H7,if_false,J9,C1]
    exact aw
  rintro⟨z,⟨⟩⟩ h4 aK
  simp only[D7,E8,V1]
  exact .mk (g-1) (by omega) ⟨by simp only[hw],by omega,aK⟩
 ·rw[if_neg (by simp only[decide_eq_true_eq,hl];omega)]
  rw[D6 (by omega)] at ai
  exact hq out h2 ((A2L.2 ⟨s,ai.re [1,2,0]⟩).p1)
end
section
open Go.H Go.Proofs Go.Lib
structure Sto(most:Int)(l:List (B3O×j7))(L:List j7):Prop where
 rel:Rel ltS (fun m:j7=>m.1) l L
 len:(l.length:Int)≤most
 small:∀p∈l,p.1.size≤256
theorem Sto.nil{most:Int}(h:0≤most):Sto most [] []:=⟨Rel.nil,by simpa using h,by simp⟩
variable {most:Int} {l:List (B3O×j7)} {L:List j7}
theorem Sto.lenL(h:Sto most l L)(hm:most≤64):l.length≤64∧L.length≤64:=by
 have:=h.len
 have:=h.rel.len
 omega
theorem Sto.get(h:Sto most l L)(k:B3O):W3 l k=C7U L k:=h.rel.get C1v k
theorem B5Y(x:B3O):x=ByteArray.mk #[]↔x.size=0:=by
 constructor
 ·rintro rfl;rfl
 ·intro h0
  refine data_inj ?_
  have:x.data.toList.length=0:=by rw[N6];exact h0
  rw[K9.1 this]
theorem B9I{k:B3O}:(A4u L k).length=L.length↔C7U L k=none:=by
 unfold A4u C7U
 rw[O0,E7]
 constructor
 ·intro h x hx;simpa using h x hx
 ·intro h x hx;simpa using h x hx
theorem Sto.set(h:Sto most l L)(m:j7):(C3v most l m).1=(B0d most L m).1∧Sto most (C3v most l m).2 (B0d most L m).2:=by
 unfold C3v B0d
 by_cases h1:Z4 m.1=false
 ·rw[if_pos h1,if_pos h1];exact⟨rfl,h⟩
 rw[if_neg h1,if_neg h1]
 have hsz:m.1.size≤256:=A3F (A4D (by simpa using h1))
 by_cases h2:m.2.2.1<0∨2<m.2.2.1
 ·rw[if_pos h2,if_pos h2];exact⟨rfl,h⟩
 rw[if_neg h2,if_neg h2]
 by_cases h3:m.2.1=ByteArray.mk #[]
 ·rw[if_pos h3,if_pos ((B5Y _).1 h3)]
  refine⟨rfl,h.rel.del m.1,?_,fun p hp=>?_⟩
  ·have:=h.len
   have h4:(mdel l m.1).length≤l.length:=by rw[A1C h.rel.nd];exact D4 _ _
   simp only
   omega
  ·rw[A1C h.rel.nd] at hp
   exact h.small p (D5.1 hp).1
 rw[if_neg h3,if_neg (fun e=>h3 ((B5Y _).2 e))]
 have bt:=h.get m.1
 have gX:=h.rel.len
 by_cases h4:W3 l m.1=none
 ·have h5:=B9I.2 (bt▸h4)
  by_cases h6:most≤l.length
  ·rw[if_pos ⟨h4,h6⟩,if_pos ⟨h5,by rw[h5];omega⟩];exact⟨rfl,h⟩
  ·rw[if_neg (fun e=>h6 e.2),if_neg (fun e=>h6 (by have:=e.2;rw[h5] at this;omega))]
   refine⟨rfl,h.rel.set C1v m,?_,fun p hp=>?_⟩
   ·rw[A2R _ _ _ h4]
    simp only[B5,B8,H2]
    omega
   ·rw[A2R _ _ _ h4] at hp
    rcases C9.1 hp with hp|hp
    ·exact h.small p hp
    ·rw[B7.1 hp];exact hsz
 ·have h5:¬(A4u L m.1).length=L.length:=fun e=>h4 (bt.trans (B9I.1 e))
  rw[if_neg (fun e=>h4 e.1),if_neg (fun e=>h5 e.1)]
  have hp:=B2I (l:=l) (k:=m.1) (x:=m)
  refine⟨rfl,h.rel.set C1v m,?_,fun p iQ=>?_⟩
  ·have h6:=hp.length_eq
   have ah:(mdel l m.1).length<l.length:=by
    rw[A1C h.rel.nd]
    refine Nat.lt_of_le_of_ne (D4 _ _) fun e=>?_
    rw[O0] at e
    refine h4 ((A1n _ _).2 fun hm=>?_)
    obtain⟨q,hq,e2⟩:=E4.1 hm
    have:=e q hq
    simp[e2] at this
   have:=h.len
   simp only[B8] at h6
   simp only
   omega
  ·rcases D3.1 (hp.mem_iff.1 iQ) with rfl|iQ
   ·exact hsz
   ·rw[A1C h.rel.nd] at iQ
    exact h.small p (D5.1 iQ).1
theorem Sto.hit(h:Sto most l L)(f:B3O):B8T l f (A5v (l.map (·.1)))=A56 L f:=by
 unfold B8T A56
 rw[h.rel.sorted]
 have:∀T:List j7,(∀m∈T,m∈L)→(List.filter (Y8 f) (T.map fun m=>m.1)).map (fun n=>(W3 l n).getD zM)=T.filter fun m=>Y8 f m.1:=by
  intro T
  induction T with
  |nil=>intro _;rfl
  |cons m T ih=>
   intro hT
   have ih:=ih fun m hm=>hT m (C3 _ hm)
   rw[B6,H6,H6]
   split
   ·rw[B6,ih,h.rel.fS C1v (hT m (B4 ..))]
    rfl
   ·exact ih
 exact this L fun _ hm=>hm
end
section
open Go.H Go.Proofs Go.Shelf
def A9c:Go.Shelf.Ren:=⟨fun n=>match n with|7=>267|10=>272|n=>n,fun n=>match n with|23=>73|26=>3|3=>4|28=>123|0=>0|27=>122|33=>196|4=>4|n=>n,fun n=>n⟩
theorem C7o:SlLaysZI.n7 prog A9c where
 mixed:=by kernel_rfl
 f7:=⟨Tryz.f267.name,by kernel_rfl,func267.trans (congrArg some (by kernel_rfl))⟩
 f10:=⟨f272.name,by kernel_rfl,func272.trans (congrArg some (by kernel_rfl))⟩
 t0:=underlying0
 a0:=isAgg0
 z0:=sizeOf0
 v0:=zeroValue0
 t4:=underlying4
 a4:=isAgg4
 z4:=sizeOf4
 v4:=zeroValue4
 t23:=underlying73
 a23:=isAgg73
 z23:=sizeOf73
 v23:=zeroValue73
 t26:=underlying3
 a26:=isAgg3
 z26:=sizeOf3
 v26:=zeroValue3
 t27:=underlying122
 a27:=isAgg122
 z27:=sizeOf122
 v27:=zeroValue122
 t28:=underlying123
 a28:=isAgg123
 z28:=sizeOf123
 v28:=zeroValue123
 t33:=underlying196
 a33:=isAgg196
 z33:=sizeOf196
 v33:=zeroValue196
def A5u:Go.Shelf.Ren:=⟨fun n=>match n with|6=>40|8=>75|9=>76|11=>121|13=>123|12=>122|23=>180|24=>181|14=>171|15=>172|16=>173|17=>174|18=>175|19=>176|20=>177|21=>178|22=>179|25=>213|26=>214|27=>215|28=>216|29=>217|30=>218|31=>252|n=>n,fun n=>match n with|26=>3|28=>123|24=>64|0=>0|3=>3|37=>263|48=>315|50=>317|4=>4|40=>308|39=>307|45=>180|5=>5|9=>9|51=>343|55=>347|57=>378|58=>361|33=>196|n=>n,fun n=>n⟩
theorem B8i:SlLaysZI.n6 prog A5u where
 mixed:=by kernel_rfl
 f6:=⟨Tryz.f40.name,by kernel_rfl,func40.trans (congrArg some (by kernel_rfl))⟩
 f8:=⟨f75.name,by kernel_rfl,func75.trans (congrArg some (by kernel_rfl))⟩
 f11:=⟨f121.name,by kernel_rfl,func121.trans (congrArg some (by kernel_rfl))⟩
 t0:=underlying0
 a0:=isAgg0
 z0:=sizeOf0
 v0:=zeroValue0
 t24:=underlying64
 a24:=isAgg64
 z24:=sizeOf64
 v24:=zeroValue64
 t26:=underlying3
 a26:=isAgg3
 z26:=sizeOf3
 v26:=zeroValue3
 t28:=underlying123
 a28:=isAgg123
 z28:=sizeOf123
 v28:=zeroValue123
 i26:=by kernel_rfl
def A66:Go.Shelf.Ren:=⟨fun n=>match n with|5=>76|8=>123|7=>122|19=>180|20=>181|10=>171|11=>172|12=>173|13=>174|14=>175|15=>176|16=>177|17=>178|18=>179|30=>213|31=>214|32=>215|33=>216|34=>217|35=>218|40=>252|n=>n,fun n=>match n with|23=>64|25=>3|3=>3|32=>263|22=>64|0=>0|44=>315|46=>317|4=>4|36=>308|35=>307|41=>180|5=>5|9=>9|53=>343|57=>347|63=>378|64=>361|n=>n,fun n=>n⟩
theorem C1a:SlLaysM.n5 prog A66 where
 mixed:=by kernel_rfl
 f5:=⟨f76.name,by kernel_rfl,func76.trans (congrArg some (by kernel_rfl))⟩
 f7:=⟨f122.name,by kernel_rfl,func122.trans (congrArg some (by kernel_rfl))⟩
 f8:=func123.trans (congrArg some (by kernel_rfl))
 f10:=⟨f171.name,by kernel_rfl,func171.trans (congrArg some (by kernel_rfl))⟩
 f11:=⟨f172.name,by kernel_rfl,func172.trans (congrArg some (by kernel_rfl))⟩
 f12:=⟨f173.name,by kernel_rfl,func173.trans (congrArg some (by kernel_rfl))⟩
 f13:=⟨f174.name,by kernel_rfl,func174.trans (congrArg some (by kernel_rfl))⟩
 f14:=⟨f175.name,by kernel_rfl,func175.trans (congrArg some (by kernel_rfl))⟩
 f15:=⟨f176.name,by kernel_rfl,func176.trans (congrArg some (by kernel_rfl))⟩
 f16:=⟨f177.name,by kernel_rfl,func177.trans (congrArg some (by kernel_rfl))⟩
 f17:=⟨f178.name,by kernel_rfl,func178.trans (congrArg some (by kernel_rfl))⟩
 f18:=⟨f179.name,by kernel_rfl,func179.trans (congrArg some (by kernel_rfl))⟩
 f19:=func180.trans (congrArg some (by kernel_rfl))
 f20:=func181.trans (congrArg some (by kernel_rfl))
 f30:=⟨Tryz.f213.name,by kernel_rfl,func213.trans (congrArg some (by kernel_rfl))⟩
 f31:=func214.trans (congrArg some (by kernel_rfl))
 f32:=func215.trans (congrArg some (by kernel_rfl))
 f33:=⟨f216.name,by kernel_rfl,func216.trans (congrArg some (by kernel_rfl))⟩
 f34:=⟨Tryz.f217.name,by kernel_rfl,func217.trans (congrArg some (by kernel_rfl))⟩
 f35:=⟨Tryz.f218.name,by kernel_rfl,func218.trans (congrArg some (by kernel_rfl))⟩
 f40:=⟨f252.name,by kernel_rfl,func252.trans (congrArg some (by kernel_rfl))⟩
 t0:=underlying0
 a0:=isAgg0
 z0:=sizeOf0
 v0:=zeroValue0
 t3:=underlying3
 a3:=isAgg3
 z3:=sizeOf3
 v3:=zeroValue3
 t4:=underlying4
 a4:=isAgg4
 z4:=sizeOf4
 v4:=zeroValue4
 t5:=underlying5
 a5:=isAgg5
 z5:=sizeOf5
 v5:=zeroValue5
 t9:=underlying9
 a9:=isAgg9
 z9:=sizeOf9
 v9:=zeroValue9
 t22:=underlying64
 a22:=isAgg64
 z22:=sizeOf64
 v22:=zeroValue64
 t23:=underlying64
 a23:=isAgg64
 z23:=sizeOf64
 v23:=zeroValue64
 t25:=underlying3
 a25:=isAgg3
 z25:=sizeOf3
 v25:=zeroValue3
 t32:=underlying263
 a32:=isAgg263
 z32:=sizeOf263
 v32:=zeroValue263
 t35:=underlying307
 a35:=isAgg307
 z35:=sizeOf307
 v35:=zeroValue307
 t36:=underlying308
 a36:=isAgg308
 z36:=sizeOf308
 v36:=zeroValue308
 t41:=underlying180
 a41:=isAgg180
 z41:=sizeOf180
 v41:=zeroValue180
 t44:=underlying315
 a44:=isAgg315
 z44:=sizeOf315
 v44:=zeroValue315
 t46:=underlying317
 a46:=isAgg317
 z46:=sizeOf317
 v46:=zeroValue317
 t53:=underlying343
 a53:=isAgg343
 z53:=sizeOf343
 v53:=zeroValue343
 t57:=underlying347
 a57:=isAgg347
 z57:=sizeOf347
 v57:=zeroValue347
 t63:=underlying378
 a63:=isAgg378
 z63:=sizeOf378
 v63:=zeroValue378
 t64:=underlying361
 a64:=isAgg361
 z64:=sizeOf361
 v64:=zeroValue361
open Go.H Go.Proofs
theorem A47(x:Int):(eI x).length=1:=rfl
theorem A9j(x:Int):∀v∈eI x,v.oneCell'=true:=by intro v hv;simp at hv;subst hv;rfl
theorem C4v{h:Heap}{R:List Asn}{b:Nat}{s:s6}(hs:sat h (A1q b s::R)){Q:Value→Heap→Prop}
  (hq:∀(sl:Slc) h',sat h' (U5 eI 1 sl (Z2 s.used)::A1q b s::R)→Q (.slice sl.a sl.len sl.cap) h'):V3 prog 251 #[at0 b] h Q:=by
 refine A9B _ h Q ?_
 obtain⟨m,ag,af⟩:=A0U.1 hs
 have c2:W0 h ⟨b,2,none⟩=some (.map (some m)):=af.cell 2
 delta A9X bn cc ie km nn pu
 simp[c2]
 refine B0u (ρk:=A9c) C7o (some m) ?_
 simp only[C4G]
 have ae:=(af.bK (T:=A9c.t 23) (cs:=#[.map (some m)]))
 have hk:=ag.range
 have hl:=ag.len
 have hm:=ag.cP
 refine A65 (ρk:=A9c) (ρs:=A5u) (ρt:=A66) C7o B8i C1a rfl (enters_of func76 (by kernel_rfl) rfl) (enters_of func272 (by kernel_rfl) rfl) ae.p2
  (fun p hp=>?_) ?_ (ae.cell 0) fun sl h' aj=>?_
 ·obtain⟨k,gZ,rfl⟩:=E4.1 hp
  have:=hk k gZ
  simp[Lit.wf,IntKind.min,IntKind.max,IntKind.bits,IntKind.signed]
  omega
 ·simp[A4i];omega
 ·simp only[C00,V1]
  refine hq sl h' ?_
  have e:(A4i s.used).map (·.1)=s.used:=by simp[A4i,Q8]
  rw[e] at aj
  exact(A0U.2 ⟨m,ag,(aj.p3.p3.drop.p2.p1)⟩).p1
theorem C2q{h:Heap}{s:Slc}{xs:List Int}{x:Int}(hx:Z7 eI 1 h s xs)(hb:xs.length≤4611686018427387904){Q:Value→Heap→Prop}
  (ax:x∉xs→Q (.int .i64 (-1)) h)(dc:x∈xs→∀i:Nat,xs[i]? =some x→Q (.int .i64 i) h):
  V3 prog 266 #[.slice s.a s.len s.cap,.int .i64 x] h Q:=by
 refine B0a s x h Q ?_
 delta B0T bn ie ix li pu wi
 simp
 have h1:=hx.1
 refine l9 (γ:=Nat) (fun i c h'=>h'=h∧c.1=(i:Int)∧i≤xs.length∧x∉xs.take i) (fun i=>xs.length-i) 0 ⟨rfl,rfl,D1 _,by simp⟩ ?_
 rintro i ⟨c,⟨⟩⟩ h' ⟨rfl,hc,hi,hn⟩
 simp only at hc
 subst hc
 have next:IntKind.wrap .i64 ((i:Int)+1)=((i+1:Nat):Int):=by rw[V8 (by omega) (by omega)];rfl
 simp
 by_cases ah:i<xs.length
 ·rw[if_pos (by omega)]
  refine X8 hx (B0 ah) fun a ha=>?_
  have c0:W0 h' a=some (.int .i64 xs[i]):=by simpa[Go.H.add_zero] using ha 0 _ rfl
  simp[c0]
  by_cases he:x=xs[i]
  ·rw[if_pos he]
   exact dc (he▸H3 ah) i (by rw[he];exact B0 ah)
  ·rw[if_neg he]
   refine .mk (i+1) (by omega) ⟨rfl,next,by omega,fun hm=>?_⟩
   rw[C7 ah,C9] at hm
   rcases hm with hm|hm
   ·exact hn hm
   ·exact he (B7.1 hm)
 ·rw[if_neg (by omega)]
  rw[D6 (by omega)] at hn
  exact ax hn
theorem B6N{h:Heap}{s:Slc}{xs:List Int}{x:Int}(hx:Z7 eI 1 h s xs)(hb:xs.length≤4611686018427387904){Q:Value→Heap→Prop}
  (hq:Q (.bool (decide (x∈xs))) h):
  V3 prog 250 #[.slice s.a s.len s.cap,.int .i64 x] h Q:=by
 refine A8b s x h Q ?_
 delta A7V ci pu vi vs
 simp
 refine C2q hx hb (fun hn=>?_) (fun hy i hi=>?_)
 ·simpa[hn] using hq
 ·simpa[hy] using hq
theorem C0h{h:Heap}{R:List Asn}{f:Nat}{s:s6}{k:Int}(hs:sat h (A0g f s::R)){Q:Value→Heap→Prop}
  (hq:∀h',sat h' (A0g f s::R)→Q (.bool (decide (k∈s.used))) h'):V3 prog 208 #[at0 f,.int .i64 k] h Q:=by
 refine A8g _ k h Q ?_
 obtain⟨b,hs⟩:=A2X.1 hs
 have c0:W0 h ⟨f,0,none⟩=some (at0 b):=hs.cell 0
 delta A73 cb cc kp nn pu vi vs
 simp[c0]
 refine C4v hs.p1 fun sl h1 aa=>?_
 obtain⟨_,ag,-⟩:=A0U.1 aa.p1
 have hl:=ag.len
 have hm:=ag.cP
 simp only[C00]
 refine B6N (aa.aO A47) (by simp[Z2,O9];omega) ?_
 have e:decide (k∈Z2 s.used)=decide (k∈s.used):=by simp[Z2]
 simp only[C6v,e]
 exact hq h1 (A2X.2 ⟨b,aa.drop.p1⟩)
theorem A1w{h:Heap}{R:List Asn}(hs:sat h R)(k id c:Int){Q:Value→Heap→Prop}
  (hq:∀b h',sat h' (cells b (C7d (C8y k id c))::R)→Q (.slice (some ⟨b,0,none⟩) 1 1) h'):V3 prog 159 #[.int .i64 k,.int .i64 id,.int .u8 c] h Q:=by
 refine A9A k id c h Q ?_
 delta A9W az cc nw pu ve vi vz
 simp only[U1]
 refine V5 hs fun b h1 aa=>?_
 simp only[C6m]
 refine B2R ⟨some ⟨b,0,none⟩,1,1⟩ h1 _ ?_
 delta B5I pu
 simp
 exact hq b h1 aa
def y7(k q id:Int):Prop:=(k≠3∧k≠6)∨(k=3∧(q<0∨2<q))∨(¬(k=3∧q=0)∧(id<1∨65535<id))
instance(k q id:Int):Decidable (y7 k q id):=by unfold y7;infer_instance
def l8(s:s6)(k q id why:Int):Bool×Option (Int×Int)×Int×List Int:=
 if y7 k q id then(false,none,130,s.used)
 else if k=3∧q=0 then(true,none,0,s.used)
 else if k=6 then(false,some (7,if id∈s.used then 0 else 146),0,s.used.erase id)
 else if q=1 then(true,some (4,why),0,s.used)
 else if id∈s.used then(false,some (5,0),0,s.used)
 else if(s.used.length:Int)=s.most then(false,none,147,s.used)
 else(true,some (5,why),0,if why<128 then s.used++[id] else s.used)
theorem C0f{h:Heap}{R:List Asn}{f:Nat}{s:s6}{id why:Int}(hs:sat h (A0g f s::R))(h1:1≤id)(h2:id≤65535){Q:Value→Heap→Prop}
  (hn:(l8 s 3 2 id why).2.1=none→∀h',sat h' (A0g f ⟨s.most,s.taken,(l8 s 3 2 id why).2.2.2⟩::R)→Q (.tuple #[.bool (l8 s 3 2 id why).1,.slice none 0 0,.int .u8 (l8 s 3 2 id why).2.2.1]) h')
  (hy:∀k c,(l8 s 3 2 id why).2.1=some (k,c)→∀b h',sat h' (cells b (C7d (C8y k id c))::A0g f ⟨s.most,s.taken,(l8 s 3 2 id why).2.2.2⟩::R)→
   Q (.tuple #[.bool (l8 s 3 2 id why).1,.slice (some ⟨b,0,none⟩) 1 1,.int .u8 (l8 s 3 2 id why).2.2.1]) h'):
  V3 prog 160 #[at0 f,.int .i64 id,.int .u8 why] h Q:=by
 have nb:¬y7 3 2 id:=by unfold y7;omega
 simp[l8,nb] at hn hy
 refine A8f _ id why h Q ?_
 delta A72 bn cb cc ci cu ie kp nn pu vi
 simp
 refine C0h hs fun h3 aj=>?_
 by_cases g1:id∈s.used
 ·simp[g1] at hy⊢
  exact A1w aj 5 id 0 fun b h4 ak=>by simpa using hy b h4 ak
 ·obtain⟨b,bo⟩:=A2X.1 aj
  have c0:W0 h3 ⟨f,0,none⟩=some (at0 b):=bo.cell 0
  obtain⟨_,ag,-⟩:=A0U.1 bo.p1
  have hl:=ag.len
  simp[g1,c0] at hn hy⊢
  refine B3f bo.p1 ?_
  by_cases g2:(s.used.length:Int)=s.most
  ·simp[g2] at hn⊢
   exact hn h3 aj
  ·have g3:¬s.most-(s.used.length:Int)=0:=by omega
   simp[g2,g3] at hy⊢
   by_cases g4:why<128
   ·simp[g4,c0] at hy⊢
    have hc:i6 s id=0:=by simp[i6,g1,g2];omega
    refine C2t bo.p1 (fun hx=>absurd hc hx) (fun _ h4 ak=>?_)
    simp
    have ai:=A2X.2 ⟨b,ak.p1⟩
    exact A1w ai 5 id why fun b h5 ai=>by simpa using hy b h5 ai
   ·simp[g4] at hy⊢
    exact A1w aj 5 id why fun b h5 ai=>by simpa using hy b h5 ai
theorem B8R{h:Heap}{R:List Asn}{f:Nat}{s:s6}{p:Pk}{why:Int}(hs:sat h (A0g f s::R)){Q:Value→Heap→Prop}
  (hn:(l8 s p.1 p.2.2.2.1 p.2.2.2.2.1 why).2.1=none→∀h',sat h' (A0g f ⟨s.most,s.taken,(l8 s p.1 p.2.2.2.1 p.2.2.2.2.1 why).2.2.2⟩::R)→Q (.tuple #[.bool (l8 s p.1 p.2.2.2.1 p.2.2.2.2.1 why).1,.slice none 0 0,.int .u8 (l8 s p.1 p.2.2.2.1 p.2.2.2.2.1 why).2.2.1]) h')
  (hy:∀k c,(l8 s p.1 p.2.2.2.1 p.2.2.2.2.1 why).2.1=some (k,c)→∀b h',sat h' (cells b (C7d (C8y k p.2.2.2.2.1 c))::A0g f ⟨s.most,s.taken,(l8 s p.1 p.2.2.2.1 p.2.2.2.2.1 why).2.2.2⟩::R)→
   Q (.tuple #[.bool (l8 s p.1 p.2.2.2.1 p.2.2.2.2.1 why).1,.slice (some ⟨b,0,none⟩) 1 1,.int .u8 (l8 s p.1 p.2.2.2.1 p.2.2.2.2.1 why).2.2.1]) h'):
  V3 prog 107 #[at0 f,C9H p,.int .u8 why] h Q:=by
 refine A7u _ p why h Q ?_
 delta A6N bn cb cc ie ji kp nn nw pu vi
 simp only[U1]
 refine V5 hs fun pb h1 dT=>?_
 obtain⟨cs,gv⟩:∃cs,cs=C7d p:=⟨_,rfl⟩
 have aa:sat h1 (cells pb cs::A0g f s::R):=by rw[gv];exact dT
 clear dT
 have e0:cs[0]? =some (.int .i64 p.1):=by rw[gv];rfl
 have e3:cs[3]? =some (.int .i64 p.2.2.2.1):=by rw[gv];rfl
 have e4:cs[4]? =some (.int .i64 p.2.2.2.2.1):=by rw[gv];rfl
 clear gv
 generalize p.1=k at*
 generalize p.2.2.2.1=q at*
 generalize p.2.2.2.2.1=id at*
 have c0:W0 h1 ⟨pb,0,none⟩=some (.int .i64 k):=(aa.cell 0).trans e0
 have c3:W0 h1 ⟨pb,3,none⟩=some (.int .i64 q):=(aa.cell 3).trans e3
 have c4:W0 h1 ⟨pb,4,none⟩=some (.int .i64 id):=(aa.cell 4).trans e4
 have bad:y7 k q id→Q (.tuple #[.bool false,.slice none 0 0,.int .u8 130]) h1:=fun g=>by
  simp[l8,g] at hn
  exact hn h1 aa.drop
 by_cases k3:k=3
 ·subst k3
  by_cases q0:q<0
  ·have:=bad (by unfold y7;omega)
   simp[c0,c3,q0]
   exact this
  by_cases q2:2<q
  ·have:=bad (by unfold y7;omega)
   simp[c0,c3,q0,q2]
   exact this
  by_cases qz:q=0
  ·subst qz
   have nb:¬y7 3 0 id:=by unfold y7;omega
   simp[l8,nb] at hn
   have:=hn h1 aa.drop
   simp[c0,c3]
   exact this
  by_cases i1:id<1
  ·have:=bad (by unfold y7;omega)
   simp[c0,c3,c4,q0,q2,qz,i1]
   exact this
  by_cases i2:65535<id
  ·have:=bad (by unfold y7;omega)
   simp[c0,c3,c4,q0,q2,qz,i1,i2]
   exact this
  by_cases q1:q=1
  ·subst q1
   have nb:¬y7 3 1 id:=by unfold y7;omega
   simp[l8,nb] at hy
   simp[c0,c3,c4,i1,i2]
   refine A1w aa.drop 4 id why fun b h2 ae=>?_
   simpa using hy b h2 ae
  ·have ef:q=2:=by omega
   subst ef
   simp[c0,c3,c4,i1,i2]
   exact C0f aa.drop (by omega) (by omega) (fun g h' af=>by simpa using hn g h' af) (fun k c g b h' af=>by simpa using hy k c g b h' af)
 by_cases k6:k=6
 ·subst k6
  by_cases i1:id<1
  ·have:=bad (by unfold y7;omega)
   simp[c0,c3,c4,i1]
   exact this
  by_cases i2:65535<id
  ·have:=bad (by unfold y7;omega)
   simp[c0,c3,c4,i1,i2]
   exact this
  have nb:¬y7 6 q id:=by unfold y7;omega
  simp[l8,nb] at hy
  obtain⟨b,jf⟩:=A2X.1 aa.p1
  have f0:W0 h1 ⟨f,0,none⟩=some (at0 b):=jf.cell 0
  simp[c0,c3,c4,i1,i2,f0]
  refine B78 jf.p1 fun h2 ae=>?_
  have aj:sat h2 (cells pb cs::A0g f ⟨s.most,s.taken,s.used.erase id⟩::R):=(A2X.2 ⟨b,ae.p1⟩).p1
  have d0:W0 h2 ⟨pb,0,none⟩=some (.int .i64 6):=(aj.cell 0).trans e0
  have d4:W0 h2 ⟨pb,4,none⟩=some (.int .i64 id):=(aj.cell 4).trans e4
  by_cases hm:id∈s.used
  ·simp[hm,d0,d4] at hy⊢
   refine A1w aj.drop 7 id 0 fun b h4 ak=>?_
   simpa using hy b h4 ak
  ·simp[hm,d0,d4] at hy⊢
   refine A1w aj.drop 7 id 146 fun b h4 ak=>?_
   simpa[hm] using hy b h4 ak
 ·have:=bad (by unfold y7;omega)
  simp[c0,k3,k6]
  exact this
def B8F:Path→Path→Bool→Bool
 |[],left,_=>left.isEmpty
 |y::r,left,d=>(!d &&decide (y=o8)&&r.isEmpty)||(match left with|[]=>false|x::l=>((!d &&decide (y=r8))||decide (y=x))&&B8F r l false)
theorem A3M(y:B3O)(r left:Path)(d:Bool):B8F (y::r) left d=((!d &&decide (y=o8)&&r.isEmpty)||(match left with|[]=>false|x::l=>((!d &&decide (y=r8))||decide (y=x))&&B8F r l false)):=by
 cases left<;>rfl
abbrev QOK(N:Nds):Prop:=∀p nd,W3 N p=some nd→(nd.q.map (·.1)).Nodup
theorem A2i{N:Nds}{L:List Ent}(hA:A03 N L)(hk:QOK N)(p:Path)(e:Ent):e∈A4f N p↔e∈L∧levels e.2.1=p:=by
 unfold A4f
 cases hp:W3 N p with
 |none=>
  simp only[R1,false_iff]
  rintro⟨h1,h2⟩
  have:=(hA.dG p e.1 e.2.2).2 ⟨e.2.1,h2,h1⟩
  unfold ent at this
  rw[hp] at this
  cases this
 |some nd=>
  unfold A01
  constructor
  ·intro h
   obtain⟨kv,xj,rfl⟩:=E4.1 h
   have h1:W3 nd.q kv.1=some kv.2:=A2S (hk p nd hp) xj
   have h2:ent N p kv.1=some kv.2:=by unfold ent;rw[hp];exact h1
   obtain⟨f,hf,hm⟩:=(hA.dG _ _ _).1 h2
   have:A5K p=f:=by rw[←hf,A2W]
   simp only[this]
   exact⟨hm,hf⟩
  ·rintro⟨h1,h2⟩
   have h3:=(hA.dG p e.1 e.2.2).2 ⟨e.2.1,h2,h1⟩
   unfold ent at h3
   rw[hp] at h3
   refine E4.2 ⟨(e.1,e.2.2),A38 h3,?_⟩
   rw[←h2,A2W]
theorem A5N{N:Nds}(hk:QOK N)(p:Path):(A4f N p).Nodup:=by
 unfold A4f
 cases hp:W3 N p with
 |none=>exact List.nodup_nil
 |some nd=>
  unfold A01
  have h1:nd.q.Nodup:=List.Pairwise.of_map (·.1) (fun a b dv e=>dv (by rw[e])) (hk p nd hp)
  refine List.Pairwise.map _ (fun a b dv e=>dv ?_) h1
  exact Prod.ext (congrArg (fun x:Ent=>x.1) e) (congrArg (fun x:Ent=>x.2.2) e)
theorem B7B{rb:Nat}{N:Nds}{L:List Ent}(hT:A0e rb N)(hA:A03 N L){p r:Path}(hp:W3 N p=none){e:Ent}(he:e∈L):levels e.2.1≠p++r:=by
 intro h
 have h1:=(hA.dG (p++r) e.1 e.2.2).2 ⟨e.2.1,h,he⟩
 unfold ent at h1
 cases hq:W3 N (p++r) with
 |none=>rw[hq] at h1;cases h1
 |some nd=>
  obtain⟨nd',h2⟩:=hT.pre _ _ _ hq
  rw[hp] at h2
  cases h2
theorem A1Y{α:Type}{d:Bool}{l:List α}{a:α}:a∈(if d=true then[] else l)↔d=false∧a∈l:=by
 cases d<;>simp
theorem A41{rb:Nat}{N:Nds}{L:List Ent}(hT:A0e rb N)(hA:A03 N L)(hk:QOK N)(e:Ent):∀(left p:Path) (d:Bool),e∈A1Z N p left d↔∃r,B8F r left d=true∧e∈L∧levels e.2.1=p++r:=by
 intro left
 induction left with
 |nil=>
  intro p d
  cases hp:W3 N p with
  |none=>
   rw[A4a hp]
   simp only[R1,false_iff]
   rintro⟨r,-,h1,h2⟩
   exact B7B hT hA hp h1 h2
  |some nd=>
   rw[A7k hp,C9,A1Y,A2i hA hk,A2i hA hk]
   constructor
   ·rintro(⟨rfl,h1,h2⟩|⟨h1,h2⟩)
    ·exact⟨[o8],by simp[B8F],h1,h2⟩
    ·exact⟨[],rfl,h1,by rw[C1];exact h2⟩
   ·rintro⟨r,hr,h1,h2⟩
    cases r with
    |nil=>rw[C1] at h2;exact .inr ⟨h1,h2⟩
    |cons y r=>
     rw[A3M] at hr
     simp only[Bool.or_false,F0,O3,decide_eq_true_eq,List.isEmpty_iff] at hr
     obtain⟨⟨h3,rfl⟩,rfl⟩:=hr
     exact .inl ⟨h3,h1,h2⟩
 |cons x l ih=>
  intro p d
  cases hp:W3 N p with
  |none=>
   rw[A4a hp]
   simp only[R1,false_iff]
   rintro⟨r,-,h1,h2⟩
   exact B7B hT hA hp h1 h2
  |some nd=>
   rw[A5G hp,C9,C9,A1Y,A1Y,A2i hA hk,ih,ih]
   constructor
   ·rintro(⟨rfl,h1,h2⟩|⟨rfl,r,hr,h1,h2⟩|⟨r,hr,h1,h2⟩)
    ·exact⟨[o8],by simp[A3M],h1,h2⟩
    ·refine⟨r8::r,?_,h1,by rw[h2];simp⟩
     rw[A3M];simp[hr]
    ·refine⟨x::r,?_,h1,by rw[h2];simp⟩
     rw[A3M];simp[hr]
   ·rintro⟨r,hr,h1,h2⟩
    cases r with
    |nil=>simp[B8F] at hr
    |cons y r=>
     rw[A3M] at hr
     simp only[Bool.or_eq_true,F0,O3,decide_eq_true_eq,List.isEmpty_iff] at hr
     rcases hr with⟨⟨h3,rfl⟩,rfl⟩|⟨⟨h3,rfl⟩|rfl,h4⟩
     ·exact .inl ⟨h3,h1,h2⟩
     ·exact .inr (.inl ⟨h3,r,h4,h1,by rw[h2];simp⟩)
     ·exact .inr (.inr ⟨r,h4,h1,by rw[h2];simp⟩)
theorem B2P{α:Type}{d:Bool}{l:List α}(h:l.Nodup):(if d=true then[] else l).Nodup:=by
 cases d
 ·exact h
 ·exact List.nodup_nil
theorem B8K{rb:Nat}{N:Nds}{L:List Ent}(hT:A0e rb N)(hA:A03 N L)(hk:QOK N):∀(left p:Path) (d:Bool),(∀x∈left,x≠o8∧x≠r8)→(A1Z N p left d).Nodup:=by
 intro left
 induction left with
 |nil=>
  intro p d hl
  cases hp:W3 N p with
  |none=>rw[A4a hp];exact List.nodup_nil
  |some nd=>
   rw[A7k hp,G1]
   refine⟨B2P (A5N hk _),A5N hk _,fun a ha b hb e=>?_⟩
   subst e
   have h1:=((A2i hA hk _ _).1 (A1Y.1 ha).2).2
   have h2:=((A2i hA hk _ _).1 hb).2
   rw[h1] at h2
   exact A7N _ _ h2
 |cons x l ih=>
  intro p d hl
  cases hp:W3 N p with
  |none=>rw[A4a hp];exact List.nodup_nil
  |some nd=>
   have hx:=hl x (B4 ..)
   have gY:∀y∈l,y≠o8∧y≠r8:=fun y hy=>hl y (C3 _ hy)
   rw[A5G hp,G1,G1]
   refine⟨B2P (A5N hk _),⟨B2P (ih _ _ gY),ih _ _ gY,fun a ha b hb e=>?_⟩,fun a ha b hb e=>?_⟩
   ·subst e
    obtain⟨r1,-,-,h1⟩:=(A41 hT hA hk _ _ _ _).1 (A1Y.1 ha).2
    obtain⟨r2,-,-,h2⟩:=(A41 hT hA hk _ _ _ _).1 hb
    rw[h1,D2,D2] at h2
    have:=Q9 h2
    simp at this
    exact hx.2 this.1.symm
   ·subst e
    have h1:=((A2i hA hk _ _).1 (A1Y.1 ha).2).2
    rcases C9.1 hb with hb|hb
    ·obtain⟨r2,-,-,h2⟩:=(A41 hT hA hk _ _ _ _).1 (A1Y.1 hb).2
     rw[h1,D2] at h2
     have:=Q9 h2
     simp at this
     exact absurd this.1 (by decide)
    ·obtain⟨r2,-,-,h2⟩:=(A41 hT hA hk _ _ _ _).1 hb
     rw[h1,D2] at h2
     have:=Q9 h2
     simp at this
     exact hx.1 this.1.symm
theorem A8C:∀(r left:Path),A4d r=true→(∀x∈left,x≠o8∧x≠r8)→B8F r left false=A2o r left
 |[],left,_,_=>by simp[B8F,A2o]
 |y::r,left,hf,hl=>by
  rw[A7A,F0] at hf
  rw[A3M,A39]
  by_cases hy:y=o8
  ·have hr:r.isEmpty=true:=by
    have h1:=hf.1
    subst hy
    unfold B2L at h1
    rw[show hasB 35 o8=true from C5z 35] at h1
    cases h2:r.isEmpty with
    |true=>rfl
    |false=>rw[h2] at h1;simp at h1
   simp[hy,hr]
  ·rw[if_neg hy]
   simp only[hy,decide_false,Bool.and_false,K6,S3]
   cases left with
   |nil=>rfl
   |cons x l=>
    have ih:=A8C r l hf.2 fun z hz=>hl z (C3 _ hz)
    simp only[S6,G3]
    by_cases h1:y=r8
    ·simp[h1,ih]
    ·by_cases h2:y=x
     ·simp[h2,ih]
     ·simp[h1,h2]
theorem C5q(c b:UInt8)(r:List UInt8)(x:List UInt8)(hx:x≠[]):∃y ys,lev c x r=y::ys∧y.head?=x.head?:=by
 induction r generalizing x with
 |nil=>exact⟨x,[],rfl,rfl⟩
 |cons a r ih=>
  unfold lev
  by_cases h:a=c
  ·rw[if_pos h];exact⟨x,_,rfl,rfl⟩
  ·rw[if_neg h]
   obtain⟨y,ys,h1,h2⟩:=ih (x++[a]) (by simp)
   refine⟨y,ys,h1,?_⟩
   rw[h2]
   cases x with
   |nil=>exact absurd rfl hx
   |cons z x=>rfl
theorem B1D{f y:B3O}{r:Path}(hs:f.size≠0)(h:levels f=y::r)(c:UInt8)(hc:c≠47):y.data.toList.head?=some c↔f.get! 0=c:=by
 have hd:=A2U f
 rw[h,B6] at hd
 obtain⟨⟨l⟩⟩:=f
 match l with
 |[]=>exact absurd rfl hs
 |b::l=>
  have e1:(ByteArray.mk (List.toArray (b::l))).get! 0=b:=rfl
  rw[e1]
  have e2:(ByteArray.mk (List.toArray (b::l))).data.toList=b::l:=rfl
  rw[e2] at hd
  unfold lev at hd
  by_cases hb:b=47
  ·rw[if_pos hb] at hd
   have h1:=(List.cons.inj hd).1
   rw[h1]
   simp only[List.head?_nil]
   constructor
   ·intro h;cases h
   ·intro h;exact absurd (h.symm.trans hb) hc
  ·rw[if_neg hb] at hd
   obtain⟨z,zs,h1,h2⟩:=C5q 47 b l ([]++[b]) (by simp)
   rw[h1] at hd
   have h3:=(List.cons.inj hd).1
   rw[h3,h2]
   simp
theorem B7U{x:B3O}{c:UInt8}(h:x.data.toList.head?=some c):hasB c x=true:=by
 unfold hasB
 rw[decide_eq_true_eq]
 exact List.mem_of_mem_head? (by rw[h];rfl)
theorem B7P(c:UInt8):(ByteArray.mk #[c]).data.toList.head?=some c:=rfl
theorem B3G{n:B3O}(h:Z4 n=true):∀x∈levels n,x≠o8∧x≠r8:=by
 unfold Z4 at h
 rw[F0,F0,O3,O3] at h
 have key:∀(c:UInt8),c≠47→hasB c n=false→∀x∈levels n,x≠ByteArray.mk #[c]:=by
  intro c hc hn x hx e
  subst e
  have hj:=A2W n
  have:c∈n.data.toList:=by
   rw[←hj]
   unfold A5K
   have dQ:[c]∈(levels n).map (·.data.toList):=E4.2 ⟨_,hx,rfl⟩
   generalize(levels n).map (·.data.toList)=xs at dQ
   have go:∀xs:List (List UInt8),[c]∈xs→c∈Lib.join xs [47]:=by
    intro xs fc
    obtain⟨y,ys,rfl⟩:=O1 (List.ne_nil_of_mem fc)
    rw[Lib.join_cons]
    rcases D3.1 fc with e|h
    ·rw[←e];simp
    ·refine F6 _ ?_
     unfold Lib.joinTail
     rw[List.mem_flatten]
     exact⟨[47]++[c],E4.2 ⟨_,h,rfl⟩,by simp⟩
   simpa using go xs dQ
  unfold hasB at hn
  rw[decide_eq_false_iff_not] at hn
  exact hn this
 intro x hx
 exact⟨key 35 (by decide) h.2 x hx,key 43 (by decide) h.1.2 x hx⟩
theorem B3H{f n:B3O}(hf:X5 f=true)(hn:Z4 n=true):B8F (levels f) (levels n) (decide (n.get! 0=36))=Y8 f n:=by
 have hl:=B3G hn
 have hg:A4d (levels f)=true:=by unfold X5 at hf;rw[F0] at hf;exact hf.2
 have hsz:f.size≠0:=(A0X.1 (A0z hf)).2.1
 unfold Y8 A3Z
 rw[hf,hn]
 simp only[G3]
 cases hd:decide (n.get! 0=36) with
 |false=>
  rw[A8C _ _ hg hl]
  simp
 |true=>
  obtain⟨y,r,hy⟩:=O1 (B2J f)
  rw[hy] at hg⊢
  rw[A7A,F0] at hg
  have er:=B1D hsz hy 43 (by decide)
  have gT:=B1D hsz hy 35 (by decide)
  have al:=hg.1
  unfold B2L at al
  rw[O3,Bool.or_eq_false_iff] at al
  have uC:f.get! 0=43↔y=r8:=by
   rw[←er]
   constructor
   ·intro h
    have h1:=B7U h
    have h2:=al.1
    rw[h1] at h2
    simpa using h2
   ·intro h;rw[h];exact B7P 43
  have i35:f.get! 0=35↔y=o8:=by
   rw[←gT]
   constructor
   ·intro h
    have h1:=B7U h
    have h2:=al.2
    rw[h1] at h2
    simp only[G3,Bool.or_eq_false_iff,decide_eq_false_iff_not,Decidable.not_not] at h2
    exact h2.1
   ·intro h;rw[h];exact B7P 35
  rw[A3M,A39]
  simp only[N7,K6,S3,G3]
  by_cases e1:y=r8
  ·have:decide (f.get! 0=43)=true:=decide_eq_true (uC.2 e1)
   rw[this]
   simp only[Bool.true_or,N7,K6]
   cases ke:levels n with
   |nil=>rfl
   |cons x l=>
    have:=(hl x (by rw[ke];exact B4 ..)).2
    have:decide (y=x)=false:=decide_eq_false (fun e=>this (e.symm.trans e1))
    simp[this]
  ·by_cases e2:y=o8
   ·have:decide (f.get! 0=35)=true:=decide_eq_true (i35.2 e2)
    rw[this]
    simp only[Bool.or_true,N7,K6]
    cases ke:levels n with
    |nil=>rfl
    |cons x l=>
     have:=(hl x (by rw[ke];exact B4 ..)).1
     have:decide (y=x)=false:=decide_eq_false (fun e=>this (e.symm.trans e2))
     simp[this]
   ·have d1:decide (f.get! 0=43)=false:=decide_eq_false (fun e=>e1 (uC.1 e))
    have d2:decide (f.get! 0=35)=false:=decide_eq_false (fun e=>e2 (i35.1 e))
    rw[d1,d2,if_neg e2]
    simp only[Bool.or_false,S6,G3]
    cases ke:levels n with
    |nil=>rfl
    |cons x l=>
     have ih:=A8C r l hg.2 fun z hz=>hl z (by rw[ke];exact C3 _ hz)
     by_cases e3:y=x
     ·simp[e3,ih]
     ·simp[e1,e3]
variable {h h0:Heap} {R:List Asn}
theorem B94{rb:Nat}{N:Nds}{L:List Ent}(hT:A0e rb N)(hA:A03 N L)(hk:QOK N){n:B3O}(hn:Z4 n=true):
  (A1Z N [] (levels n) (decide (n.get! 0=36))).Perm (L.filter fun x=>Y8 x.2.1 n):=by
 refine(List.perm_ext_iff_of_nodup (B8K hT hA hk _ _ _ (B3G hn)) (hA.dE.nodup.filter _)).2 fun e=>?_
 rw[A41 hT hA hk,D5]
 constructor
 ·rintro⟨r,hr,h1,h2⟩
  rw[F2] at h2
  subst h2
  refine⟨h1,?_⟩
  rw[←B3H (hA.bR _ h1) hn]
  exact hr
 ·rintro⟨h1,h2⟩
  refine⟨levels e.2.1,?_,h1,rfl⟩
  rw[B3H (hA.bR _ h1) hn]
  exact h2
theorem C0w{M:Nds}(hn:(M.map (·.1)).Nodup)(h1:∀q∈M,(A01 q.1 q.2.q).Nodup∧∀e∈A01 q.1 q.2.q,levels e.2.1=q.1):(A1a M).Nodup:=by
 induction M with
 |nil=>exact List.nodup_nil
 |cons q M ih=>
  rw[B6,F8] at hn
  unfold A1a
  rw[D8,G1]
  refine⟨(h1 q (B4 ..)).1,ih hn.2 (fun q' eh=>h1 q' (C3 _ eh)),fun a ha b hb e=>?_⟩
  subst e
  obtain⟨q',eh,hm⟩:=R3.1 hb
  have e1:=(h1 q (B4 ..)).2 a ha
  have e2:=(h1 q' (C3 _ eh)).2 a hm
  exact hn.1 (E4.2 ⟨q',eh,by rw[←e2,e1]⟩)
theorem B80{rb:Nat}{N:Nds}{L:List Ent}(hT:A0e rb N)(hA:A03 N L)(hk:QOK N):(A1a N).Perm L:=by
 have vF:∀q∈N,A4f N q.1=A01 q.1 q.2.q:=fun q hq=>B5V (A2S hT.keys hq)
 have au:(A1a N).Nodup:=C0w hT.keys fun q hq=>by
  rw[←vF q hq]
  exact⟨A5N hk _,fun e he=>((A2i hA hk _ _).1 he).2⟩
 refine(List.perm_ext_iff_of_nodup au hA.dE.nodup).2 fun e=>?_
 unfold A1a
 rw[R3]
 constructor
 ·rintro⟨q,hq,he⟩
  rw[←vF q hq] at he
  exact((A2i hA hk _ _).1 he).1
 ·intro he
  have h1:=(A2i hA hk (levels e.2.1) e).2 ⟨he,rfl⟩
  unfold A4f at h1
  cases hp:W3 N (levels e.2.1) with
  |none=>rw[hp] at h1;simp at h1
  |some nd=>
   rw[hp] at h1
   exact⟨(levels e.2.1,nd),A38 hp,h1⟩
theorem B6A{ys L:List Ent}{c:Ent→Bool}(ha:Asc L)(hp:ys.Perm (L.filter c))(hs:ys.Pairwise fun a b=>¬ltK (b7 b) (b7 a)):ys=L.filter c:=C0N hp (ha.filter _) hs
theorem C2C:∀{h':Heap},Z7 eS 1 h' ⟨none,0,0⟩ []:=fun{h'}=>⟨rfl,D9 _,fun i x hx=>by simp at hx⟩
theorem B9r{t:Nat}{L:List Ent}(ht:TP h0){n:B3O}(hsz:n.size≤9223372036854775807)(hl:L.length≤10000)(hs:sat h (o6 t L::old h0::R)){Q:Value→Heap→Prop}
  (hq:∀(s:Slc) h',sat h' (U5 Z8 3 s (L.filter fun x=>Y8 x.2.1 n)::o6 t L::old h0::R)→Q (.slice s.a s.len s.cap) h'):
  V3 prog 80 #[at9 t,.string n] h Q:=by
 refine A79 (some ⟨t,0,none⟩) n h Q ?_
 delta A7T bn cc cu cx ie kp nn pu rq vs vz
 refine V4 (fun x h'=>sat h' (old h0::o6 t L::R)∧x.1= !(Z4 n)) ?_ ?_
 ·rw[U9,if_neg (by simp)]
  refine U6 (A3u hs.p1 ht hsz fun h1 aa=>⟨A2Q n,rfl,aa,?_⟩)
  unfold A2Q
  cases Z4 n<;>rfl
 clear hs
 rintro⟨x,⟨⟩⟩ h1 ⟨aa,hx⟩
 simp only at hx
 subst hx
 rw[U9]
 by_cases hn:Z4 n=true
 case neg=>
  rw[if_pos (by simpa using hn)]
  have e:(L.filter fun x=>Y8 x.2.1 n)=[]:=by
   rw[J4]
   intro x _ hx
   unfold Y8 at hx
   simp only[F0] at hx
   exact hn hx.1.1.2
  rw[e] at hq
  exact hq ⟨none,0,0⟩ h1 (Z3 aa.p1)
 rw[if_neg (by simp[hn])]
 obtain⟨N,C,hA,hC,ae⟩:=A0p.1 aa.p1
 obtain⟨ca,nQ⟩:=B8b ae
 have hk:QOK N:=fun p nd hp=>(nQ p nd hp).1
 obtain⟨rb,cm,hT,bo⟩:=A2e.1 ae
 have aj:sat h1 (cells t (trC rb cm)::old h0::p8 N::mapA A1b A1A cm C::R):=bo.re [0,3,1,2]
 clear bo ae aa
 have kV:=A0X.1 (A4D hn)
 refine⟨_,rfl,some ⟨rb,0,none⟩,by rw[U3];exact aj.cell 0,?_⟩
 (try dsimp only);rw[U1]
 refine⟨n.get! 0,S7 _,A3o (by omega),?_⟩
 refine U6 (A4l aj.p1 ht kV.2.2.1 fun sl h2 bp=>⟨sl,rfl,?_⟩)
 have ak:sat h2 (cells t (trC rb cm)::p8 N::U5 eS 1 sl (levels n)::old h0::mapA A1b A1A cm C::R):=bp.re [2,3,0,1,4]
 clear bp aj
 refine⟨some ⟨rb,0,none⟩,by rw[U3];exact ak.cell 0,rfl,?_⟩
 obtain⟨r,fr,cQ⟩:=hT.root
 have ep:(some ⟨rb,0,none⟩:C9N)=(W3 N []).bind fun nd=>o7 nd:=by rw[fr];show _=o7 r;unfold o7;rw[cQ]
 have eb:(((n.get! 0).toNat:Int)==36)=decide (n.get! 0=36):=A7J _ 36
 have dB:=B94 hT hA hk hn
 have hlen:(A1Z N [] (levels n) (decide (n.get! 0=36))).length≤10000:=by
  rw[dB.length_eq]
  exact C4 (D4 _ _) hl
 rw[ep,eb]
 refine U6 (C1C hT (hA.fP hk) _ (levels n) [] rfl (A:=U5 eS 1 sl (levels n)) (s1:=⟨none,0,0⟩) (out:=⟨none,0,0⟩) (es:=[]) (by simp only[H2];omega) (fun _=>C2C) (fun af=>af.aO A1F) ((Z3 (ak.re [1,2,0,3,4])).p1) (by simp only[H2];omega) fun o l h3 hp ai=>⟨o,rfl,?_⟩)
 rw[F2] at ai
 refine u9 (B6G ai.p1 (by have:=hp.length_eq;omega) fun ys h4 gF fX aw=>⟨(),rfl,?_⟩)
 have e:=B6A hA.dE (gF.trans (hp.trans dB)) fX
 subst e
 refine hq o h4 ?_
 have aK:sat h4 (cells t (trC rb cm)::p8 N::mapA A1b A1A cm C::U5 Z8 3 o (L.filter fun x=>Y8 x.2.1 n)::old h0::R):=(aw.re [2,3,1,5,0,4]).drop
 exact(A0p.2 ⟨N,C,hA,hC,A2e.2 ⟨rb,cm,hT,aK⟩⟩).p1
abbrev A53(id:Int)(L:List Ent):List Ent:=L.filter fun x=>decide (x.1=id)
def C1P(x1 x2:Nat)(id:Int)(l:List Ent):Asn:=star (cells x1 #[.int .i64 id]) (exA fun s:Slc=>star (cells x2 #[.slice s.a s.len s.cap]) (U5 Z8 3 s (A53 id l)))
theorem A8M{x1 x2:Nat}{id:Int}{l:List Ent}:sat h (C1P x1 x2 id l::R)↔∃s:Slc,sat h (cells x2 #[.slice s.a s.len s.cap]::U5 Z8 3 s (A53 id l)::cells x1 #[.int .i64 id]::R):=by
 unfold C1P
 rw[sat.aI]
 constructor
 ·intro hs
  obtain⟨s,aa⟩:=sat.bA.1 hs.p1
  exact⟨s,sat.aI.1 aa⟩
 ·rintro⟨s,hs⟩
  exact(sat.bA.2 ⟨s,sat.aI.2 hs⟩).p1
theorem C4z{x1 x2:Nat}{id:Int}{l:List Ent}{e:Ent}(hl:l.length≤100000)(hs:sat h (C1P x1 x2 id l::R)){Q:Value→Heap→Prop}(hq:∀h',sat h' (C1P x1 x2 id (l++[e])::R)→Q (.tuple #[]) h'):
  V3 prog 168 #[.agg #[.int .i64 e.1,.string e.2.1,.int .i64 e.2.2],.pointer (some ⟨x1,0,none⟩),.pointer (some ⟨x2,0,none⟩)] h Q:=by
 refine A63 (e.1,e.2.1,e.2.2,()) ⟨x1,0,none⟩ ⟨x2,0,none⟩ h Q ?_
 delta A6l az bn ie ji lc li nw pu sx ve vi vs
 obtain⟨s,aa⟩:=A8M.1 hs
 refine V5 aa fun x h1 ae=>?_
 refine⟨e.1,by rw[U3];exact ae.cell 0,id,ae.p3.cell 0,?_⟩
 have cT:(A53 id l).length≤100000:=C4 (D4 _ _) hl
 refine V4 (fun _ h'=>sat h' (C1P x1 x2 id (l++[e])::R)) ?_ ?_
 ·(try dsimp only);rw[U9]
  by_cases hid:e.1=id
  ·rw[if_pos (by simpa using hid)]
   refine⟨s,ae.p1.cell 0,?_⟩
   refine Y5 (ts:=[.int .i64,.str,.int .i64]) (e.1,e.2.1,e.2.2,()) ae rfl ?_
   refine V5 ae fun y h2 aj=>?_
   (try dsimp only);rw[U1]
   refine A0d (enc:=Z8) (ys:=[e]) A0P A3Y rfl aj.p3 rfl ?_ (by decide) (by decide) (by omega) fun s' h3 ak=>?_
   ·simp only[V6,N5,D8,H9,C1]
    exact aj.reads rfl
   (try dsimp only);rw[U1]
   refine W7 ak.p3 (by simp) rfl fun h4 ai=>?_
   have e1:A53 id (l++[e])=A53 id l++[e]:=by simp[A53,F3,hid]
   refine A8M.2 ⟨s',?_⟩
   rw[e1]
   exact(ai.re [2,3,0,1,4]).drop.drop
  ·rw[if_neg (by simpa using hid)]
   have e1:A53 id (l++[e])=A53 id l:=by simp[A53,F3,hid]
   refine A8M.2 ⟨s,?_⟩
   rw[e1]
   exact ae.drop
 rintro⟨⟩ h2 ae
 exact hq h2 ae
theorem C3n{t:Nat}{L:List Ent}{id:Int}(hl:L.length≤10000)(hs:sat h (o6 t L::R)){Q:Value→Heap→Prop}
  (hq:∀(s:Slc) h',sat h' (U5 Z8 3 s (A53 id L)::o6 t L::R)→Q (.slice s.a s.len s.cap) h'):
  V3 prog 116 #[at9 t,.int .i64 id] h Q:=by
 refine A9n (some ⟨t,0,none⟩) id h Q ?_
 delta A9J az cx ie kp lc nn nw pu vi vs vz
 refine V5 hs fun x1 h1 aa=>?_
 (try dsimp only);rw[U9,if_neg (by simp)]
 refine V5 aa fun x2 h2 ae=>?_
 obtain⟨N,C,hA,hC,aj⟩:=A0p.1 ae.p2
 obtain⟨ca,nQ⟩:=B8b aj
 have hk:QOK N:=fun p nd hp=>(nQ p nd hp).1
 obtain⟨rb,cm,hT,bp⟩:=A2e.1 aj
 have ak:sat h2 (cells t (trC rb cm)::p8 N::mapA A1b A1A cm C::cells x2 #[.slice none 0 0]::cells x1 #[.int .i64 id]::R):=bp
 clear bp aj ae aa hs
 have hp:=B80 hT hA hk
 obtain⟨r,fr,cQ⟩:=hT.root
 refine⟨_,rfl,some ⟨rb,0,none⟩,by rw[U3];exact ak.cell 0,?_⟩
 have ep:(Value.pointer (some ⟨rb,0,none⟩))=.pointer (o7 r):=by unfold o7;rw[cQ]
 (try dsimp only);rw[ep]
 have hJ:sat h2 (C1P x1 x2 id []::cells t (trC rb cm)::p8 N::mapA A1b A1A cm C::R):=by
  refine A8M.2 ⟨⟨none,0,0⟩,?_⟩
  have:=Z3 (enc:=Z8) (size:=3) (ak.re [3,4,0,1,2])
  exact this.p1
 refine u9 (C54 hT (hA.fP hk) (yv:=.func (.func 168) #[] #[.pointer (some ⟨x1,0,none⟩),.pointer (some ⟨x2,0,none⟩)]) (J:=C1P x1 x2 id)
  (fun l e h R Q gX af eh=>⟨_,_,_,rfl,call168,C4z gX af fun h' nH=>⟨(),rfl,eh h' nH⟩⟩)
  _ [] r rfl fr (A:=cells t (trC rb cm)) (s:=⟨none,0,0⟩) (l:=[]) (fun _=>C2C) (by rw[B0H];exact hJ.re [2,0,1,3]) (by rw[B0H,hp.length_eq];simp;omega) fun l' h3 gY ai=>⟨(),rfl,?_⟩)
 rw[B0H] at gY ai
 rw[F2] at ai
 obtain⟨s,aw⟩:=A8M.1 ai.p1
 clear ai ak hJ
 refine⟨s,aw.cell 0,?_⟩
 have xh:l'.length≤10000:=by rw[gY.length_eq,hp.length_eq];exact hl
 refine u9 (B6G aw.p1 (C4 (D4 _ _) (by omega)) fun ys h4 gF fX aK=>⟨(),rfl,?_⟩)
 have e:=B6A hA.dE (gF.trans ((gY.trans hp).filter _)) fX
 subst e
 refine⟨s,aK.p1.cell 0,?_⟩
 refine hq s h4 ?_
 have bw:sat h4 (cells t (trC rb cm)::p8 N::mapA A1b A1A cm C::U5 Z8 3 s (A53 id L)::R):=(aK.re [1,2,4,3,5,0]).drop.drop
 exact(A0p.2 ⟨N,C,hA,hC,A2e.2 ⟨rb,cm,hT,bw⟩⟩).p1
end
section
open Go.H Go.Proofs
variable {h h0:Heap} {R:List Asn}
theorem A81{t:Nat}{L:List Ent}(hs:sat h (o6 t L::R)):(∀x∈L,X5 x.2.1=true)∧Asc L:=by
 obtain⟨N,C,hA,-,-⟩:=A0p.1 hs
 exact⟨hA.bR,hA.dE⟩
def B9W(D:List Ent)(x:Ent):Bool:= !(D.any fun y=>decide (y=x))
theorem B5o{D:List Ent}{x:Ent}:B9W D x=true↔x∉D:=by
 unfold B9W
 rw[O3,List.any_eq_false]
 constructor
 ·intro h hx
  have:=h x hx
  simp at this
 ·intro h y hy e
  rw[decide_eq_true_eq] at e
  exact h (e▸hy)
abbrev A1h(id:Int)(L:List Ent):List Ent:=L.filter fun x=> !decide (x.1=id)
theorem C07{t:Nat}{L:List Ent}(ht:TP h0){id:Int}(hl:L.length≤10000)(hs:sat h (o6 t L::old h0::R)){Q:Value→Heap→Prop}
  (hq:∀h',sat h' (o6 t (A1h id L)::old h0::R)→Q (.int .i64 ((A53 id L).length:Nat)) h'):
  V3 prog 71 #[at9 t,.int .i64 id] h Q:=by
 refine A8l (some ⟨t,0,none⟩) id h Q ?_
 delta A8m bn cb cc ie ix jt nw pu sn ve vi wi
 obtain⟨cA,fy⟩:=A81 hs
 refine U6 (C3n hl hs fun s h1 aa=>⟨s,rfl,?_⟩)
 have hlen:=aa.aW
 have yC:(A53 id L).length≤L.length:=D4 _ _
 have hD:∀e,e∈A53 id L↔e∈L∧e.1=id:=fun e=>by rw[D5,decide_eq_true_eq]
 have cG:(L.filter fun x=>B9W (A53 id L) x)=A1h id L:=by
  refine L8 fun x hx=>?_
  apply Bool.eq_iff_iff.2
  rw[B5o,hD,O3,decide_eq_false_iff_not]
  constructor
  ·exact fun h e=>h ⟨hx,e⟩
  ·exact fun h e=>h e.2
 generalize yD:A53 id L=D at*
 (try dsimp only);rw[U1]
 refine l9 (γ:=Nat) (hb:=fun s=>by
   repeat' with_reducible first
    |refine @A0r _ _ _ _ ?_ (fun _=>?_)
    |refine @A0Z _ _ _ _ ?_ ?_
    |refine @A1X _ _ _ ?_
   all_goals infer_instance)
  (fun g x h'=>g≤D.length∧x.1=(g:Int)∧sat h' (U5 Z8 3 s D::o6 t (L.filter fun x=>B9W (D.take g) x)::old h0::R)) (fun g=>D.length-g) 0
  ⟨D1 _,rfl,by
   have e0:(L.filter fun x=>B9W (D.take 0) x)=L:=G9.2 fun x _=>rfl
   rw[e0];exact aa⟩ ?_
 clear aa hs
 rintro i ⟨ci,⟨⟩⟩ h2 ⟨hi,bu,ae⟩
 simp only at hi bu ae
 subst bu
 have next:IntKind.wrap .i64 ((i:Int)+1)=((i+1:Nat):Int):=by rw[V8 (by omega) (by omega)];rfl
 simp only[U9,decide_eq_true_eq]
 by_cases ah:i<D.length
 ·rw[if_pos (by omega),U1]
  have hx:=B0 ah
  generalize D[i]=e at hx
  have xA:=E9 hx
  obtain⟨vA,qG⟩:=(hD e).1 xA
  refine X8 (ae.aO A0P) hx fun a ha=>?_
  refine A0n (ts:=[.int .i64,.str,.int .i64]) (e.1,e.2.1,e.2.2,()) (fun j v hv=>ha j v hv) ?_
  refine V5 ae fun x6 h3 aj=>?_
  (try dsimp only);rw[U1]
  refine l5 aj rfl rfl fun h4 bp=>?_
  have ak:sat h4 (o6 t (L.filter fun x=>B9W (D.take i) x)::old h0::U5 Z8 3 s D::cells x6 #[.int .i64 e.1,.string e.2.1,.int .i64 e.2.2]::R):=bp.re [2,3,1,0]
  clear bp aj ae
  refine⟨e.2.1,by rw[U3];exact ak.p3.cell 1,?_⟩
  have yz:=A3F (A0z (cA e vA))
  refine U6 (B0S ht (by omega) (C4 (D4 _ _) (by omega)) ak fun h5 ai=>⟨_,rfl,?_⟩)
  have dR:A1L (L.filter fun x=>B9W (D.take i) x) id e.2.1=L.filter fun x=>B9W (D.take (i+1)) x:=by
   unfold A1L
   rw[R7]
   refine L8 fun x wJ=>?_
   have pM:D.take (i+1)=D.take i++[e]:=by rw[H8,hx];rfl
   rw[pM]
   have fQ:b7 x=(id,e.2.1)↔x=e:=by
    constructor
    ·intro hk
     exact fy.key wJ vA (hk.trans (by rw[←qG]))
    ·rintro rfl
     rw[←qG]
   apply Bool.eq_iff_iff.2
   rw[F0,decide_eq_true_eq,B5o,B5o,C9,B7]
   constructor
   ·rintro⟨h1,h2⟩ (h3|h3)
    ·exact h2 h3
    ·exact h1 (fQ.2 h3)
   ·exact fun h1=>⟨fun h2=>h1 (.inr (fQ.1 h2)),fun h2=>h1 (.inl h2)⟩
  rw[dR] at ai
  simp only[D7,E8,V1]
  exact .mk (i+1) (by omega) ⟨by omega,next,(ai.re [3,2,0,1]).drop⟩
 ·rw[if_neg (by omega)]
  have:i=D.length:=by omega
  subst this
  rw[F9,cG] at ae
  simp only[D7,E8,V1]
  rw[hlen]
  exact hq h2 ae.drop
def A0D(r:Nat)(L:List Ent):Asn:=exA fun s:Slc=>star (cells r #[.slice s.a s.len s.cap]) (U5 Z8 3 s L)
theorem A1u{r:Nat}{L:List Ent}:sat h (A0D r L::R)↔∃s:Slc,sat h (cells r #[.slice s.a s.len s.cap]::U5 Z8 3 s L::R):=by
 unfold A0D
 rw[sat.bA]
 constructor
 ·rintro⟨s,hs⟩;exact⟨s,sat.aI.1 hs⟩
 ·rintro⟨s,hs⟩;exact⟨s,sat.aI.2 hs⟩
theorem A3D{α:Type}{L:List α}{i:Nat}{x:α}(hx:L[i]? =some x)(c:α→Bool):(L.take (i+1)).filter c=(L.take i).filter c++(if c x=true then[x] else[]):=by
 rw[H8,hx,F3]
 simp only[Option.toList_some,H6,J9]
theorem B8x{r:Nat}{L:List Ent}{id:Int}{f:B3O}(hl:L.length≤10000)(hs:sat h (A0D r L::R)){Q:Value→Heap→Prop}
  (hq:∀h',sat h' (A0D r (A1L L id f)::R)→Q (.bool (decide ((A1L L id f).length<L.length))) h'):
  V3 prog 198 #[at9 r,.int .i64 id,.string f] h Q:=by
 refine B0p (some ⟨r,0,none⟩) id f h Q ?_
 delta B1b az bn ie ix kc ki kt nn nw pu sx ve vi vs wi
 obtain⟨s,aa⟩:=A1u.1 hs
 have hlen:=aa.p1.aW
 rw[U1]
 refine l9 (γ:=Nat) (hb:=fun s=>by
   repeat' with_reducible first
    |refine @A0r _ _ _ _ ?_ (fun _=>?_)
    |refine @A0Z _ _ _ _ ?_ ?_
    |refine @A1X _ _ _ ?_
   all_goals infer_instance)
  (fun g x h'=>g≤L.length∧x.2.1=(g:Int)∧sat h' (cells r #[.slice s.a s.len s.cap]::U5 Z8 3 s L::U5 Z8 3 x.1 (A1L (L.take g) id f)::R)) (fun g=>L.length-g) 0
  ⟨D1 _,rfl,by simpa[A1L] using(Z3 (enc:=Z8) (size:=3) aa).re [1,2,0]⟩ ?_
 clear aa hs
 rintro i ⟨o,ci,⟨⟩⟩ h2 ⟨hi,bu,ae⟩
 simp only at hi bu ae
 subst bu
 have next:IntKind.wrap .i64 ((i:Int)+1)=((i+1:Nat):Int):=by rw[V8 (by omega) (by omega)];rfl
 have cr:∀{h':Heap} {R':List Asn},sat h' (cells r #[.slice s.a s.len s.cap]::R')→W0 h' ⟨r,0,none⟩=some (.slice s.a s.len s.cap):=fun af=>af.cell 0
 refine⟨_,rfl,s,by rw[U3];exact cr ae,?_⟩
 (try dsimp only);rw[U9]
 by_cases ah:i<L.length
 ·rw[if_pos (by simp only[decide_eq_true_eq];omega)]
  have hx:=B0 ah
  generalize L[i]=e at hx
  refine V4 (fun x h'=>h'=h2∧x.1=decide (b7 e≠(id,f))) ?_ ?_
  ·refine⟨_,rfl,s,by rw[U3];exact cr ae,?_⟩
   (try dsimp only);rw[U1]
   refine X8 (ae.p1.aO A0P) hx fun a ha=>?_
   refine⟨e.1,ha 0 _ rfl,?_⟩
   (try dsimp only);rw[U9]
   by_cases h1:e.1=id
   ·rw[if_neg (by simp[h1])]
    refine⟨_,rfl,s,by rw[U3];exact cr ae,?_⟩
    (try dsimp only);rw[U1]
    refine X8 (ae.p1.aO A0P) hx fun a ha=>?_
    refine⟨e.2.1,ha 1 _ rfl,rfl,?_⟩
    simp[h1]
   ·rw[if_pos (by simp[h1])]
    exact⟨rfl,by simp[h1]⟩
  rintro⟨x,⟨⟩⟩ h3 ⟨rfl,uF⟩
  simp only at uF
  subst uF
  have eR:=A3D hx (fun x:Ent=>decide (b7 x≠(id,f)))
  have oU:(A1L (L.take i) id f).length≤10000:=C4 (D4 _ _) (by rw[E6];omega)
  refine V4 (fun z h'=>sat h' (cells r #[.slice s.a s.len s.cap]::U5 Z8 3 s L::U5 Z8 3 z.1 (A1L (L.take (i+1)) id f)::R)) ?_ ?_
  ·(try dsimp only);rw[U9]
   unfold A1L at oU ae⊢
   rw[eR]
   by_cases hk:decide (b7 e≠(id,f))=true
   ·rw[if_pos hk,if_pos hk]
    refine⟨_,rfl,s,by rw[U3];exact cr ae,?_⟩
    (try dsimp only);rw[U1]
    refine X8 (ae.p1.aO A0P) hx fun a ha=>?_
    refine A0n (ts:=[.int .i64,.str,.int .i64]) (e.1,e.2.1,e.2.2,()) (fun j v hv=>ha j v hv) ?_
    refine V5 ae fun y h4 aj=>?_
    (try dsimp only);rw[U1]
    refine A0d (enc:=Z8) (ys:=[e]) A0P A3Y rfl aj.p3 rfl ?_ (by decide) (by decide) (by omega) fun s' h5 ak=>?_
    ·simp only[V6,N5,D8,H9,C1]
     exact aj.reads rfl
    exact(ak.re [1,2,3,0]).drop
   ·rw[if_neg hk,if_neg hk,C1]
    exact ae
  rintro⟨o',⟨⟩⟩ h4 ak
  simp only[D7,E8,V1]
  exact .mk (i+1) (by omega) ⟨by omega,next,ak⟩
 ·rw[if_neg (by simp only[decide_eq_true_eq];omega)]
  have:i=L.length:=by omega
  subst this
  rw[F9] at ae
  simp only[D7,E8,V1]
  have gm:=ae.p2.aW
  refine⟨_,rfl,s,by rw[U3];exact cr ae,_,rfl,?_⟩
  (try dsimp only);rw[U1,U3]
  refine W7 ae (by simp) rfl fun h5 ai=>?_
  have:=hq h5 (A1u.2 ⟨o,(ai.re [1,0,2]).drop⟩)
  have e1:decide (((o.len:Nat):Int)<((s.len:Nat):Int))=decide ((A1L L id f).length<L.length):=by
   rw[G6,gm,hlen];omega
  rw[←e1] at this
  exact this
theorem C1n{r:Nat}{L:List Ent}{id:Int}(hl:L.length≤10000)(hs:sat h (A0D r L::R)){Q:Value→Heap→Prop}
  (hq:∀h',sat h' (A0D r (A1h id L)::R)→Q (.int .i64 ((A53 id L).length:Nat)) h'):
  V3 prog 134 #[at9 r,.int .i64 id] h Q:=by
 refine B2C (some ⟨r,0,none⟩) id h Q ?_
 delta B5e az bn ie ix kc ki nn nw pu sx ve vi vs wi
 obtain⟨s,aa⟩:=A1u.1 hs
 have hlen:=aa.p1.aW
 rw[U1]
 refine l9 (γ:=Nat) (hb:=fun s=>by
   repeat' with_reducible first
    |refine @A0r _ _ _ _ ?_ (fun _=>?_)
    |refine @A0Z _ _ _ _ ?_ ?_
    |refine @A1X _ _ _ ?_
   all_goals infer_instance)
  (fun g x h'=>g≤L.length∧x.2.1=(g:Int)∧sat h' (cells r #[.slice s.a s.len s.cap]::U5 Z8 3 s L::U5 Z8 3 x.1 (A1h id (L.take g))::R)) (fun g=>L.length-g) 0
  ⟨D1 _,rfl,by simpa[A1h] using(Z3 (enc:=Z8) (size:=3) aa).re [1,2,0]⟩ ?_
 clear aa hs
 rintro i ⟨o,ci,⟨⟩⟩ h2 ⟨hi,bu,ae⟩
 simp only at hi bu ae
 subst bu
 have next:IntKind.wrap .i64 ((i:Int)+1)=((i+1:Nat):Int):=by rw[V8 (by omega) (by omega)];rfl
 have cr:∀{h':Heap} {R':List Asn},sat h' (cells r #[.slice s.a s.len s.cap]::R')→W0 h' ⟨r,0,none⟩=some (.slice s.a s.len s.cap):=fun af=>af.cell 0
 refine⟨_,rfl,s,by rw[U3];exact cr ae,?_⟩
 (try dsimp only);rw[U9]
 by_cases ah:i<L.length
 ·rw[if_pos (by simp only[decide_eq_true_eq];omega)]
  have hx:=B0 ah
  generalize L[i]=e at hx
  refine⟨_,rfl,s,by rw[U3];exact cr ae,?_⟩
  (try dsimp only);rw[U1]
  refine X8 (ae.p1.aO A0P) hx fun a ha=>?_
  refine⟨e.1,ha 0 _ rfl,?_⟩
  have eR:=A3D hx (fun x:Ent=> !decide (x.1=id))
  have oU:(A1h id (L.take i)).length≤10000:=C4 (D4 _ _) (by rw[E6];omega)
  refine V4 (fun z h'=>sat h' (cells r #[.slice s.a s.len s.cap]::U5 Z8 3 s L::U5 Z8 3 z.1 (A1h id (L.take (i+1)))::R)) ?_ ?_
  ·(try dsimp only);rw[U9]
   unfold A1h at oU ae⊢
   rw[eR]
   have eb:(!(e.1==id))=(!decide (e.1=id)):=rfl
   by_cases hk:(!decide (e.1=id))=true
   ·rw[if_pos (by rw[eb];exact hk),if_pos hk]
    refine⟨_,rfl,s,by rw[U3];exact cr ae,?_⟩
    (try dsimp only);rw[U1]
    refine X8 (ae.p1.aO A0P) hx fun a ha=>?_
    refine A0n (ts:=[.int .i64,.str,.int .i64]) (e.1,e.2.1,e.2.2,()) (fun j v hv=>ha j v hv) ?_
    refine V5 ae fun y h4 aj=>?_
    (try dsimp only);rw[U1]
    refine A0d (enc:=Z8) (ys:=[e]) A0P A3Y rfl aj.p3 rfl ?_ (by decide) (by decide) (by omega) fun s' h5 ak=>?_
    ·simp only[V6,N5,D8,H9,C1]
     exact aj.reads rfl
    exact(ak.re [1,2,3,0]).drop
   ·rw[if_neg (by rw[eb];exact hk),if_neg hk,C1]
    exact ae
  rintro⟨o',⟨⟩⟩ h4 ak
  simp only[D7,E8,V1]
  exact .mk (i+1) (by omega) ⟨by omega,next,ak⟩
 ·rw[if_neg (by simp only[decide_eq_true_eq];omega)]
  have:i=L.length:=by omega
  subst this
  rw[F9] at ae
  simp only[D7,E8,V1]
  have gm:=ae.p2.aW
  refine⟨_,rfl,s,by rw[U3];exact cr ae,_,rfl,?_⟩
  (try dsimp only);rw[U1,U3]
  refine W7 ae (by simp) rfl fun h5 ai=>?_
  have:=hq h5 (A1u.2 ⟨o,(ai.re [1,0,2]).drop⟩)
  have sT:(A53 id L).length+(A1h id L).length=L.length:=by
   have:=(List.filter_append_perm (fun x:Ent=>decide (x.1=id)) L).length_eq
   rw[B5] at this
   exact this
  have e1:IntKind.wrap .i64 (((s.len:Nat):Int)-((o.len:Nat):Int))=(((A53 id L).length:Nat):Int):=by
   rw[gm,hlen,V8 (by omega) (by omega)];omega
  (try dsimp only)
  rw[e1]
  exact this
theorem B8y{r:Nat}{L:List Ent}{n:B3O}(hg:∀x∈L,x.2.1.size≤9223372036854775800)(hsz:n.size≤9223372036854775800)(hl:L.length≤10000)(hs:sat h (A0D r L::R)){Q:Value→Heap→Prop}
  (hq:∀(o:Slc) h',sat h' (U5 Z8 3 o (L.filter fun x=>Y8 x.2.1 n)::A0D r L::R)→Q (.slice o.a o.len o.cap) h'):
  V3 prog 137 #[at9 r,.string n] h Q:=by
 refine B1c (some ⟨r,0,none⟩) n h Q ?_
 delta B3y az bn cb ie ix kc kt nn nw pu ve vi wi
 obtain⟨s,aa⟩:=A1u.1 hs
 have hlen:=aa.p1.aW
 rw[U1]
 refine l9 (γ:=Nat) (hb:=fun s=>by
   repeat' with_reducible first
    |refine @A0r _ _ _ _ ?_ (fun _=>?_)
    |refine @A0Z _ _ _ _ ?_ ?_
    |refine @A1X _ _ _ ?_
   all_goals infer_instance)
  (fun g x h'=>g≤L.length∧x.2.1=(g:Int)∧sat h' (cells r #[.slice s.a s.len s.cap]::U5 Z8 3 s L::U5 Z8 3 x.1 ((L.take g).filter fun x=>Y8 x.2.1 n)::R)) (fun g=>L.length-g) 0
  ⟨D1 _,rfl,by simpa using(Z3 (enc:=Z8) (size:=3) aa).re [1,2,0]⟩ ?_
 clear aa hs
 rintro i ⟨o,ci,⟨⟩⟩ h2 ⟨hi,bu,ae⟩
 simp only at hi bu ae
 subst bu
 have next:IntKind.wrap .i64 ((i:Int)+1)=((i+1:Nat):Int):=by rw[V8 (by omega) (by omega)];rfl
 have cr:∀{h':Heap} {R':List Asn},sat h' (cells r #[.slice s.a s.len s.cap]::R')→W0 h' ⟨r,0,none⟩=some (.slice s.a s.len s.cap):=fun af=>af.cell 0
 refine⟨_,rfl,s,by rw[U3];exact cr ae,?_⟩
 (try dsimp only);rw[U9]
 by_cases ah:i<L.length
 ·rw[if_pos (by simp only[decide_eq_true_eq];omega)]
  have hx:=B0 ah
  generalize L[i]=e at hx
  refine⟨_,rfl,s,by rw[U3];exact cr ae,?_⟩
  (try dsimp only);rw[U1]
  refine X8 (ae.p1.aO A0P) hx fun a ha=>?_
  refine⟨e.2.1,ha 1 _ rfl,?_⟩
  refine U6 (B3C ae (hg e (E9 hx)) hsz fun h3 aj=>⟨Y8 e.2.1 n,rfl,?_⟩)
  have eR:=A3D hx (fun x:Ent=>Y8 x.2.1 n)
  have oU:((L.take i).filter fun x=>Y8 x.2.1 n).length≤10000:=C4 (D4 _ _) (by rw[E6];omega)
  refine V4 (fun z h'=>sat h' (cells r #[.slice s.a s.len s.cap]::U5 Z8 3 s L::U5 Z8 3 z.1 ((L.take (i+1)).filter fun x=>Y8 x.2.1 n)::R)) ?_ ?_
  ·(try dsimp only);rw[U9,eR]
   by_cases hk:Y8 e.2.1 n=true
   ·rw[if_pos hk,if_pos hk]
    refine⟨_,rfl,s,by rw[U3];exact cr aj,?_⟩
    (try dsimp only);rw[U1]
    refine X8 (aj.p1.aO A0P) hx fun a ha=>?_
    refine A0n (ts:=[.int .i64,.str,.int .i64]) (e.1,e.2.1,e.2.2,()) (fun j v hv=>ha j v hv) ?_
    refine V5 aj fun y h4 ak=>?_
    (try dsimp only);rw[U1]
    refine A0d (enc:=Z8) (ys:=[e]) A0P A3Y rfl ak.p3 rfl ?_ (by decide) (by decide) (by omega) fun s' h5 ai=>?_
    ·simp only[V6,N5,D8,H9,C1]
     exact ak.reads rfl
    exact(ai.re [1,2,3,0]).drop
   ·rw[if_neg hk,if_neg hk,C1]
    exact aj
  rintro⟨o',⟨⟩⟩ h4 ak
  simp only[D7,E8,V1]
  exact .mk (i+1) (by omega) ⟨by omega,next,ak⟩
 ·rw[if_neg (by simp only[decide_eq_true_eq];omega)]
  have:i=L.length:=by omega
  subst this
  rw[F9] at ae
  simp only[D7,E8,V1]
  refine hq o h2 ?_
  exact(A1u.2 ⟨s,ae.re [0,1,2]⟩).p1
end
section
open Go.H Go.Proofs
variable {h h0:Heap} {R:List Asn}
theorem C2m(hs:sat h R){a b:Ent}{Q:Value→Heap→Prop}(hq:∀h',sat h' R→Q (.bool (decide (ltK (b7 a) (b7 b)))) h'):
  V3 prog 247 #[.agg #[.int .i64 a.1,.string a.2.1,.int .i64 a.2.2],.agg #[.int .i64 b.1,.string b.2.1,.int .i64 b.2.2]] h Q:=by
 refine B1a (a.1,a.2.1,a.2.2,()) (b.1,b.2.1,b.2.2,()) h Q ?_
 delta B3x bn ie ji jt nw pu vi
 refine V5 hs fun x1 h1 aa=>?_
 refine V5 aa fun x2 h2 ae=>?_
 refine V4 (fun z h'=>h'=h2∧z.1=decide (ltK (b7 a) (b7 b))) ?_ ?_
 ·refine⟨a.1,by rw[U3];exact ae.p1.cell 0,b.1,by rw[U3];exact ae.cell 0,?_⟩
  (try dsimp only);rw[U9]
  by_cases h1:a.1<b.1
  ·rw[if_pos (by simpa using h1)]
   exact⟨rfl,(decide_eq_true (.inl h1)).symm⟩
  ·rw[if_neg (by simpa using h1)]
   refine⟨a.1,by rw[U3];exact ae.p1.cell 0,b.1,by rw[U3];exact ae.cell 0,?_⟩
   (try dsimp only);rw[U9]
   by_cases h2:a.1=b.1
   ·rw[if_pos (by simpa using h2)]
    refine⟨a.2.1,by rw[U3];exact ae.p1.cell 1,b.2.1,by rw[U3];exact ae.cell 1,rfl,?_⟩
    apply Bool.eq_iff_iff.2
    rw[B96,decide_eq_true_eq,decide_eq_true_eq]
    constructor
    ·intro h3;exact .inr ⟨h2,h3⟩
    ·rintro(h3|h3)
     ·exact absurd h3 h1
     ·exact h3.2
   ·rw[if_neg (by simpa using h2)]
    refine⟨rfl,(decide_eq_false ?_).symm⟩
    rintro(h3|h3)
    ·exact h1 h3
    ·exact h2 h3.1
 rintro⟨z,⟨⟩⟩ h3 ⟨rfl,hz⟩
 simp only at hz
 subst hz
 exact hq h3 ae.drop.drop
theorem C5T{L:List Ent}{i:Nat}{x:Ent}(hx:L[i]? =some x)(k:Int):A08 (L.take (i+1)) k=A08 (L.take i) k+if x.1=k then 1 else 0:=by
 unfold A08
 rw[H8,hx,C0,List.count_append]
 simp[List.count_cons]
theorem C3I{r:Nat}{L:List Ent}{id q:Int}{f:B3O}(hsz:f.size≤9223372036854775800)(hl:L.length≤10000)(hs:sat h (A0D r L::R)){Q:Value→Heap→Prop}
  (al:X5 f=false→∀h',sat h' (A0D r L::R)→Q (.int .i64 143) h')
  (ft:X5 f=true→(q<0∨2<q)→∀h',sat h' (A0D r L::R)→Q (.int .i64 155) h')
  (eX:X5 f=true→0≤q→q≤2→∀i x,L[i]? =some x→b7 x=(id,f)→(∀y∈L.take i,b7 y≠(id,f))→∀h',sat h' (A0D r (L.set i (id,f,q))::R)→Q (.int .i64 0) h')
  (aA:X5 f=true→0≤q→q≤2→(∀x∈L,b7 x≠(id,f))→64≤A08 L id→∀h',sat h' (A0D r L::R)→Q (.int .i64 151) h')
  (iZ:X5 f=true→0≤q→q≤2→(∀x∈L,b7 x≠(id,f))→A08 L id<64→∀h',sat h' (A0D r (A2q ltK b7 (id,f,q) L)::R)→Q (.int .i64 0) h'):
  V3 prog 196 #[at9 r,C4F id f q] h Q:=by
 refine B4h (some ⟨r,0,none⟩) (id,f,q,()) h Q ?_
 delta B7s az bn cb ci ie ix ji jt kc ki kt nn nw pu sx ve vi vs wi
 refine V5 hs fun x1 h1 aa=>?_
 have hE:∀{h':Heap} {R':List Asn},sat h' (cells x1 #[.int .i64 id,.string f,.int .i64 q]::R')→W0 h' ⟨x1,0,none⟩=some (.int .i64 id)∧W0 h' ⟨x1,1,none⟩=some (.string f)∧W0 h' ⟨x1,2,none⟩=some (.int .i64 q):=fun af=>⟨af.cell 0,af.cell 1,af.cell 2⟩
 refine⟨f,by rw[U3];exact(hE aa).2.1,?_⟩
 refine U6 (A5A aa hsz fun h2 ae=>⟨A91 f,rfl,?_⟩)
 clear aa hs
 (try dsimp only);rw[U9]
 unfold A91
 by_cases hf:X5 f=true
 case neg=>
  rw[if_neg hf,if_pos (by decide)]
  exact al (by simpa using hf) h2 ae.drop
 rw[if_pos hf,if_neg (by decide)]
 clear al
 refine V4 (fun x h'=>h'=h2∧(x.1=true↔(q<0∨2<q))) ?_ ?_
 ·refine⟨q,by rw[U3];exact(hE ae).2.2,?_⟩
  (try dsimp only);rw[U9]
  by_cases g1:q<0
  ·rw[if_pos (by simpa using g1)]
   exact⟨rfl,by simp[g1]⟩
  ·rw[if_neg (by simpa using g1)]
   exact⟨q,by rw[U3];exact(hE ae).2.2,rfl,by simp[g1]⟩
 rintro⟨x,⟨⟩⟩ h3 ⟨rfl,hx⟩
 simp only at hx
 rw[U9]
 by_cases g:q<0∨2<q
 ·rw[if_pos (hx.2 g)]
  exact ft hf g h3 ae.drop
 rw[if_neg (fun e=>g (hx.1 e))]
 clear hx ft
 have iP:0≤q:=by omega
 have ef:q≤2:=by omega
 clear g
 obtain⟨s,bo⟩:=A1u.1 ae.p1
 have aj:sat h3 (cells r #[.slice s.a s.len s.cap]::U5 Z8 3 s L::cells x1 #[.int .i64 id,.string f,.int .i64 q]::R):=bo
 clear bo ae
 have hlen:=aj.p1.aW
 have cr:∀{h':Heap} {R':List Asn},sat h' (cells r #[.slice s.a s.len s.cap]::R')→W0 h' ⟨r,0,none⟩=some (.slice s.a s.len s.cap):=fun af=>af.cell 0
 have cntb:∀g,A08 (L.take g) id≤10000:=fun g=>C4 (B6q _ _) (by rw[E6];omega)
 rw[U1]
 refine l9 (γ:=Nat) (hb:=fun s=>by
   repeat' with_reducible first
    |refine @A0r _ _ _ _ ?_ (fun _=>?_)
    |refine @A0Z _ _ _ _ ?_ ?_
    |refine @A1X _ _ _ ?_
    |refine @C3Q _ _ _ _ _ _ (fun _=>?_) (fun _=>?_)
   all_goals infer_instance)
  (fun g x h'=>g≤L.length∧x.2.1=(g:Int)∧x.1=(A08 (L.take g) id:Int)∧(∀y∈L.take g,b7 y≠(id,f))∧
   sat h' (cells r #[.slice s.a s.len s.cap]::U5 Z8 3 s L::cells x1 #[.int .i64 id,.string f,.int .i64 q]::R)) (fun g=>L.length-g) 0
  ⟨D1 _,rfl,by simp[A08],by simp,aj⟩ ?_
 clear aj
 rintro i ⟨n,ci,⟨⟩⟩ h4 ⟨hi,bu,ca,ax,ak⟩
 simp only at hi bu ca ax ak
 subst bu
 have next:IntKind.wrap .i64 ((i:Int)+1)=((i+1:Nat):Int):=by rw[V8 (by omega) (by omega)];rfl
 refine⟨_,rfl,s,by rw[U3];exact cr ak,?_⟩
 (try dsimp only);rw[U9]
 by_cases ah:i<L.length
 ·rw[if_pos (by simp only[decide_eq_true_eq];omega)]
  have hx:=B0 ah
  generalize L[i]=e at hx
  have gv:=C5T hx id
  have yA:=cntb i
  have nokey:b7 e≠(id,f)→∀y∈L.take (i+1),b7 y≠(id,f):=by
   intro he y hy
   rw[H8,hx] at hy
   rcases C9.1 hy with hy|hy
   ·exact ax y hy
   ·simp at hy;subst hy;exact he
  refine V4 (fun z h'=>(∃m,z=.inl (m,())∧m=(A08 (L.take (i+1)) id:Int)∧b7 e≠(id,f)∧sat h' (cells r #[.slice s.a s.len s.cap]::U5 Z8 3 s L::cells x1 #[.int .i64 id,.string f,.int .i64 q]::R))∨
   (z=.inr (.inr (.inr (0,())))∧b7 e=(id,f)∧sat h' (cells r #[.slice s.a s.len s.cap]::U5 Z8 3 s (L.set i (id,f,q))::cells x1 #[.int .i64 id,.string f,.int .i64 q]::R))) ?_ ?_
  ·refine⟨_,rfl,s,by rw[U3];exact cr ak,?_⟩
   (try dsimp only);rw[U1]
   refine X8 (ak.p1.aO A0P) hx fun a ha=>?_
   refine⟨e.1,ha 0 _ rfl,id,by rw[U3];exact(hE ak.p2).1,?_⟩
   (try dsimp only);rw[U9]
   by_cases h1:e.1=id
   ·rw[if_neg (by simp[h1])]
    rw[if_pos h1] at gv
    refine⟨_,rfl,s,by rw[U3];exact cr ak,?_⟩
    (try dsimp only);rw[U1]
    refine X8 (ak.p1.aO A0P) hx fun a ha=>?_
    refine⟨e.2.1,ha 1 _ rfl,f,by rw[U3];exact(hE ak.p2).2.1,?_⟩
    (try dsimp only);rw[U9]
    by_cases h2:e.2.1=f
    ·rw[if_pos (by simpa using h2)]
     refine⟨_,rfl,s,by rw[U3];exact cr ak,q,by rw[U3];exact(hE ak.p2).2.2,?_⟩
     (try dsimp only);rw[U1]
     refine B8S A0P ak.p1 hx fun p hp cy=>?_
     (try dsimp only);rw[U1]
     refine cy 2 _ (id,f,q) _ (by decide) (by simp[h1,h2]) rfl fun h5 ai=>?_
     exact .inr ⟨rfl,by rw[←h1,←h2],ai.p1⟩
    ·rw[if_neg (by simpa using h2)]
     refine .inl ⟨_,rfl,?_,fun hk=>h2 (congrArg Prod.snd hk),ak⟩
     rw[ca,V8 (by omega) (by omega),gv]
     rfl
   ·rw[if_pos (by simp[h1])]
    rw[if_neg h1] at gv
    exact .inl ⟨_,rfl,by rw[ca,gv];rfl,fun hk=>h1 (congrArg Prod.fst hk),ak⟩
  rintro z h5 (⟨m,rfl,hm,hk,ai⟩|⟨rfl,hk,ai⟩)
  ·simp only[D7,E8,V1]
   exact .mk (i+1) (by omega) ⟨by omega,next,hm,nokey hk,ai⟩
  ·simp only[D7,E8,V1]
   exact eX hf iP ef i e hx hk ax h5 (A1u.2 ⟨s,(ai.re [2,0,1]).drop⟩)
 rw[if_neg (by simp only[decide_eq_true_eq];omega)]
 have:i=L.length:=by omega
 subst this
 rw[F9] at ca ax
 simp only[D7,E8,V1]
 clear eX next ah hi
 rw[U9]
 by_cases cT:64≤A08 L id
 ·rw[if_pos (by rw[ca];simp only[decide_eq_true_eq];omega)]
  exact aA hf iP ef ax cT h4 (A1u.2 ⟨s,(ak.re [2,0,1]).drop⟩)
 rw[if_neg (by rw[ca];simp only[decide_eq_true_eq];omega)]
 clear aA
 refine V4 (fun x h'=>(if x.1=true then ∃out,out=A2q ltK b7 (id,f,q) L∧sat h' (U5 Z8 3 x.2.1 out::cells r #[.slice s.a s.len s.cap]::U5 Z8 3 s L::cells x1 #[.int .i64 id,.string f,.int .i64 q]::R)
   else ∃out,out++[(id,f,q)]=A2q ltK b7 (id,f,q) L∧sat h' (U5 Z8 3 x.2.1 out::cells r #[.slice s.a s.len s.cap]::U5 Z8 3 s L::cells x1 #[.int .i64 id,.string f,.int .i64 q]::R))) ?_ ?_
 ·refine l9 (γ:=Nat×List Ent) (hb:=fun s=>by
    repeat' with_reducible first
     |refine @A0r _ _ _ _ ?_ (fun _=>?_)
     |refine @A0Z _ _ _ _ ?_ ?_
     |refine @A1X _ _ _ ?_
    all_goals infer_instance)
   (fun g x h'=>g.1≤L.length∧x.2.2.1=(g.1:Int)∧g.2.length≤2*g.1∧(if x.1=true then g.2++L.drop g.1=A2q ltK b7 (id,f,q) L else g.2++A2q ltK b7 (id,f,q) (L.drop g.1)=A2q ltK b7 (id,f,q) L)∧
    sat h' (U5 Z8 3 x.2.1 g.2::cells r #[.slice s.a s.len s.cap]::U5 Z8 3 s L::cells x1 #[.int .i64 id,.string f,.int .i64 q]::R)) (fun g=>L.length-g.1) (0,[])
   ⟨D1 _,rfl,by simp,by simp,Z3 ak⟩ ?_
  clear ak
  rintro⟨i,out⟩ ⟨put,o,ci,⟨⟩⟩ h5 ⟨hi,bu,gm,hJ,ai⟩
  simp only at hi bu gm hJ ai
  subst bu
  have next:IntKind.wrap .i64 ((i:Int)+1)=((i+1:Nat):Int):=by rw[V8 (by omega) (by omega)];rfl
  refine⟨_,rfl,s,by rw[U3];exact cr ai.p1,?_⟩
  (try dsimp only);rw[U9]
  by_cases ah:i<L.length
  ·rw[if_pos (by simp only[decide_eq_true_eq];omega)]
   have gA:=E1 ah
   have hx:=B0 ah
   generalize L[i]=e at hx gA
   refine Y5 (ts:=[.int .i64,.str,.int .i64]) (id,f,q,()) ai.p3 rfl ?_
   refine⟨_,rfl,s,by rw[U3];exact cr ai.p1,?_⟩
   (try dsimp only);rw[U1]
   refine X8 (ai.p2.aO A0P) hx fun a ha=>?_
   refine A0n (ts:=[.int .i64,.str,.int .i64]) (e.1,e.2.1,e.2.2,()) (fun j v hv=>ha j v hv) ?_
   refine U6 (C2m (a:=(id,f,q)) (b:=e) ai fun h6 aw=>⟨_,rfl,?_⟩)
   refine V4 (fun z h'=>h'=h6∧z.1=(decide (ltK (id,f) (b7 e))&& !put)) ?_ ?_
   ·(try dsimp only);rw[U9]
    by_cases h1:ltK (id,f) (b7 e)
    ·rw[if_pos (by simpa using h1)];exact⟨rfl,by simp[h1]⟩
    ·rw[if_neg (by simpa using h1)];exact⟨rfl,by simp[h1]⟩
   rintro⟨z,⟨⟩⟩ h7 ⟨rfl,hz⟩
   simp only at hz
   subst hz
   refine V4 (fun z h'=>∃out',out'.length≤out.length+1∧(if z.2.1=true then out'++e::L.drop (i+1)=A2q ltK b7 (id,f,q) L else out'++e::A2q ltK b7 (id,f,q) (L.drop (i+1))=A2q ltK b7 (id,f,q) L)∧
    sat h' (U5 Z8 3 z.1 out'::cells r #[.slice s.a s.len s.cap]::U5 Z8 3 s L::cells x1 #[.int .i64 id,.string f,.int .i64 q]::R)) ?_ ?_
   ·(try dsimp only);rw[U9]
    rw[gA] at hJ
    by_cases hc:(decide (ltK (id,f) (b7 e))&& !put)=true
    ·rw[if_pos hc]
     rw[F0,decide_eq_true_eq,O3] at hc
     obtain⟨bf,rfl⟩:=hc
     refine Y5 (ts:=[.int .i64,.str,.int .i64]) (id,f,q,()) aw.p3 rfl ?_
     refine V5 aw fun y h8 bw=>?_
     (try dsimp only);rw[U1]
     refine A0d (enc:=Z8) (ys:=[(id,f,q)]) A0P A3Y rfl bw.p1 rfl ?_ (by decide) (by decide) (by omega) fun s' h9 ff=>?_
     ·simp only[V6,N5,D8,H9,C1]
      exact bw.reads rfl
     refine⟨out++[(id,f,q)],by simp,?_,(ff.re [1,0,2,3,4]).drop⟩
     rw[if_neg (by simp)] at hJ
     rw[if_pos rfl,←hJ,A2q,if_pos bf,D2]
     rfl
    ·rw[if_neg hc]
     refine⟨out,by omega,?_,aw⟩
     (try dsimp only)
     cases put with
     |true=>exact hJ
     |false=>
      rw[if_neg (by simp)] at hJ⊢
      rw[A2q,if_neg (by simpa using hc)] at hJ
      exact hJ
   rintro⟨o',put',⟨⟩⟩ h8 ⟨out',wZ,oY,bw⟩
   simp only at oY bw
   refine⟨_,rfl,s,by rw[U3];exact cr bw.p1,?_⟩
   (try dsimp only);rw[U1]
   refine X8 (bw.p2.aO A0P) hx fun a ha=>?_
   refine A0n (ts:=[.int .i64,.str,.int .i64]) (e.1,e.2.1,e.2.2,()) (fun j v hv=>ha j v hv) ?_
   refine V5 bw fun y h9 ff=>?_
   (try dsimp only);rw[U1]
   refine A0d (enc:=Z8) (ys:=[e]) A0P A3Y rfl ff.p1 rfl ?_ (by decide) (by decide) (by omega) fun s' fZ gj=>?_
   ·simp only[V6,N5,D8,H9,C1]
    exact ff.reads rfl
   simp only[D7,E8,V1]
   refine .mk (i+1,out'++[e]) (by simp only[];omega) ⟨by simp only[];omega,next,by simp only[B5,B8,H2];omega,?_,(gj.re [1,0,2,3,4]).drop⟩
   simp only[D2,List.singleton_append]
   exact oY
  ·rw[if_neg (by simp only[decide_eq_true_eq];omega)]
   have:i=L.length:=by omega
   subst this
   rw[K7] at hJ
   simp only[D7,E8,V1]
   cases put with
   |true=>
    rw[if_pos rfl] at hJ⊢
    rw[C1] at hJ
    exact⟨out,hJ,ai⟩
   |false=>
    rw[if_neg (by simp)] at hJ⊢
    exact⟨out,hJ,ai⟩
 clear ak
 rintro⟨put,o,ci,⟨⟩⟩ h5 ai
 simp only at ai
 have cK:(A2q ltK b7 (id,f,q) L).length=L.length+1:=(A1M ltK b7 _ L).length_eq
 refine V4 (fun z h'=>sat h' (U5 Z8 3 z.1 (A2q ltK b7 (id,f,q) L)::cells r #[.slice s.a s.len s.cap]::U5 Z8 3 s L::R)) ?_ ?_
 ·(try dsimp only);rw[U9]
  cases put with
  |true=>
   rw[if_neg (by simp)]
   rw[if_pos rfl] at ai
   obtain⟨out,rfl,aw⟩:=ai
   exact(aw.re [3,0,1,2]).drop
  |false=>
   rw[if_pos (by simp)]
   rw[if_neg (by simp)] at ai
   obtain⟨out,ho,aw⟩:=ai
   have gm:out.length≤20000:=by
    have:=congrArg List.length ho
    rw[B5,cK] at this
    simp at this
    omega
   refine Y5 (ts:=[.int .i64,.str,.int .i64]) (id,f,q,()) aw.p3 rfl ?_
   refine V5 aw fun y h8 bw=>?_
   (try dsimp only);rw[U1]
   refine A0d (enc:=Z8) (ys:=[(id,f,q)]) A0P A3Y rfl bw.p1 rfl ?_ (by decide) (by decide) (by omega) fun s' h9 ff=>?_
   ·simp only[V6,N5,D8,H9,C1]
    exact bw.reads rfl
   rw[ho] at ff
   exact(ff.re [1,4,0,2,3]).drop.drop
 rintro⟨o',⟨⟩⟩ h6 aw
 simp only at aw
 refine⟨_,rfl,?_⟩
 (try dsimp only);rw[U1,U3]
 refine W7 aw.p1 (by simp) rfl fun h7 aK=>?_
 exact iZ hf iP ef ax (by omega) h7 (A1u.2 ⟨o',(aK.re [2,0,1]).drop⟩)
end
section
open Go.H Go.Proofs
structure X2 where
 c:Int
 aD:Int
 bE:Bool
 aX:MsT
structure Z0 where
 last:Int
 aD:List V7
 aH:List Ent
 kept:List j7
 aB:List X2
structure l4 where
 conn:Int
 pk:PkO
 close:Bool
structure U7 where
 b:Z0
 outs:List l4
 aT:List MsT
structure PkI where
 kind:Int
 dF:Bool
 eM:Int
 id:Int
 bX:B3O
 cR:B3O
 code:Int
 props:List p9
 aC:B3O
 clean:Bool
 bE:Bool
 aX:MsT
 aH:List (B3O×Int×Bool×Bool×Int)
 bH:List B3O
abbrev A0S(k id:Int)(cs:List Int):PkO:=⟨k,false,false,0,id,e0S,e0S,0,[],cs,false⟩
abbrev A1T(s:Bool):PkO:=⟨2,false,false,0,0,e0S,e0S,0,[],[],s⟩
abbrev B30(E:List Ent)(B:Z0):Z0:=⟨B.last,B.aD,E,B.kept,B.aB⟩
abbrev A6f(C:List X2)(B:Z0):Z0:=⟨B.last,B.aD,B.aH,B.kept,C⟩
abbrev tB(B:Z0)(T:U7):U7:=⟨B,T.outs,T.aT⟩
abbrev A0y(A:List V7)(T:U7):U7:=⟨⟨T.b.last,A,T.b.aH,T.b.kept,T.b.aB⟩,T.outs,T.aT⟩
abbrev B9s(K:List j7)(T:U7):U7:=⟨⟨T.b.last,T.b.aD,T.b.aH,K,T.b.aB⟩,T.outs,T.aT⟩
abbrev A09(E:List Ent)(T:U7):U7:=⟨⟨T.b.last,T.b.aD,E,T.b.kept,T.b.aB⟩,T.outs,T.aT⟩
def X9(k:Int)(f:V7→V7)(A:List V7):List V7:=A.map fun s=>if s.id=k then f s else s
def A46(k:Int)(A:List V7):Option V7:=A.find? fun s=>decide (s.id=k)
def ofS(c:B3O)(A:List V7):Option V7:=A.find? fun s=>decide (s.aC=c)
def A1o(c:Int)(l:List X2):Option X2:=l.find? fun x=>decide (x.c=c)
abbrev A0s(o:l4)(t:U7):U7:={t with outs:=t.outs++[o]}
def A1H(l:List X2)(id:Int)(ps:List PkO):List l4:=(l.filter fun x=>decide (x.aD=id)).flatMap fun x=>ps.map fun p=>⟨x.c,p,false⟩
abbrev p6(id:Int)(ps:List PkO)(t:U7):U7:={t with outs:=t.outs++A1H t.b.aB id ps}
abbrev Y6(o:Z5)(s:V7):V7:={s with out:=o}
abbrev j2(p:s6)(s:V7):V7:={s with aZ:=p}
def A0F(id:Int)(f:Z5→Z5×List PkO)(t:U7):U7:=match A46 id t.b.aD with
 |none=>t
 |some s=>p6 id (f s.out).2 (A0y (X9 id (Y6 (f s.out).1) t.b.aD) t)
def A45:Option Int→List Ent→List Int
 |_,[]=>[]
 |p,e::l=>if p=some e.1 then A45 p l else e.1::A45 (some e.1) l
def A2E(l:List Ent)(id:Int):Int:=(l.filter fun e=>decide (e.1=id)).foldl (fun q e=>max q e.2.2) 0
noncomputable def A1g(m:MsT)(l:List Ent)(t:U7)(id:Int):U7:=A0F id (fun o=>(Y3 o (m.1,m.2.1,min m.2.2.1 (A2E l id),false,e0S)).1) t
def A1Q(m:MsT)(t:U7):U7:=if m.2.2.2.1=true then B9s (B0d 64 t.b.kept (m.1,m.2.1,m.2.2.1,())).2 t else t
noncomputable def A0t(m:MsT)(t:U7):U7:=
 (A45 none (t.b.aH.filter fun x=>Y8 x.2.1 m.1)).foldl (A1g m (t.b.aH.filter fun x=>Y8 x.2.1 m.1)) (A1Q m t)
noncomputable def A3f(m:MsT)(t:U7):U7:={A0t m t with aT:=(A0t m t).aT++[m]}
def A8e(s:V7):V7:={s with on:=false,out:={s.out with on:=false}}
def A58(k:Int)(b:Z0):Z0:=match A46 k b.aD with
 |none=>b
 |some s=>if s.on=false then b
  else if s.aN=true then{b with aD:=X9 k A8e b.aD}
  else{b with aD:=b.aD.filter (fun x=>decide (x.id≠k)),aH:=A1h k b.aH}
noncomputable def A3S(full:Bool)(c:Int)(aX:Bool)(t:U7):U7:=match A1o c t.b.aB with
 |none=>t
 |some x=>
  let t1:U7:=tB (A58 x.aD (A6f (t.b.aB.filter fun y=>decide (y.c≠c)) t.b)) t
  if aX=true∧x.bE=true∧full=false then A3f x.aX t1 else t1
noncomputable def A0v(full:Bool)(c code:Int)(t:U7):U7:=A3S full c true (A0s ⟨c,j3 14 0 code,true⟩ t)
instance(c:B3O):Decidable (a8 c):=by unfold a8;infer_instance
def A5p(p:PkI)(b:Z0):Int:=
 if p.bE=true∧Z4 p.aX.1=false then 144
 else if 64≤b.aB.length then 151
 else if ¬a8 p.aC then 133
 else if ofS p.aC b.aD=none∧32≤b.aD.length then 151
 else 0
def A0R(id:Int)(l:List p9):Option p9:=l.find? fun p=>decide (p.1=id)
noncomputable def A2V(full:Bool)(s:V7)(t:U7):U7:=match t.b.aB.find? fun x=>decide (x.aD=s.id) with
 |none=>t
 |some x=>A0v full x.c 142 t
def b9(aC:B3O)(clean aN:Bool)(b:Z0):(Int×Bool)×Z0:=match ofS aC b.aD with
 |some s=>if clean=false then((s.id,true),{b with aD:=X9 s.id (fun s=>{s with on:=true,aN:=aN}) b.aD})
  else((b.last+1,false),{b with last:=b.last+1,aD:=b.aD.filter (fun x=>decide (x.id≠s.id))++[A2w (b.last+1) aC aN]})
 |none=>((b.last+1,false),{b with last:=b.last+1,aD:=b.aD++[A2w (b.last+1) aC aN]})
def A1P(l:List p9):Int:=match A0R 33 l with
 |some p=>p.2.1
 |none=>64
def u4(l:List p9):Bool:=match A0R 17 l with
 |some p=>decide (0<p.2.1)
 |none=>false
noncomputable def C1I(full:Bool)(c:Int)(p:PkI)(t:U7):U7:=
 let old:=ofS p.aC t.b.aD
 let t1:=match old with|some s=>A2V full s t|none=>t
 let r:=b9 p.aC p.clean (u4 p.props) t1.b
 let b2:=match old with|some s=>if s.id≠r.1.1 then B30 (A1h s.id r.2.aH) r.2 else r.2|none=>r.2
 let b3:=A6f (b2.aB++[⟨c,r.1.1,p.bE,(p.aX.1,p.aX.2.1,p.aX.2.2.1,p.aX.2.2.2.1,e0S)⟩]) b2
 A0F r.1.1 (fun o=>A0k o (A1P p.props)) (A0s ⟨c,A1T r.1.2,false⟩ (tB b3 t1))
noncomputable def A1j(full:Bool)(c:Int)(p:PkI)(t:U7):U7:=
 if A5p p t.b≠0 then A0s ⟨c,j3 2 0 (A5p p t.b),true⟩ t else C1I full c p t
def A3w(a:Option (Int×Int))(id:Int):List PkO:=match a with
 |some (k,c)=>[j3 k id c]
 |none=>[]
noncomputable def A5s(full:Bool)(x:X2)(p:PkI)(t:U7):U7:=
 if p.kind=3∧Z4 p.bX=false then A0v full x.c 144 t
 else match A46 x.aD t.b.aD with
  |none=>t
  |some s=>
   let r:=l8 s.aZ p.kind p.eM p.id (if full=true then 151 else 0)
   let t1:U7:=A0y (X9 x.aD (j2 ⟨s.aZ.most,s.aZ.taken,r.2.2.2⟩) t.b.aD) t
   if r.2.2.1≠0 then A0v full x.c r.2.2.1 t1
   else
    let t2:=p6 x.aD (A3w r.2.1 p.id) t1
    if r.1=true∧full=false then A3f (p.bX,p.cR,p.eM,p.dF,e0S) t2 else t2
noncomputable def A2B(full:Bool)(x:X2)(p:PkI)(t:U7):U7:=match A46 x.aD t.b.aD with
 |none=>t
 |some s=>if(A0V s.out p.kind p.id p.code).2≠0 then A0v full x.c (A0V s.out p.kind p.id p.code).2 t
  else A0F x.aD (fun o=>(A0V o p.kind p.id p.code).1) t
def A2J(L:List Ent)(id:Int)(f:B3O)(q:Int):Int×List Ent:=
 if X5 f=false then(143,L)
 else if q<0∨2<q then(155,L)
 else match L.findIdx? (fun x=>decide (b7 x=(id,f))) with
  |some i=>(0,L.set i (id,f,q))
  |none=>if 64≤A08 L id then(151,L) else(0,A2q ltK b7 (id,f,q) L)
abbrev A0A:=B3O×Int×Bool×Bool×Int
def j6(id:Int):List A0A→List Ent→List Ent×List Int
 |[],L=>(L,[])
 |s::l,L=>
  let r:=A2J L id s.1 s.2.1
  let z:=j6 id l r.2
  (z.1,(if r.1=0 then s.2.1 else r.1)::z.2)
def added(id:Int):List A0A→List Ent→List A0A
 |[],_=>[]
 |s::l,L=>(if(A2J L id s.1 s.2.1).1=0 then[s] else[])++added id l (A2J L id s.1 s.2.1).2
noncomputable def A0M(id:Int)(s:A0A)(t:U7)(m:j7):U7:=A0F id (fun o=>(Y3 o (m.1,m.2.1,min m.2.2.1 s.2.1,true,e0S)).1) t
noncomputable def i7(id:Int)(t:U7)(s:A0A):U7:=if s.2.2.2.2=2 then t else(A56 t.b.kept s.1).foldl (A0M id s) t
noncomputable def A0W(x:X2)(p:PkI)(t:U7):U7:=
 (added x.aD p.aH t.b.aH).foldl (i7 x.aD)
  (A0s ⟨x.c,A0S 9 p.id (j6 x.aD p.aH t.b.aH).2,false⟩ (A09 (j6 x.aD p.aH t.b.aH).1 t))
def A0H(id:Int):List B3O→List Ent→List Ent×List Int
 |[],L=>(L,[])
 |f::l,L=>
  let z:=A0H id l (A1L L id f)
  (z.1,(if(A1L L id f).length<L.length then 0 else 17)::z.2)
def A1e(x:X2)(p:PkI)(t:U7):U7:=
 A0s ⟨x.c,A0S 11 p.id (A0H x.aD p.bH t.b.aH).2,false⟩ (A09 (A0H x.aD p.bH t.b.aH).1 t)
noncomputable def A8A(full:Bool)(x:X2)(p:PkI)(t:U7):U7:=
 if p.kind=3∨p.kind=6 then A5s full x p t
 else if p.kind=4∨p.kind=5∨p.kind=7 then A2B full x p t
 else if p.kind=8∧1≤p.id∧p.id≤65535∧p.aH≠[] then A0W x p t
 else if p.kind=10∧1≤p.id∧p.id≤65535∧p.bH≠[] then A1e x p t
 else if p.kind=12 then A0s ⟨x.c,j3 13 0 0,false⟩ t
 else if p.kind=14 then A3S full x.c (decide (p.code=4)) t
 else A0v full x.c 130 t
noncomputable def b8(full:Bool)(c:Int)(p:PkI)(b:Z0):U7:=match A1o c b.aB with
 |some x=>A8A full x p ⟨b,[],[]⟩
 |none=>if p.kind=1 then A1j full c p ⟨b,[],[]⟩ else⟨b,[⟨c,j3 14 0 130,true⟩],[]⟩
noncomputable def A70(full:Bool)(c:Int)(b:Z0):U7:=A3S full c true ⟨b,[],[]⟩
noncomputable def A1i(m:MsT)(b:Z0):U7:=A0t m ⟨b,[],[]⟩
def A1V(b:Z0):Z0:=(b.aB.map (·.c)).foldl (fun b c=>match A1o c b.aB with
 |none=>b
 |some x=>A58 x.aD (A6f (b.aB.filter fun y=>decide (y.c≠c)) b)) b
variable {h h0:Heap} {L L' L1 L2 R:List Asn} {Q:Value→Heap→Prop}
abbrev OuT:=Int×Pk×Bool
abbrev A0K(k:IntKind)(x:OuT):C9P:=.int .i64 x.1::(W8 k x.2.1++[.bool x.2.2])
instance(k:IntKind):Enc (A0K k) 28:=⟨fun _=>rfl,fun x v hv=>by
 have:(A0K k x).all (fun v=>v.oneCell')=true:=rfl
 exact J1.1 this v hv,by decide⟩
abbrev ouF(t:Slc×Slc×l4):OuT:=(t.2.2.conn,pkT t.2.2.pk t.1 t.2.1,t.2.2.close)
def ouB(k:IntKind)(t:Slc×Slc×l4):Asn:=pkB k (t.1,t.2.1,t.2.2.pk)
def V9(k:IntKind)(s:Slc)(os:List l4):Asn:=exA fun T:List (Slc×Slc×l4)=>star (pr (T.map (·.2.2)=os)) (star (U5 (A0K k) 28 s (T.map ouF)) (Z9 (ouB k) T))
theorem A2v{k:IntKind}{s:Slc}{os:List l4}:sat h (V9 k s os::R)↔∃T:List (Slc×Slc×l4),T.map (·.2.2)=os∧sat h (U5 (A0K k) 28 s (T.map ouF)::Z9 (ouB k) T::R):=by
 unfold V9
 rw[sat.bA]
 simp only[sat.aI,sat.bC]
theorem B1q{k:IntKind}(hs:sat h R):sat h (V9 k ⟨none,0,0⟩ []::R):=A2v.2 ⟨[],rfl,Z3 (A2x.2 hs)⟩
theorem C8x{β:Type}{k:IntKind}{s:Slc}{os:List l4}{o:l4}{c p:Slc}{elem:TypeId}{bytes b:Nat}{cs:C9O}{zero:C9O}{f:Slc→HM β}{Q':β→Heap→Prop}{L3:List Asn}
  (hw:∀s',W (V9 k s' (os++[o])::L3) (f s') Q')(hb:(os.length+1)*bytes≤140737488355328)(hx:Has L (V9 k s os) L1:=by repeat first|with_reducible exact V0|apply V2)(hy:Has L1 (pkB k (c,p,o.pk)) L2:=by repeat first|with_reducible exact V0|apply V2)(hc:Has L2 (cells b cs) L3:=by repeat first|with_reducible exact V0|apply V2)
  (he:cs=(A0K k (o.conn,pkT o.pk c p,o.close)).toArray:=by rfl)(hz:zero.size=28:=by rfl)(gQ:0<bytes:=by decide):
  W L (HM.bind (HM.append elem 28 bytes zero s 1 (V6 28 ⟨some ⟨b,0,none⟩,1,1⟩)) f) Q':=fun h hs=>by
 obtain⟨X,rfl,h1⟩:=A2v.1 ((hx.cV hy hc).s hs)
 have hlen:(X.map ouF).length=(X.map (·.2.2)).length:=by simp
 refine A9I (L:=U5 (A0K k) 28 s (X.map ouF)::cells b cs::Z9 (ouB k) X::pkB k (c,p,o.pk)::L3) (xs:=X.map ouF) (enc:=A0K k) ((o.conn,pkT o.pk c p,o.close):OuT) (fun s'=>?_) (by rw[hlen];exact hb) V0 V0 he hz gQ h (h1.re [0,3,1,2])
 intro h' af
 refine hw s' h' (A2v.2 ⟨X++[(c,p,o)],by simp,?_⟩)
 rw[C0]
 exact(A5e.2 (((A3V (f:=ouB k) (x:=(c,p,o))).2 (af.re [2,0,1])).re [2,0,1])).p1
abbrev tC:List Tag:=[.int .i64,.bool,.str,.str,.int .i64,.bool,.str]
abbrev B71(x:X2):Tup tC:=(x.aD,x.bE,x.aX.1,x.aX.2.1,x.aX.2.2.1,x.aX.2.2.2.1,x.aX.2.2.2.2,())
abbrev A0h(x:X2):Int×Tup tC:=(x.c,B71 x)
abbrev eVC:Tup tC→Value:=Kind.val (.agg tC)
def A1v(b:Nat)(K:List j7):Asn:=exA fun l:List (B3O×j7)=>star (pr (Sto 64 l K)) (B6R b 64 l)
def A1t(b:Nat)(last:Int)(A:List V7):Asn:=exA fun L:List (Nat×V7)=>star (pr (L.map (·.2)=A)) (A1I b last L)
theorem z6{b:Nat}{last:Int}{A:List V7}:sat h (A1t b last A::R)↔∃L:List (Nat×V7),L.map (·.2)=A∧sat h (A1I b last L::R):=by
 unfold A1t
 rw[sat.bA]
 simp only[sat.aI,sat.bC]
theorem A3P{b:Nat}{K:List j7}:sat h (A1v b K::R)↔∃l:List (B3O×j7),Sto 64 l K∧sat h (B6R b 64 l::R):=by
 unfold A1v
 rw[sat.bA]
 simp only[sat.aI,sat.bC]
structure C2u where
 tb:Nat
 sb:Nat
 kb:Nat
 cm:Nat
abbrev A8i(p:C2u):C9O:=#[at0 p.tb,at9 p.sb,B1m p.kb,.map (some p.cm)]
def A1c(b:Nat)(B:Z0):Asn:=exA fun p:C2u=>A0Q [cells b (A8i p),A1t p.tb B.last B.aD,o6 p.sb B.aH,A1v p.kb B.kept,mapA eKI eVC p.cm (B.aB.map A0h)]
theorem A2d{b:Nat}{B:Z0}:sat h (A1c b B::R)↔∃p:C2u,sat h (cells b (A8i p)::A1t p.tb B.last B.aD::o6 p.sb B.aH::A1v p.kb B.kept::mapA eKI eVC p.cm (B.aB.map A0h)::R):=by
 unfold A1c
 rw[sat.bA]
 simp only[sat.bV]
 rfl
def thA(t b:Nat)(full:Bool)(os:List l4)(ps:List MsT):Asn:=exA fun x:Slc×Slc=>A0Q [cells t #[at0 b,.bool full,.slice x.1.a x.1.len x.1.cap,.slice x.2.a x.2.len x.2.cap],V9 .u8 x.1 os,U5 Z6 5 x.2 ps]
theorem A2z{t b:Nat}{full:Bool}{os:List l4}{ps:List MsT}:sat h (thA t b full os ps::R)↔∃(so sp:Slc),sat h (cells t #[at0 b,.bool full,.slice so.a so.len so.cap,.slice sp.a sp.len sp.cap]::V9 .u8 so os::U5 Z6 5 sp ps::R):=by
 unfold thA
 rw[sat.bA]
 simp only[sat.bV]
 exact⟨fun⟨x,hh⟩=>⟨x.1,x.2,hh⟩,fun⟨a,b,hh⟩=>⟨(a,b),hh⟩⟩
def X7(t b:Nat)(full:Bool)(T:U7):Asn:=star (thA t b full T.outs T.aT) (A1c b T.b)
theorem A0T{t b:Nat}{full:Bool}{T:U7}:sat h (X7 t b full T::R)↔sat h (thA t b full T.outs T.aT::A1c b T.b::R):=sat.aI
theorem o5{t b:Nat}{full:Bool}{T:U7}(hs:sat h (X7 t b full T::R)):∃(so sp:Slc) (p:C2u),sat h (cells t #[at0 b,.bool full,.slice so.a so.len so.cap,.slice sp.a sp.len sp.cap]::V9 .u8 so T.outs::U5 Z6 5 sp T.aT::
   cells b (A8i p)::A1t p.tb T.b.last T.b.aD::o6 p.sb T.b.aH::A1v p.kb T.b.kept::mapA eKI eVC p.cm (T.b.aB.map A0h)::R):=by
 obtain⟨so,sp,h1⟩:=A2z.1 (A0T.1 hs)
 obtain⟨p,h2⟩:=A2d.1 (h1.re [3,0,1,2])
 exact⟨so,sp,p,h2.re [5,6,7,0,1,2,3,4]⟩
theorem B4H{t b:Nat}{full:Bool}{T:U7}{so sp:Slc}{p:C2u}(hs:sat h (cells t #[at0 b,.bool full,.slice so.a so.len so.cap,.slice sp.a sp.len sp.cap]::V9 .u8 so T.outs::U5 Z6 5 sp T.aT::
   cells b (A8i p)::A1t p.tb T.b.last T.b.aD::o6 p.sb T.b.aH::A1v p.kb T.b.kept::mapA eKI eVC p.cm (T.b.aB.map A0h)::R)):sat h (X7 t b full T::R):=by
 have h1:=A2d.2 ⟨p,hs.re [3,4,5,6,7,0,1,2]⟩
 exact A0T.2 (A2z.2 ⟨so,sp,h1.re [1,2,3,0]⟩)
theorem W.bG{α:Type}{m:HM α}{Q':α→Heap→Prop}{t b:Nat}{full:Bool}{M1 M2 M3 M4 M5 M6 M7 M8:List Asn}(T:U7)(so sp:Slc)(p:C2u)(hw:W (X7 t b full T::M8) m Q')
  (h1:Has L (cells t #[at0 b,.bool full,.slice so.a so.len so.cap,.slice sp.a sp.len sp.cap]) M1:=by repeat first|with_reducible exact V0|apply V2)(h2:Has M1 (V9 .u8 so T.outs) M2:=by repeat first|with_reducible exact V0|apply V2)(h3:Has M2 (U5 Z6 5 sp T.aT) M3:=by repeat first|with_reducible exact V0|apply V2)(h4:Has M3 (cells b (A8i p)) M4:=by repeat first|with_reducible exact V0|apply V2)(h5:Has M4 (A1t p.tb T.b.last T.b.aD) M5:=by repeat first|with_reducible exact V0|apply V2)(h6:Has M5 (o6 p.sb T.b.aH) M6:=by repeat first|with_reducible exact V0|apply V2)(h7:Has M6 (A1v p.kb T.b.kept) M7:=by repeat first|with_reducible exact V0|apply V2)(h8:Has M7 (mapA eKI eVC p.cm (T.b.aB.map A0h)) M8:=by repeat first|with_reducible exact V0|apply V2):W L m Q':=fun h hs=>hw h (B4H ((Sub.cons h1 (Sub.cons h2 (Sub.cons h3 (Sub.cons h4 (Sub.cons h5 (Sub.cons h6 (Sub.cons h7 (Sub.cons h8 Sub.rfl)))))))).s hs))
theorem At.bG{q:Heap→Prop}{t b:Nat}{full:Bool}{M1 M2 M3 M4 M5 M6 M7 M8:List Asn}(T:U7)(so sp:Slc)(p:C2u)(hw:At (X7 t b full T::M8) q)
  (h1:Has L (cells t #[at0 b,.bool full,.slice so.a so.len so.cap,.slice sp.a sp.len sp.cap]) M1:=by repeat first|with_reducible exact V0|apply V2)(h2:Has M1 (V9 .u8 so T.outs) M2:=by repeat first|with_reducible exact V0|apply V2)(h3:Has M2 (U5 Z6 5 sp T.aT) M3:=by repeat first|with_reducible exact V0|apply V2)(h4:Has M3 (cells b (A8i p)) M4:=by repeat first|with_reducible exact V0|apply V2)(h5:Has M4 (A1t p.tb T.b.last T.b.aD) M5:=by repeat first|with_reducible exact V0|apply V2)(h6:Has M5 (o6 p.sb T.b.aH) M6:=by repeat first|with_reducible exact V0|apply V2)(h7:Has M6 (A1v p.kb T.b.kept) M7:=by repeat first|with_reducible exact V0|apply V2)(h8:Has M7 (mapA eKI eVC p.cm (T.b.aB.map A0h)) M8:=by repeat first|with_reducible exact V0|apply V2):At L q:=fun h hs=>hw h (B4H ((Sub.cons h1 (Sub.cons h2 (Sub.cons h3 (Sub.cons h4 (Sub.cons h5 (Sub.cons h6 (Sub.cons h7 (Sub.cons h8 Sub.rfl)))))))).s hs))
theorem C2z{t b:Nat}{full:Bool}{os:List l4}{ps:List MsT}{c:Int}{o:PkO}{ci pi:Slc}(hb:os.length≤100000000)(hq:At (thA t b full (os++[⟨c,o,false⟩]) ps::L2) (Q (.tuple #[])))
  (hx:Has L (thA t b full os ps) L1:=by repeat first|with_reducible exact V0|apply V2)(hy:Has L1 (pkB .u8 (ci,pi,o)) L2:=by repeat first|with_reducible exact V0|apply V2):FW prog 67 #[at0 t,.int .i64 c,A2s .u8 (pkT o ci pi)] L Q:=by
 refine fun h hs=>A7L (some ⟨t,0,none⟩) c (pkT o ci pi) h Q ((?_:W (thA t b full os ps::pkB .u8 (ci,pi,o)::L2) _ _) h ((hx.then hy).s hs))
 clear hs h hx hy
 have dy:(os.length+1)*344≤140737488355328:=by omega
 delta A6U az bn A0N kc nn nw pu rq sx vi vs w10 w11 w12 w13 w14 w15 w16 w17 w18 w19 w20 w21 w22 w23 w24 w25 w5 w6 w7 w8 w9
 refine Y1 fun x1=>?_
 refine W4 ?_
 refine A8Y (fun h R=>A2z.1) fun so sp=>?_
 refine e8 (v:=so) ?_
 refine r7 (v:=pkT o ci pi) ?_
 refine Y1 fun x5=>?_
 refine e8 (v:=so) ?_
 refine A1p ?_ rfl
 refine C8x (k:=.u8) (s:=so) (os:=os) (o:=⟨c,o,false⟩) (c:=ci) (p:=pi) (fun s'=>?_) dy
 refine W4 ?_
 refine A4j (cs':=#[at0 b,.bool full,.slice s'.a s'.len s'.cap,.slice sp.a sp.len sp.cap]) ?_
 refine B19 (A:=thA t b full (os++[⟨c,o,false⟩]) ps) (fun h hs=>A2z.2 ⟨s',sp,hs⟩) ?_
 exact U2 hq.sub
theorem B8n{t b:Nat}{full:Bool}{T:U7}{c:Int}{o:PkO}{ci pi:Slc}(hb:T.outs.length≤100000000)(hq:At (X7 t b full (A0s ⟨c,o,false⟩ T)::L2) (Q (.tuple #[])))
  (hx:Has L (X7 t b full T) L1:=by repeat first|with_reducible exact V0|apply V2)(hy:Has L1 (pkB .u8 (ci,pi,o)) L2:=by repeat first|with_reducible exact V0|apply V2):FW prog 67 #[at0 t,.int .i64 c,A2s .u8 (pkT o ci pi)] L Q:=fun h hs=>by
 have h1:=(hx.then hy).s hs
 exact C2z (L:=thA t b full T.outs T.aT::A1c b T.b::pkB .u8 (ci,pi,o)::L2) hb (fun h' af=>hq h' (A0T.2 af)) V0 (V2 V0) h (A0T.1 h1)
theorem C5V{t b:Nat}{full:Bool}{os:List l4}{ps:List MsT}{c:Int}{o:PkO}{ci pi:Slc}(hb:os.length≤100000000)(hq:At (thA t b full (os++[⟨c,o,true⟩]) ps::L2) (Q (.tuple #[])))
  (hx:Has L (thA t b full os ps) L1:=by repeat first|with_reducible exact V0|apply V2)(hy:Has L1 (pkB .u8 (ci,pi,o)) L2:=by repeat first|with_reducible exact V0|apply V2):FW prog 34 #[at0 t,.int .i64 c,A2s .u8 (pkT o ci pi)] L Q:=by
 refine fun h hs=>A6W (some ⟨t,0,none⟩) c (pkT o ci pi) h Q ((?_:W (thA t b full os ps::pkB .u8 (ci,pi,o)::L2) _ _) h ((hx.then hy).s hs))
 clear hs h hx hy
 have dy:(os.length+1)*344≤140737488355328:=by omega
 delta A5S az bn A0N kc nn nw pu rq sx vi vs w10 w11 w12 w13 w14 w15 w16 w17 w18 w19 w20 w21 w22 w23 w24 w25 w5 w6 w7 w8 w9
 refine Y1 fun x1=>?_
 refine W4 ?_
 refine A8Y (fun h R=>A2z.1) fun so sp=>?_
 refine e8 (v:=so) ?_
 refine r7 (v:=pkT o ci pi) ?_
 refine Y1 fun x5=>?_
 refine e8 (v:=so) ?_
 refine A1p ?_ rfl
 refine C8x (k:=.u8) (s:=so) (os:=os) (o:=⟨c,o,true⟩) (c:=ci) (p:=pi) (fun s'=>?_) dy
 refine W4 ?_
 refine A4j (cs':=#[at0 b,.bool full,.slice s'.a s'.len s'.cap,.slice sp.a sp.len sp.cap]) ?_
 refine B19 (A:=thA t b full (os++[⟨c,o,true⟩]) ps) (fun h hs=>A2z.2 ⟨s',sp,hs⟩) ?_
 exact U2 hq.sub
theorem B9f{t b:Nat}{full:Bool}{T:U7}{c:Int}{o:PkO}{ci pi:Slc}(hb:T.outs.length≤100000000)(hq:At (X7 t b full (A0s ⟨c,o,true⟩ T)::L2) (Q (.tuple #[])))
  (hx:Has L (X7 t b full T) L1:=by repeat first|with_reducible exact V0|apply V2)(hy:Has L1 (pkB .u8 (ci,pi,o)) L2:=by repeat first|with_reducible exact V0|apply V2):FW prog 34 #[at0 t,.int .i64 c,A2s .u8 (pkT o ci pi)] L Q:=fun h hs=>by
 have h1:=(hx.then hy).s hs
 exact C5V (L:=thA t b full T.outs T.aT::A1c b T.b::pkB .u8 (ci,pi,o)::L2) hb (fun h' af=>hq h' (A0T.2 af)) V0 (V2 V0) h (A0T.1 h1)
end
section
open Go.H Go.Proofs
structure j8(B:Z0):Prop where
 aH:B.aH.length≤10000
 bO:∀s∈B.aD,X0 s.out
 live:∀e∈B.aH,∃s∈B.aD,s.id=e.1
 one:∀id:Int,(B.aB.filter fun x=>decide (x.aD=id)).length≤1
 nd:(B.aD.map (·.id)).Nodup
 cl:∀x∈B.aB,∃s∈B.aD,s.id=x.aD
 dS:∀x∈B.aB,∀s∈B.aD,s.id=x.aD→s.on=true
 wl:∀x∈B.aB,x.aX.1.size≤9223372036854775807∧ -9223372036854775808≤x.c∧x.c≤9223372036854775807
theorem C0l{k:Int}{A:List V7}{s:V7}(h:A46 k A=some s):s∈A∧s.id=k:=⟨G7 h,by simpa using N0 h⟩
theorem A3p{k:Int}{A:List V7}{s:V7}(hn:(A.map (·.id)).Nodup)(hs:s∈A)(hk:s.id=k):A46 k A=some s:=by
 unfold A46
 obtain⟨l1,l2,rfl⟩:=H0 hs
 rw[C0,B6,G1] at hn
 rw[P5,R6 (by simpa using hk),E7.2,Option.none_or]
 intro x hx
 have:=hn.2.2 _ (B3 (f:=(·.id)) hx) _ (B4 ..)
 rw[hk] at this
 simpa using this
theorem A6r{k:Int}{f:V7→V7}(hf:∀s,(f s).id=s.id)(A:List V7):(X9 k f A).map (·.id)=A.map (·.id):=by
 unfold X9
 rw[F1]
 refine I0 fun s _=>?_
 simp only[Function.comp]
 split
 ·exact hf s
 ·rfl
theorem A32{k:Int}{f:V7→V7}{A:List V7}{x:V7}(h:x∈X9 k f A):x∈A∨∃s∈A,s.id=k∧x=f s:=by
 unfold X9 at h
 obtain⟨s,hs,rfl⟩:=E4.1 h
 split
 ·exact .inr ⟨s,hs,by assumption,rfl⟩
 ·exact .inl hs
theorem A3b{k:Int}{f:V7→V7}(hf:∀s,(f s).id=s.id){A:List V7}{i:Int}(h:∃s∈A,s.id=i):∃s∈X9 k f A,s.id=i:=by
 obtain⟨s,hs,rfl⟩:=h
 refine⟨if s.id=k then f s else s,B3 hs,?_⟩
 split
 ·exact hf s
 ·rfl
theorem A82{l:List X2}{id:Int}(ps:List PkO)(h:(l.filter fun x=>decide (x.aD=id)).length≤1):(A1H l id ps).length≤ps.length:=by
 unfold A1H
 generalize l.filter (fun x=>decide (x.aD=id))=k at h
 match k,h with
 |[],_=>simp
 |[x],_=>simp
theorem j8.set{B:Z0}(h:j8 B){k:Int}{o:Z5}(ho:X0 o):j8 {B with aD:=X9 k (Y6 o) B.aD} where
 aH:=h.aH
 bO:=fun s hs=>by
  rcases A32 hs with hs|⟨s',_,_,rfl⟩
  ·exact h.bO s hs
  ·exact ho
 live:=fun e he=>A3b (f:=Y6 o) (fun _=>rfl) (h.live e he)
 one:=h.one
 nd:=by
  show((X9 k (Y6 o) B.aD).map (·.id)).Nodup
  rw[A6r (f:=Y6 o) fun _=>rfl];exact h.nd
 cl:=fun x hx=>A3b (f:=Y6 o) (fun _=>rfl) (h.cl x hx)
 dS:=fun x hx s hs e=>by
  rcases A32 hs with hs|⟨s',af,_,rfl⟩
  ·exact h.dS x hx s hs e
  ·exact h.dS x hx s' af e
 wl:=h.wl
theorem j8.fF{B:Z0}(h:j8 B){k:Int}{i:s6}:j8 {B with aD:=X9 k (j2 i) B.aD} where
 aH:=h.aH
 bO:=fun s hs=>by
  rcases A32 hs with hs|⟨s',af,_,rfl⟩
  ·exact h.bO s hs
  ·exact h.bO s' af
 live:=fun e he=>A3b (f:=j2 i) (fun _=>rfl) (h.live e he)
 one:=h.one
 nd:=by
  show((X9 k (j2 i) B.aD).map (·.id)).Nodup
  rw[A6r (f:=j2 i) fun _=>rfl];exact h.nd
 cl:=fun x hx=>A3b (f:=j2 i) (fun _=>rfl) (h.cl x hx)
 dS:=fun x hx s hs e=>by
  rcases A32 hs with hs|⟨s',af,_,rfl⟩
  ·exact h.dS x hx s hs e
  ·exact h.dS x hx s' af e
 wl:=h.wl
theorem j8.aN{B:Z0}(h:j8 B)(K:List j7):j8 {B with kept:=K}:=⟨h.aH,h.bO,h.live,h.one,h.nd,h.cl,h.dS,h.wl⟩
structure A0B(T T':U7)(n:Nat):Prop where
 ok:j8 T'.b
 outs:T'.outs.length≤T.outs.length+n
 aT:T'.aT.length≤T.aT.length+n
 aH:T'.b.aH=T.b.aH
 aB:T'.b.aB=T.b.aB
 last:T'.b.last=T.b.last
theorem A0B.trans{T T' T'':U7}{n n':Nat}(h:A0B T T' n)(h':A0B T' T'' n'):A0B T T'' (n+n'):=⟨h'.ok,by have:=h.outs;have:=h'.outs;omega,by have:=h.aT;have:=h'.aT;omega,h'.aH.trans h.aH,h'.aB.trans h.aB,h'.last.trans h.last⟩
theorem A0B.mono{T T':U7}{n n':Nat}(h:A0B T T' n)(hn:n≤n'):A0B T T' n':=⟨h.ok,by have:=h.outs;omega,by have:=h.aT;omega,h.aH,h.aB,h.last⟩
theorem A0B.refl{T:U7}(h:j8 T.b):A0B T T 0:=⟨h,D9 _,D9 _,rfl,rfl,rfl⟩
theorem B5n{id:Int}{f:Z5→Z5×List PkO}{T:U7}(h:j8 T.b)(hf:∀o,X0 o→X0 (f o).1∧(f o).2.length≤320):A0B T (A0F id f T) 320:=by
 unfold A0F
 cases hg:A46 id T.b.aD with
 |none=>exact(A0B.refl h).mono (by decide)
 |some s=>
  have di:=hf _ (h.bO s (C0l hg).1)
  refine⟨h.set di.1,?_,K8 _ _,rfl,rfl,rfl⟩
  show(T.outs++A1H T.b.aB id (f s.out).2).length≤_
  rw[B5]
  have:=A82 (f s.out).2 (h.one id)
  omega
theorem B8U{α:Type}{g:U7→α→U7}{n:Nat}(hg:∀T x,j8 T.b→A0B T (g T x) n):∀(l:List α) {T:U7},j8 T.b→A0B T (l.foldl g T) (l.length*n)
 |[],T,h=>(A0B.refl h).mono (by simp)
 |x::l,T,h=>((hg T x h).trans (B8U hg l (hg T x h).ok)).mono (by rw[B8,J6];omega)
def B8I(l:List Ent):Int:=l.foldl (fun q e=>max q e.2.2) 0
theorem B5K:∀(p:Option Int) (l:List Ent),(A45 p l).length≤l.length
 |_,[]=>D9 _
 |p,e::l=>by
  unfold A45
  split
  ·exact Nat.le_succ_of_le (B5K p l)
  ·exact Nat.succ_le_succ (B5K _ l)
theorem B7O{i:Int}:∀{tk rs:List Ent},(∀y∈tk,y.1=i)→(∀y∈rs.head?,y.1≠i)→A45 (some i) (tk++rs)=A45 none rs
 |[],[],_,_=>rfl
 |[],y::rs,_,h=>by
  have:=h y (by simp)
  simp only[F2,A45,F4,reduceCtorEq,if_false]
  rw[if_neg (fun e=>this e.symm)]
 |y::tk,rs,h1,h2=>by
  have:=h1 y (B4 ..)
  rw[G5,A45,if_pos (by rw[this])]
  exact B7O (fun z hz=>h1 z (C3 _ hz)) h2
theorem C1M{i:Int}{e:Ent}{rest tk rs:List Ent}(he:e.1=i)(hz:tk++rs=e::rest)(h1:∀y∈tk,y.1=i)(h2:∀y∈rs.head?,y.1≠i):A45 none (e::rest)=i::A45 none rs:=by
 rw[A45,if_neg (by simp),he]
 congr 1
 cases tk with
 |nil=>
  rw[F2] at hz
  subst hz
  exact absurd he (h2 e (by simp))
 |cons y tk=>
  rw[G5] at hz
  cases hz
  exact B7O (fun z hz=>h1 z (C3 _ hz)) h2
theorem C3J{i:Int}{done tk rs:List Ent}(h0:∀y∈done,y.1≠i)(h1:∀y∈tk,y.1=i)(h2:∀y∈rs,y.1≠i):A2E (done++(tk++rs)) i=B8I tk:=by
 unfold A2E B8I
 rw[F3,F3,J4.2 (fun y hy=>by simpa using h0 y hy),G9.2 (fun y hy=>by simpa using h1 y hy),J4.2 (fun y hy=>by simpa using h2 y hy),C1,F2]
theorem C8o{L:List Ent}(h:Asc L):L.Pairwise fun a b=>a.1≤b.1:=h.imp fun{a b} dv=>by
 rcases dv with h|⟨h,_⟩
 ·exact Int.le_of_lt h
 ·exact Int.le_of_eq h
theorem B5D{m:MsT}{T:U7}(h:j8 T.b):A0B T (A1Q m T) 0:=by
 unfold A1Q
 split
 ·exact⟨h.aN _,D9 _,D9 _,rfl,rfl,rfl⟩
 ·exact A0B.refl h
theorem B0y{m:MsT}{l:List Ent}(T:U7)(id:Int)(h:j8 T.b):A0B T (A1g m l T id) 320:=B5n h fun o ho=>⟨(A33 ho _).1,by have:=(A33 ho (m.1,m.2.1,min m.2.2.1 (A2E l id),false,e0S)).2;omega⟩
theorem B5L{m:MsT}{T:U7}(h:j8 T.b):A0B T (A0t m T) 3200000:=by
 have h1:=B5D (m:=m) h
 have h2:=B8U (B0y (m:=m) (l:=T.b.aH.filter fun x=>Y8 x.2.1 m.1)) (A45 none (T.b.aH.filter fun x=>Y8 x.2.1 m.1)) h1.ok
 refine(h1.trans h2).mono ?_
 have a:=B5K none (T.b.aH.filter fun x=>Y8 x.2.1 m.1)
 have b:=D4 (fun x=>Y8 x.2.1 m.1) T.b.aH
 have c:=h.aH
 omega
theorem C1s{id:Int}{f:Z5→Z5×List PkO}{T:U7}:(A0F id f T).aT=T.aT:=by
 unfold A0F;split<;>rfl
theorem B7R{α:Type}{g:U7→α→U7}(hg:∀T x,(g T x).aT=T.aT):∀(l:List α) {T:U7},(l.foldl g T).aT=T.aT
 |[],_=>rfl
 |x::l,T=>(B7R hg l).trans (hg T x)
theorem A7w{m:MsT}{T:U7}:(A0t m T).aT=T.aT:=by
 unfold A0t
 rw[B7R (g:=A1g m (T.b.aH.filter fun x=>Y8 x.2.1 m.1)) fun T x=>C1s]
 unfold A1Q;split<;>rfl
theorem A8w{m:MsT}{T:U7}(h:j8 T.b):A0B T (A3f m T) 3200000:=let r:=B5L (m:=m) h;⟨r.ok,r.outs,by
 show((A0t m T).aT++[m]).length≤_
 rw[B5,A7w];simp only[B8,H2];omega,r.aH,r.aB,r.last⟩
theorem A1x{c:Int}{l:List X2}{x:X2}(h:A1o c l=some x):x∈l∧x.c=c:=⟨G7 h,by simpa using N0 h⟩
def A4F(k:Int)(A:List V7):Bool×List V7:=match A46 k A with
 |none=>(false,A)
 |some s=>if s.on=false then(false,A) else if s.aN=true then(false,X9 k A8e A) else(true,A.filter fun x=>decide (x.id≠k))
theorem B4B{k:Int}{B:Z0}:A58 k B=⟨B.last,(A4F k B.aD).2,if(A4F k B.aD).1=true then A1h k B.aH else B.aH,B.kept,B.aB⟩:=by
 unfold A58 A4F
 cases A46 k B.aD with
 |none=>rfl
 |some s=>
  simp only
  by_cases h1:s.on=false
  ·simp[h1]
  ·by_cases h2:s.aN=true
   ·simp[h1,h2]
   ·simp[h1,h2]
theorem j8.conn{B:Z0}(h:j8 B)(p:X2→Bool):j8 (A6f (B.aB.filter p) B) where
 aH:=h.aH
 bO:=h.bO
 live:=h.live
 one:=fun id=>by
  refine C4 ?_ (h.one id)
  exact(List.Sublist.filter _ I2).length_le
 nd:=h.nd
 cl:=fun x hx=>h.cl x (D5.1 hx).1
 dS:=fun x hx=>h.dS x (D5.1 hx).1
 wl:=fun x hx=>h.wl x (D5.1 hx).1
theorem j8.other{B:Z0}(h:j8 B){x y:X2}(hx:x∈B.aB)(hy:y∈B.aB)(cg:y.c≠x.c):y.aD≠x.aD:=fun e=>by
 have h1:=h.one x.aD
 have m1:x∈B.aB.filter (fun z=>decide (z.aD=x.aD)):=D5.2 ⟨hx,by simp⟩
 have m2:y∈B.aB.filter (fun z=>decide (z.aD=x.aD)):=D5.2 ⟨hy,by simp[e]⟩
 generalize B.aB.filter (fun z=>decide (z.aD=x.aD))=k at h1 m1 m2
 match k,h1 with
 |[],_=>cases m1
 |[z],_=>
  rw[B7.1 m1,B7.1 m2] at cg
  exact cg rfl
theorem B81{k:Int}{B:Z0}(h:j8 B)(hc:∀y∈B.aB,y.aD≠k):j8 (A58 k B)∧(A58 k B).aB=B.aB∧(A58 k B).last=B.last∧(A58 k B).kept=B.kept:=by
 unfold A58
 split
 ·exact⟨h,rfl,rfl,rfl⟩
 ·rename_i s hg
  split
  ·exact⟨h,rfl,rfl,rfl⟩
  ·split
   ·refine⟨⟨h.aH,fun x hx=>?_,fun e he=>A3b (f:=A8e) (fun _=>rfl) (h.live e he),h.one,?_,fun x hx=>A3b (f:=A8e) (fun _=>rfl) (h.cl x hx),fun x hx s hs e=>?_,h.wl⟩,rfl,rfl,rfl⟩
    ·rcases A32 hx with hx|⟨y,hy,_,rfl⟩
     ·exact h.bO x hx
     ·exact(h.bO y hy).off false
    ·show((X9 k A8e B.aD).map (·.id)).Nodup
     rw[A6r (f:=A8e) fun _=>rfl];exact h.nd
    ·rcases A32 hs with hs|⟨s',af,hk,rfl⟩
     ·exact h.dS x hx s hs e
     ·exact absurd (e.symm.trans hk) (hc x hx)
   ·refine⟨⟨C4 (D4 _ _) h.aH,fun x hx=>h.bO x (D5.1 hx).1,fun e he=>?_,h.one,?_,fun x hx=>?_,fun x hx s hs=>h.dS x hx s (D5.1 hs).1,h.wl⟩,rfl,rfl,rfl⟩
    ·obtain⟨dj,db⟩:=D5.1 he
     obtain⟨y,hy,pF⟩:=h.live e dj
     refine⟨y,D5.2 ⟨hy,?_⟩,pF⟩
     rw[pF]
     simpa using db
    ·exact h.nd.sublist (List.Sublist.map _ I2)
    ·obtain⟨y,hy,pF⟩:=h.cl x hx
     refine⟨y,D5.2 ⟨hy,?_⟩,pF⟩
     rw[pF]
     simpa using hc x hx
theorem j8.gone{B:Z0}(h:j8 B){c:Int}{x:X2}(hg:A1o c B.aB=some x):∀y∈B.aB.filter (fun y=>decide (y.c≠c)),y.aD≠x.aD:=fun y hy=>by
 obtain⟨h1,h2⟩:=D5.1 hy
 obtain⟨h3,h4⟩:=A1x hg
 exact h.other h3 h1 (by rw[h4];simpa using h2)
theorem B83{full:Bool}{c:Int}{w:Bool}{T:U7}(h:j8 T.b):j8 (A3S full c w T).b∧(A3S full c w T).outs.length≤T.outs.length+3200000∧(A3S full c w T).aT.length≤T.aT.length+3200000∧(A3S full c w T).b.aB=T.b.aB.filter (fun y=>decide (y.c≠c))∧(A3S full c w T).b.last=T.b.last:=by
 unfold A3S
 cases hg:A1o c T.b.aB with
 |none=>
  have hf:T.b.aB.filter (fun y=>decide (y.c≠c))=T.b.aB:=G9.2 fun y hy=>by
   have:=E7.1 hg y hy
   simpa using this
  exact⟨h,K8 _ _,K8 _ _,hf.symm,rfl⟩
 |some x=>
  have h1:=B81 (k:=x.aD) (h.conn fun y=>decide (y.c≠c)) (h.gone hg)
  simp only
  split
  ·have h2:=A8w (m:=x.aX) (T:=tB (A58 x.aD (A6f (T.b.aB.filter fun y=>decide (y.c≠c)) T.b)) T) h1.1
   exact⟨h2.ok,h2.outs,h2.aT,h2.aB.trans h1.2.1,h2.last.trans h1.2.2.1⟩
  ·exact⟨h1.1,K8 _ _,K8 _ _,h1.2.1,h1.2.2.1⟩
theorem B0i{full:Bool}{c code:Int}{T:U7}(h:j8 T.b):j8 (A0v full c code T).b∧(A0v full c code T).outs.length≤T.outs.length+3200001∧(A0v full c code T).aT.length≤T.aT.length+3200001∧(A0v full c code T).b.aB=T.b.aB.filter (fun y=>decide (y.c≠c))∧(A0v full c code T).b.last=T.b.last:=by
 have h1:=B83 (full:=full) (c:=c) (w:=true) (T:=A0s ⟨c,j3 14 0 code,true⟩ T) h
 refine⟨h1.1,?_,?_,h1.2.2.2.1,h1.2.2.2.2⟩
 ·refine C4 h1.2.1 ?_
  have e:(A0s ⟨c,j3 14 0 code,true⟩ T).outs.length=T.outs.length+1:=by rw[B5];rfl
  omega
 ·have e:(A0s ⟨c,j3 14 0 code,true⟩ T).aT.length=T.aT.length:=rfl
  have:=h1.2.2.1
  unfold A0v
  omega
open Go.H Go.Proofs Go.Shelf
def A9b:Go.Shelf.Ren:=⟨fun n=>match n with|7=>78|10=>124|n=>n,fun n=>match n with|23=>170|26=>3|3=>198|28=>123|0=>0|27=>122|33=>196|4=>4|n=>n,fun n=>n⟩
theorem C7n:SlLaysZI.n7 prog A9b where
 mixed:=by kernel_rfl
 f7:=⟨f78.name,by kernel_rfl,func78.trans (congrArg some (by kernel_rfl))⟩
 f10:=⟨f124.name,by kernel_rfl,func124.trans (congrArg some (by kernel_rfl))⟩
 t0:=underlying0
 a0:=isAgg0
 z0:=sizeOf0
 v0:=zeroValue0
 t4:=underlying4
 a4:=isAgg4
 z4:=sizeOf4
 v4:=zeroValue4
 t23:=underlying170
 a23:=isAgg170
 z23:=sizeOf170
 v23:=zeroValue170
 t26:=underlying3
 a26:=isAgg3
 z26:=sizeOf3
 v26:=zeroValue3
 t27:=underlying122
 a27:=isAgg122
 z27:=sizeOf122
 v27:=zeroValue122
 t28:=underlying123
 a28:=isAgg123
 z28:=sizeOf123
 v28:=zeroValue123
 t33:=underlying196
 a33:=isAgg196
 z33:=sizeOf196
 v33:=zeroValue196
abbrev InT:=Int×B3O×Bool×Bool
abbrev C12(x:InT):C9P:=[.int .i64 x.1,.string x.2.1,.bool x.2.2.1,.bool x.2.2.2]
def A00(s:V7):InT:=(s.id,s.aC,s.aN,s.on)
theorem B1x{α β:Type}(f:α→β){l:List α}(hn:(l.map f).Nodup):l.Nodup:=
 List.Pairwise.of_map f (fun a b cg dv=>cg (congrArg f dv)) hn
def C9l(xs ys:List InT):Prop:=∀x∈xs,x∈ys
theorem C5N(x:InT):(C12 x).length=4:=rfl
theorem C23(x:InT):∀v∈C12 x,v.oneCell'=true:=by
 intro v hv;simp at hv;rcases hv with rfl|rfl|rfl|rfl<;>rfl
theorem B8A{α β:Type}{f:α→β}{l1 l2:List α}(hm:(l1.map f).Perm (l2.map f))(hn:(l2.map f).Nodup)(hs:∀x∈l1,x∈l2):l1.Perm l2:=by
 have gW:(l1.map f).Nodup:=hm.nodup_iff.2 hn
 refine(List.perm_ext_iff_of_nodup (B1x f gW) (B1x f hn)).2 fun y=>⟨hs y,fun hy=>?_⟩
 obtain⟨x,hx,he⟩:=E4.1 (hm.mem_iff.2 (B3 hy))
 have iC:=hs x hx
 have:x=y:=by
  obtain⟨a,b,rfl⟩:=H0 hy
  rw[C0,B6,G1] at hn
  rcases C9.1 iC with h|h
  ·exact absurd he (hn.2.2 _ (B3 h) _ (B4 ..))
  ·rcases D3.1 h with h|h
   ·exact h
   ·have h3:=(F8.1 hn.2.1).1
    rw[←he] at h3
    exact absurd (B3 h) h3
 exact this▸hx
theorem C4y{h:Heap}{R:List Asn}{b:Nat}{last:Int}{L:List (Nat×V7)}(hs:sat h (A1I b last L::R))(fa:last<4611686018427387904)(hid:∀p∈L,0≤p.2.id∧p.2.id≤last)(hlen:L.length≤32){Q:Value→Heap→Prop}
  (hq:∀(sl:Slc) (xs:List InT) h',xs.map (·.1)=Z2 (L.map (·.2.id))→xs.Perm (L.map fun p=>A00 p.2)→sat h' (U5 C12 4 sl xs::A1I b last L::R)→Q (.slice sl.a sl.len sl.cap) h'):
  V3 prog 42 #[at0 b] h Q:=by
 refine A5Y _ h Q ?_
 obtain⟨m,hs⟩:=r6.1 hs
 have c1:W0 h ⟨b,1,none⟩=some (.map (some m)):=hs.cell 1
 have tO:(L.map (·.2.id)).Nodup:=by
  have:=hs.p1.bP
  rw[F1] at this
  exact this
 delta A4S az bn cc g9 ie ix km li nn nw pu vi wi
 simp[c1]
 refine B0u (ρk:=A9b) C7n (some m) ?_
 simp only[C4G]
 have ae:=(hs.bK (T:=A9b.t 23) (cs:=#[.map (some m)]))
 refine A65 (ρk:=A9b) (ρs:=A5u) (ρt:=A66) C7n B8i C1a rfl (enters_of func76 (by kernel_rfl) rfl) (enters_of func124 (by kernel_rfl) rfl) ae.p2
  (fun p hp=>?_) ?_ (ae.cell 0) fun sl h' aj=>?_
 ·obtain⟨q,eh,rfl⟩:=E4.1 hp
  have:=hid q eh
  simp[Lit.wf,IntKind.min,IntKind.max,IntKind.bits,IntKind.signed,o9]
  omega
 ·simp;omega
 ·have e0:(L.map o9).map (·.1)=L.map (·.2.id):=by rw[F1];rfl
  rw[e0] at aj
  simp only[C00]
  have ak:=(aj.re [2,0,1]).drop
  clear ae aj
  have iq:(Z2 (L.map (·.2.id))).length=L.length:=by simp[Z2,O9]
  have cW:=ak.aW
  rw[iq] at cW
  refine l9 (γ:=Nat×List InT) (hb:=fun s=>by
   repeat' with_reducible first
    |refine @A0r _ _ _ _ ?_ (fun _=>?_)
    |refine @A0Z _ _ _ _ ?_ ?_
   all_goals infer_instance)
   (fun g c aR=>c.2.1=(g.1:Int)∧g.1≤L.length∧g.2.map (·.1)=(Z2 (L.map (·.2.id))).take g.1∧C9l g.2 (L.map fun p=>A00 p.2)∧
    sat aR (U5 C12 4 c.1 g.2::U5 eI 1 sl (Z2 (L.map (·.2.id)))::mapA eKI eVP m (L.map o9)::cells b #[.int .i64 last,.map (some m)]::Z9 (fun p=>A3G p.1 p.2) L::R))
   (fun g=>L.length-g.1) (0,[]) ⟨rfl,D1 _,rfl,fun x hx=>(by simp at hx),Z3 ak⟩ ?_
  rintro⟨i,xs⟩ ⟨out,c,⟨⟩⟩ h1 ⟨hc,hi,fe,iC,ai⟩
  simp only at hc hi fe iC ai
  subst hc
  have next:IntKind.wrap .i64 ((i:Int)+1)=((i+1:Nat):Int):=by rw[V8 (by omega) (by omega)];rfl
  simp
  by_cases ah:i<L.length
  ·rw[if_pos (by omega)]
   have bf:i<(Z2 (L.map (·.2.id))).length:=by omega
   refine X8 (ai.p1.aO (by intro x;rfl)) (B0 bf) fun a ha=>?_
   generalize hk:(Z2 (L.map (·.2.id)))[i]=k at ha
   have e1:W0 h1 a=some (.int .i64 k):=by simpa[Go.H.add_zero] using ha 0 _ rfl
   have d1:W0 h1 ⟨b,1,none⟩=some (.map (some m)):=by rw[(ai.re [3,0,1,2]).cell];rfl
   have rK:k∈L.map (·.2.id):=by
    have:=H3 bf
    rw[hk] at this
    exact(R0 _ _).mem_iff.1 this
   obtain⟨p,hp,dA⟩:=E4.1 rK
   simp[e1,d1]
   refine u7 kI (kind:=.one .ptr) (z:=none) rfl (ai.re [2,0,1]) ?_
   have hg:W3 (L.map o9) k=some (some ⟨p.1,0,none⟩):=by
    obtain⟨l1,l2,rfl⟩:=H0 hp
    cases vo:W3 ((l1++p::l2).map o9) k with
    |none=>
     have:=(A1n _ _).1 vo
     exact absurd (by rw[F1];exact rK) this
    |some v=>
     obtain⟨q,eh,e⟩:=E4.1 (A38 vo)
     have e2:q.2.id=k:=congrArg Prod.fst e
     have e3:some ⟨q.1,0,none⟩=v:=congrArg Prod.snd e
     have wS:o9 q=o9 p:=by
      have au:=(ai.re [2,0,1]).bP
      have hA:o9 q∈(l1++p::l2).map o9:=B3 eh
      have hB:o9 p∈(l1++p::l2).map o9:=B3 hp
      obtain⟨u1,u2,hu⟩:=H0 hB
      rw[hu] at hA au
      rw[C0,B6,G1] at au
      have fY:(o9 q).1=(o9 p).1:=e2.trans dA.symm
      rcases C9.1 hA with h|h
      ·exact absurd fY (au.2.2 _ (B3 h) _ (B4 ..))
      ·rcases D3.1 h with h|h
       ·exact h
       ·have h3:=(F8.1 au.2.1).1
        rw[←fY] at h3
        exact absurd (B3 h) h3
     have:=congrArg Prod.snd wS
     rw[←e3]
     exact congrArg some this
   rw[hg]
   simp
   obtain⟨R',aw⟩:=A8U hp (ai.re [4,0,1,2,3])
   obtain⟨ob,ib,aK⟩:=A1J.1 aw
   refine A0n (ts:=[.int .i64,.str,.bool,.bool]) (p.2.id,p.2.aC,p.2.aN,p.2.on,()) (fun j v hv=>?_) ?_
   ·rw[U3,aK.cell]
    match j,hv with
    |0,hv=>exact hv
    |1,hv=>exact hv
    |2,hv=>exact hv
    |3,hv=>exact hv
    |j+4,hv=>cases(show(none:Option Value)=some v from hv)
   ·try simp only[U1]
    refine A06 (x:=A00 p.2) C5N C23 rfl ai (by decide) (by decide) ?_ fun fj h2 bw=>?_
    ·have:xs.length=i:=by
      have:=congrArg List.length fe
      simp at this
      omega
     omega
    ·refine .mk (i+1,xs++[A00 p.2]) (by simp only[];omega) ⟨next,by simp only[];omega,?_,fun x hx=>?_,bw⟩
     ·simp only[C0,B6,I4,fe]
      rw[C7 bf,hk,←dA]
      rfl
     ·rcases C9.1 hx with h|h
      ·exact iC x h
      ·rw[B7.1 h]
       exact B3 hp
  ·rw[if_neg (by omega)]
   rw[D6 (by omega)] at fe
   refine hq out xs h1 fe (B8A (f:=(·.1)) ?_ ?_ iC) ?_
   ·rw[fe,F1]
    exact R0 _ _
   ·rw[F1]
    exact tO
   ·exact((r6.2 ⟨m,ai.re [3,2,4,0,1]⟩).re [2,1,0]).drop
theorem C5x{h:Heap}{R:List Asn}(hs:sat h R){Q:Value→Heap→Prop}(hq:∀h',sat h' R→Q (.tuple #[.agg #[.int .i64 0,.string (ByteArray.mk #[]),.bool false,.bool false],.bool false]) h'):V3 prog 97 #[.pointer none] h Q:=by
 refine A4R none h Q ?_
 delta A69 az g9 ie nn nw pu sn ve vi
 refine V5 hs fun b h1 aa=>?_
 simp only[U9,Option.isNone_none,if_true]
 refine l5 aa rfl rfl fun h2 ae=>?_
 refine Y5 (ts:=[.int .i64,.str,.bool,.bool]) (0,ByteArray.mk #[],false,false,()) ae rfl ?_
 exact hq h2 ae.drop
variable {h:Heap} {R:List Asn}
theorem C1W{α β:Type}{f:α→β}{xs ys:List α}(hp:xs.Perm ys)(hn:(ys.map f).Nodup)(he:xs.map f=ys.map f):xs=ys:=by
 refine List.ext_getElem hp.length_eq fun i h1 h2=>?_
 have hm:xs[i]∈ys:=hp.mem_iff.1 (H3 h1)
 have hk:f xs[i]=f ys[i]:=by
  have:=List.getElem_of_eq he (i:=i) (by simpa using h1)
  simpa using this
 obtain⟨j,hj,oM⟩:=List.getElem_of_mem hm
 have kY:j=i:=by
  refine(List.getElem_inj (xs:=ys.map f) (i:=j) (j:=i) (h₀:=by simpa using hj) (h₁:=by simpa using h2) hn).1 ?_
  simp only[List.getElem_map]
  rw[oM,hk]
 subst kY
 exact oM.symm
theorem B8j{l:List Int}(hr:l.Pairwise (·< ·)):Z2 l=l:=
 List.mergeSort_of_pairwise (hr.imp fun{a b} dv=>by simpa using(show a≤b by omega))
theorem B8s{l:List Int}(hr:l.Pairwise (·< ·)):l.Nodup:=hr.imp fun{a b} dv=>by omega
theorem C6P{L:List (Nat×V7)}{xs:List InT}(hr:(L.map (·.2.id)).Pairwise (·< ·))(h1:xs.map (·.1)=Z2 (L.map (·.2.id)))(h2:xs.Perm (L.map fun p=>A00 p.2)):xs=L.map fun p=>A00 p.2:=by
 have e:(L.map fun p=>A00 p.2).map (·.1)=L.map (·.2.id):=by rw[F1];rfl
 refine C1W h2 (f:=(·.1)) ?_ ?_
 ·rw[e];exact B8s hr
 ·rw[e,h1,B8j hr]
def A4b:Option InT→(Int×B3O×Bool×Bool×Unit)×Bool×Unit
 |some x=>((x.1,x.2.1,x.2.2.1,x.2.2.2,()),true,())
 |none=>((0,ByteArray.mk #[],false,false,()),false,())
abbrev B7M(o:Option InT):Value:=.tuple (q9.cC [.agg [.int .i64,.str,.bool,.bool],.one .bool] (A4b o)).toArray
theorem C3Y{b:Nat}{s:V7}{ob ib:Nat}(hs:sat h (cells b (B8m s ob ib)::R)){Q:Value→Heap→Prop}(hq:∀h',sat h' (cells b (B8m s ob ib)::R)→Q (B7M (some (A00 s))) h'):
  V3 prog 97 #[at0 b] h Q:=by
 refine A4R (some ⟨b,0,none⟩) h Q ?_
 delta A69 az g9 ie nn nw pu sn ve vi
 refine V5 hs fun x1 h1 aa=>?_
 (try dsimp only);rw[U9,if_neg (by simp)]
 refine⟨_,rfl,?_⟩
 refine A0n (ts:=[.int .i64,.str,.bool,.bool]) (s.id,s.aC,s.aN,s.on,()) (fun j v hv=>?_) ?_
 ·rw[U3,U3,(aa.p1).cell]
  match j,hv with
  |0,hv=>exact hv
  |1,hv=>exact hv
  |2,hv=>exact hv
  |3,hv=>exact hv
  |j+4,hv=>cases(show(none:Option Value)=some v from hv)
 refine l5 aa rfl rfl fun h2 ae=>?_
 refine Y5 (ts:=[.int .i64,.str,.bool,.bool]) (s.id,s.aC,s.aN,s.on,()) ae rfl ?_
 exact hq h2 ae.drop
theorem C6T{b:Nat}{last:Int}{L:List (Nat×V7)}{p:Nat×V7}(hp:p∈L)(hs:sat h (A1I b last L::R)){Q:Value→Heap→Prop}(hq:∀h',sat h' (A1I b last L::R)→Q (B7M (some (A00 p.2))) h'):
  V3 prog 97 #[at0 p.1] h Q:=by
 obtain⟨l1,l2,rfl⟩:=H0 hp
 obtain⟨m,ob,ib,aa⟩:=B9q hs
 refine C3Y (s:=p.2) (aa.re [2,0,1]) fun h' ae=>hq h' ?_
 exact B9p (o:=p.2.out) (ae.re [1,2,0])
theorem C4A{b:Nat}{last:Int}{L:List (Nat×V7)}{c:B3O}(hs:sat h (A1I b last L::R)){Q:Value→Heap→Prop}
  (ax:(∀p∈L,p.2.aC≠c)→∀h',sat h' (A1I b last L::R)→Q (B7M none) h')(dc:∀p∈L,p.2.aC=c→∀h',sat h' (A1I b last L::R)→Q (B7M (some (A00 p.2))) h'):
  V3 prog 55 #[at0 b,.string c] h Q:=by
 refine A5Z _ c h Q ?_
 delta A4T az bn cp g9 nw pu sn
 refine V5 hs fun x1 h1 aa=>?_
 have fin:∀{o:Option InT} {h':Heap},(∀h',sat h' (A1I b last L::R)→Q (B7M o) h')→sat h' (A1I b last L::cells x1 #[.int .i64 0,.string (ByteArray.mk #[]),.bool false,.bool false]::R)→
   (HM.bind (α:=Unit) (A94 ⟨x1,0,none⟩ [.int .i64 (A4b o).1.1,.string (A4b o).1.2.1,.bool (A4b o).1.2.2.1,.bool (A4b o).1.2.2.2.1]) fun(_:Unit)=>
    HM.bind (α:=Int×B3O×Bool×Bool×Unit) (o3 [.int .i64,.str,.bool,.bool] ⟨x1,0,none⟩) fun(x4:Int×B3O×Bool×Bool×Unit)=>
    W9 ((x4.1,x4.2.1,x4.2.2.1,x4.2.2.2.1,()),(A4b o).2.1,())) h' fun x h'=>Q (.tuple #[.agg #[.int .i64 x.1.1,.string x.1.2.1,.bool x.1.2.2.1,.bool x.1.2.2.2.1],.bool x.2.1]) h':=fun eh af=>by
  refine l5 af.p1 rfl rfl fun h3 aj=>?_
  refine Y5 (ts:=[.int .i64,.str,.bool,.bool]) (A4b _).1 aj rfl ?_
  exact eh h3 aj.drop
 refine V4 (fun x h'=>(x=none∧(∀p∈L,p.2.aC≠c)∧sat h' (A1I b last L::cells x1 #[.int .i64 0,.string (ByteArray.mk #[]),.bool false,.bool false]::R))∨
  (∃p,p∈L∧x=some ⟨p.1,0,none⟩∧p.2.aC=c∧sat h' (A1I b last L::cells x1 #[.int .i64 0,.string (ByteArray.mk #[]),.bool false,.bool false]::R))) ?_ ?_
 ·exact C2O aa.p1 (fun hn h' af=>⟨none,rfl,.inl ⟨rfl,hn,af⟩⟩) (fun p hp hc h' af=>⟨some ⟨p.1,0,none⟩,rfl,.inr ⟨p,hp,rfl,hc,af⟩⟩)
 rintro x h2 (⟨rfl,hn,ae⟩|⟨p,hp,rfl,hc,ae⟩)
 ·refine u9 (C5x ae fun h3 aj=>⟨A4b none,rfl,?_⟩)
  exact fin (o:=none) (ax hn) aj
 ·refine u9 (C6T hp ae fun h3 aj=>⟨A4b (some (A00 p.2)),rfl,?_⟩)
  exact fin (o:=some (A00 p.2)) (dc p hp hc) aj
end
section
open Go.H Go.Proofs
variable {h:Heap} {R:List Asn}
theorem C1u{b:Nat}{o:Z5}{m:MsT}(hs:sat h (A0m b o::R))(ag:X0 o){Q:Value→Heap→Prop}
  (hq:∀S h',sat h' (A0m b (Y3 o m).1.1::p7 .u8 S (Y3 o m).1.2::R)→Q (.tuple #[.slice S.a S.len S.cap,.int .u8 (Y3 o m).2]) h'):
  V3 prog 81 #[at0 b,vMs m] h Q:=by
 refine A6H (some ⟨b,0,none⟩) (toU m) h Q ?_
 obtain⟨pb,fl,wt,dT⟩:=A0l.1 hs
 have eK:wt.len=o.waiting.length:=(dT.re [3,0,1,2]).aW
 delta A5D az bn cc g7 ie ji kb kc nn nw pu rq sx vs vz
 refine V5 dT fun mb h1 bB=>?_
 have aa:sat h1 (cells mb (Z6 m).toArray::cells b #[at0 pb,.int .i64 o.most,.bool o.on,.slice fl.a fl.len fl.cap,.slice wt.a wt.len wt.cap]::A1q pb o.aV::U5 A0O 7 fl o.aG::U5 Z6 5 wt o.waiting::R):=bB
 clear bB dT hs
 have hM:W0 h1 ⟨mb,2,none⟩=some (.int .i64 m.2.2.1):=aa.cell 2
 have stay:∀{c:Int},Y3 o m=((o,[]),c)→Q (.tuple #[.slice none 0 0,.int .u8 c]) h1:=fun{c} he=>by
  have:=hq ⟨none,0,0⟩ h1
  rw[he] at this
  exact this ((A1O (A0l.2 ⟨pb,fl,wt,aa.drop⟩)).p1)
 (try dsimp only);rw[U9,if_neg (by simp)]
 refine cut (fun x h'=>h'=h1∧x.1=decide (m.2.2.1<0∨2<m.2.2.1)) ?_ ?_
 ·intro K hK
  refine⟨m.2.2.1,by rw[U3];exact hM,?_⟩
  (try dsimp only);rw[U9]
  by_cases h0:m.2.2.1<0
  ·rw[if_pos (by simpa using h0)]
   exact hK _ _ ⟨rfl,by simp[h0]⟩
  ·rw[if_neg (by simpa using h0)]
   exact⟨m.2.2.1,by rw[U3];exact hM,hK _ _ ⟨rfl,by simp[h0]⟩⟩
 rintro⟨x,⟨⟩⟩ h2 ⟨rfl,hx⟩
 simp only at hx
 subst hx
 (try dsimp only);rw[U9]
 by_cases al:m.2.2.1<0∨2<m.2.2.1
 ·rw[if_pos (by simpa using al)]
  exact stay (by unfold Y3;rw[if_pos al])
 rw[if_neg (by simpa using al)]
 refine cut (fun x h'=>h'=h2∧x.1=decide (m.2.2.1=0∧o.on=false)) ?_ ?_
 ·intro K hK
  refine⟨m.2.2.1,by rw[U3];exact hM,?_⟩
  (try dsimp only);rw[U9]
  by_cases h0:m.2.2.1=0
  ·rw[if_pos (by simpa using h0)]
   refine⟨_,rfl,o.on,by rw[U3];exact aa.p1.cell 2,hK _ _ ⟨rfl,?_⟩⟩
   cases o.on<;>simp[h0]
  ·rw[if_neg (by simpa using h0)]
   exact hK _ _ ⟨rfl,by simp[h0]⟩
 rintro⟨x,⟨⟩⟩ h3 ⟨rfl,hx⟩
 simp only at hx
 subst hx
 (try dsimp only);rw[U9]
 by_cases dH:m.2.2.1=0∧o.on=false
 ·rw[if_pos (by simpa using dH)]
  exact stay (by unfold Y3;rw[if_neg al,if_pos dH])
 rw[if_neg (by simpa using dH)]
 refine⟨_,rfl,wt,by rw[U3];exact aa.p1.cell 4,?_⟩
 (try dsimp only);rw[U9]
 by_cases aA:256≤o.waiting.length
 ·rw[if_pos (by rw[eK];simp only[decide_eq_true_eq];omega)]
  exact stay (by unfold Y3;rw[if_neg al,if_neg dH,if_pos aA])
 rw[if_neg (by rw[eK];simp only[decide_eq_true_eq];omega)]
 refine⟨_,rfl,wt,by rw[U3];exact aa.p1.cell 4,?_⟩
 refine Y5 (ts:=[.str,.str,.int .i64,.bool,.str]) (toU m) aa rfl ?_
 refine V5 aa fun pA h4 ba=>?_
 have ae:sat h4 (cells pA (Z6 m).toArray::cells mb (Z6 m).toArray::cells b #[at0 pb,.int .i64 o.most,.bool o.on,.slice fl.a fl.len fl.cap,.slice wt.a wt.len wt.cap]::A1q pb o.aV::U5 A0O 7 fl o.aG::U5 Z6 5 wt o.waiting::R):=ba
 clear ba
 refine⟨wt,by rw[U3];exact ae.p2.cell 4,rfl,?_⟩
 (try dsimp only);rw[U1]
 refine A0d (enc:=Z6) (ys:=[m]) A7D B50 rfl ae.p5 rfl ?_ (by decide) (by decide) (by omega) fun wt' h5 aj=>?_
 ·simp only[V6,N5,D8,H9,C1]
  exact ae.reads rfl
 refine⟨_,rfl,?_⟩
 (try dsimp only);rw[U1,U3]
 refine W7 aj.p3 (by simp) rfl fun h6 ak=>?_
 have ai:sat h6 (A0m b {o with waiting:=o.waiting++[m]}::p7 .u8 ⟨none,0,0⟩ []::R):=by
  refine(A1O (A0l.2 ⟨pb,fl,wt',?_⟩)).p1
  exact(ak.re [0,4,5,1,2,3]).p4.p5.drop.drop
 have hw:=ag.wait (m:=m) ⟨by omega,by omega⟩ aA
 have he:Y3 o m=(Y7 {o with waiting:=o.waiting++[m]},0):=by unfold Y3;rw[if_neg al,if_neg dH,if_neg aA]
 rw[he] at hq
 refine U6 (B2V ai hw (by simp) fun h7 S aw=>⟨S,rfl,?_⟩)
 exact hq S h7 aw
theorem C2i{n:Int}{Q:Value→Heap→Prop}(hq:Q (.int .i64 (max 1 (min n 64))) h):V3 prog 117 #[.int .i64 n] h Q:=by
 refine A3y n h Q ?_
 delta A7Z pu
 have e:(if 1<(if 64<n then(64:Int) else n) then(if 64<n then 64 else n) else 1)=max 1 (min n 64):=by
  split<;>split<;>omega
 rw[e]
 exact hq
abbrev FlU:=Int×B3O×B3O×Int×Bool×B3O×Bool×Unit
abbrev C3k(f:FlT):FlU:=(f.1,f.2.1.1,f.2.1.2.1,f.2.1.2.2.1,f.2.1.2.2.2.1,f.2.1.2.2.2.2,f.2.2,())
theorem B9V{b:Nat}{o:Z5}{most:Int}(hs:sat h (A0m b o::R))(ag:X0 o){Q:Value→Heap→Prop}
  (hq:∀S h',sat h' (A0m b (A0k o most).1::p7 .u8 S (A0k o most).2::R)→Q (.slice S.a S.len S.cap) h'):
  V3 prog 73 #[at0 b,.int .i64 most] h Q:=by
 refine A52 (some ⟨b,0,none⟩) most h Q ?_
 obtain⟨pb,fl,wt,dT⟩:=A0l.1 hs
 delta A40 ad az bn cc ci g5 g7 ie ix jb ji kc nn nw pu sn sx ve vi vs vz wi
 (try dsimp only);rw[U9,if_neg (by simp)]
 refine U6 (C2i ⟨_,rfl,?_⟩)
 refine⟨_,rfl,?_⟩
 (try dsimp only);rw[U1,U3]
 refine W7 dT (by simp) rfl fun h1 aa=>?_
 refine⟨_,rfl,?_⟩
 (try dsimp only);rw[U1,U3]
 refine W7 aa (by simp) rfl fun h2 ba=>?_
 have ae:sat h2 (cells b #[at0 pb,.int .i64 (max 1 (min most 64)),.bool true,.slice fl.a fl.len fl.cap,.slice wt.a wt.len wt.cap]::A1q pb o.aV::U5 A0O 7 fl o.aG::U5 Z6 5 wt o.waiting::R):=ba
 clear ba aa dT hs
 refine⟨_,rfl,fl,by rw[U3];exact ae.cell 3,?_⟩
 have cT:fl.len=o.aG.length:=ae.p2.aW
 have iv:=ag.f64
 (try dsimp only);rw[U1]
 refine B5z o.aG.length (fun i x h'=>x.2.1=(i:Int)∧sat h' (cells b #[at0 pb,.int .i64 (max 1 (min most 64)),.bool true,.slice fl.a fl.len fl.cap,.slice wt.a wt.len wt.cap]::A1q pb o.aV::U5 A0O 7 fl o.aG::U5 Z6 5 wt o.waiting::p7 .u8 x.1 ((o.aG.take i).map A1y)::R))
  ⟨rfl,by simpa using(A1O (k:=.u8) ae).re [1,2,3,4,0]⟩ (fun i x h hi hJ=>by rw[hJ.1,cT];exact G6.2 (by omega)) (fun x h hJ K hd=>?_) (fun i x h ah hJ K bx hd=>?_)
 ·obtain⟨hx,aj⟩:=hJ
  rw[F9] at aj
  refine hd _ _ ?_
  have ak:sat h (A0m b {o with on:=true,most:=max 1 (min most 64)}::p7 .u8 x.1 (o.aG.map A1y)::R):=A0l.2 ⟨pb,fl,wt,aj⟩
  have h1:X0 {o with on:=true,most:=max 1 (min most 64)}:=⟨ag.pm,ag.pk,by simp only;omega,by simp only;omega,ag.ids,ag.wl,ag.fq,ag.wq⟩
  refine U6 (B2V ak h1 (by rw[C2];omega) fun h7 S aw=>⟨S,rfl,?_⟩)
  exact hq S h7 aw
 ·obtain⟨out,ci,⟨⟩⟩:=x
  obtain⟨hx,aj⟩:=hJ
  simp only at hx aj
  subst hx
  have hy:=B0 ah
  have aU:(o.aG.take (i+1)).map A1y=(o.aG.take i).map A1y++[A1y o.aG[i]]:=by rw[H8,hy,C0];rfl
  generalize o.aG[i]=f at hy aU
  (try dsimp only);rw[U1]
  refine X8 (aj.p2.aO A2F) hy fun a ha=>?_
  refine A0n (ts:=[.int .i64,.str,.str,.int .i64,.bool,.str,.bool]) (C3k f) ha ?_
  refine V5 aj fun lA h4 ak=>?_
  (try dsimp only);rw[U1]
  refine l5 ak rfl rfl fun h5 fo=>?_
  have ai:sat h5 (cells lA (A0O f).toArray::cells b #[at0 pb,.int .i64 (max 1 (min most 64)),.bool true,.slice fl.a fl.len fl.cap,.slice wt.a wt.len wt.cap]::A1q pb o.aV::U5 A0O 7 fl o.aG::U5 Z6 5 wt o.waiting::p7 .u8 out ((o.aG.take i).map A1y)::R):=fo
  clear fo ak
  refine⟨f.2.2,by rw[U3];exact ai.cell 6,?_⟩
  have oU:((o.aG.take i).map A1y).length≤64:=by rw[C2,E6];omega
  refine cut (fun z h'=>sat h' (p7 .u8 z.1 ((o.aG.take (i+1)).map A1y)::cells b #[at0 pb,.int .i64 (max 1 (min most 64)),.bool true,.slice fl.a fl.len fl.cap,.slice wt.a wt.len wt.cap]::A1q pb o.aV::U5 A0O 7 fl o.aG::U5 Z6 5 wt o.waiting::R)) ?_ ?_
  ·intro K2 bd
   rw[aU] at bd
   (try dsimp only);rw[U9]
   unfold A1y at bd
   by_cases hr:f.2.2=true
   ·rw[if_pos hr]
    rw[if_pos hr] at bd
    refine⟨f.1,by rw[U3];exact ai.cell 0,?_⟩
    have aw:=A3g (k:=.u8) (o:=j3 6 f.1 0) rfl rfl ai
    refine A4Z (t:=(⟨none,0,0⟩,⟨none,0,0⟩,j3 6 f.1 0)) (aw.re [6,0,1,2,3,4,5]) rfl (by decide) (by omega) fun s' h6 aK=>?_
    exact bd _ _ aK.p1.drop
   ·rw[if_neg hr]
    rw[if_neg hr] at bd
    refine A0n (ts:=[.str,.str,.int .i64,.bool,.str]) (toU f.2.1) (fun j v hv=>?_) ?_
    ·rw[U3,Addr.bM,ai.cell]
     match j,hv with
     |0,hv=>exact hv
     |1,hv=>exact hv
     |2,hv=>exact hv
     |3,hv=>exact hv
     |4,hv=>exact hv
     |n+5,hv=>exact absurd hv (by show ¬(Z6 f.2.1)[n+5]? =some v;simp)
    refine⟨f.1,by rw[U3];exact ai.cell 0,?_⟩
    refine U6 (B7A (m:=f.2.1) (id:=f.1) (dup:=true) ai fun c p h6 aw=>⟨pkT (A0x f.2.1 f.1 true) c p,rfl,?_⟩)
    refine A4Z (t:=(c,p,A0x f.2.1 f.1 true)) (aw.re [6,0,1,2,3,4,5]) rfl (by decide) (by omega) fun s' h7 aK=>?_
    exact bd _ _ aK.p1.drop
  rintro⟨out',⟨⟩⟩ h6 aw
  exact bx _ _ ⟨by rw[V8 (by omega) (by omega)];rfl,aw.re [1,2,3,4,0]⟩
end
end Go.Proofs.YtidlldnlphdhcaaGreatDoor
namespace Go.H
section
variable {α:Type} {enc:α→C9P} {size:Nat} {h:Heap} {s:Slc} {xs:List α} {R:List Asn}
def C87(elem:TypeId)(size bytes:Nat)(zero:C9O)(p0:Slc)(p1:Int)(p2:Int):HM (Slc×Unit):=
 HM.bind (HM.slice p0 (some p1) (some p2) (some ((p0.len:Nat):Int)) size) fun x1=>
 A04 (p1==p2) (
 W9 (p0,())) (
 HM.bind (HM.slice p0 none (some p1) none size) fun x2=>
 HM.bind (HM.slice p0 (some p2) none none size) fun x3=>
 HM.bind (HM.append elem size bytes zero x2 x3.len (V6 size x3)) fun x4=>
 HM.bind (HM.slice x4 (some ((x4.len:Nat):Int)) (some ((p0.len:Nat):Int)) none size) fun x5=>
 HM.bind (B76 zero x5) fun _=>
 W9 (x4,()))
theorem B7b(ao:∀x,(enc x).length=size):∀(l:List α) (n:Nat),(l.flatMap enc).take (n*size)=(l.take n).flatMap enc∧(l.flatMap enc).drop (n*size)=(l.drop n).flatMap enc:=by
 intro l
 induction l with
 |nil=>intro n;simp
 |cons x l ih=>
  intro n
  cases n with
  |zero=>simp
  |succ n=>
   have hx:=ao x
   rw[D8,J6,List.take_succ_cons,List.drop_succ_cons,D8]
   refine⟨?_,?_⟩
   ·rw[List.take_append,hx,D6 (by omega),show n*size+size-size=n*size from by omega,(ih n).1]
   ·rw[List.drop_append,hx,M9 (by omega),show n*size+size-size=n*size from by omega,(ih n).2,F2]
theorem C2b(ao:∀x,(enc x).length=size)(dr:∀x,∀v∈enc x,v.oneCell'=true){elem:TypeId}{bytes:Nat}{zero:C9O}(hz:zero.size=size)(sH:zero.toList.all (fun v=>v.oneCell')=true)(hsz:0<size)
  {i:Nat}(hs:sat h (U5 enc size s xs::R))(hi:i<xs.length){Q:Slc×Unit→Heap→Prop}
  (hq:∀s' h',sat h' (U5 enc size s' (xs.eraseIdx i)::R)→Q (s',()) h'):C87 elem size bytes zero s (i:Int) ((i:Int)+1) h Q:=by
 have hl:=hs.aW
 have hc:=hs.eC
 have sH:∀v∈(Builtin.zeroCells zero 1).toList,v.oneCell'=true:=by
  intro v hv
  rw[Array.mem_toList_iff] at hv
  unfold Builtin.zeroCells at hv
  obtain⟨j,-,rfl⟩:=Array.mem_map.1 hv
  have hj:j % zero.size<zero.size:=Nat.mod_lt _ (by omega)
  rw[getElem!_pos zero _ hj]
  exact J1.1 sH _ (by rw[Array.mem_toList_iff];exact Array.getElem_mem hj)
 have sF:(Builtin.zeroCells zero 1).toList.length=size:=by simp[Builtin.zeroCells,hz]
 rcases A1E hs with⟨-,-,rfl,-⟩|⟨b,o,cs,ho,aa⟩
 ·simp at hi
 have uP:=ho.a
 have gv:=ho.dP
 unfold C87
 refine⟨i,i+1,s.len,⟨rfl,hc⟩,⟨by omega,by omega⟩,⟨rfl,by omega⟩,?_⟩
 (try dsimp only);rw[U9,if_neg (by simp;omega)]
 refine⟨0,i,s.cap,rfl,⟨rfl,by omega⟩,rfl,?_⟩
 refine⟨i+1,s.len,s.cap,rfl,⟨rfl,rfl⟩,⟨by omega,by omega⟩,?_⟩
 have e2:j9 s 0 i s.cap size=⟨some ⟨b,o*size,none⟩,i,s.cap⟩:=by
  unfold j9
  rw[uP,if_neg (by omega)]
  simp[Addr.bM]
 have e3:(j9 s (i+1) s.len s.cap size).len=s.len-(i+1):=rfl
 have hmul:s.len*size=i*size+size+(s.len-(i+1))*size:=by
  rw[←J6,←J8];congr 1;omega
 have hle:(o+s.len)*size≤cs.size:=C4 (Q7 _ (by omega)) gv
 have uV:(o+s.len)*size=o*size+s.len*size:=J8 ..
 have cT:=y5 ao (xs.drop (i+1))
 rw[R2,←hl] at cT
 have gA:(xs.drop (i+1)).flatMap enc=(xs.flatMap enc).drop ((i+1)*size):=((B7b ao xs (i+1)).2).symm
 rw[e2]
 (try dsimp only);rw[U1,e3]
 refine⟨fun _=>?_,fun nY=>absurd nY (by simp only;omega)⟩
 refine⟨((xs.drop (i+1)).flatMap enc).toArray,?_,?_⟩
 ·unfold V6
  have ha:(j9 s (i+1) s.len s.cap size).a=some ⟨b,if s.cap=i+1 then o*size else o*size+(i+1)*size,none⟩:=by
   unfold j9
   simp only[uP]
   split<;>simp[Addr.bM]
  rw[ha,e3]
  refine⟨by simpa using cT,fun j v hv=>?_⟩
  have pL:((xs.drop (i+1)).flatMap enc)[j]? =some v:=by simpa using hv
  have hj:=(E0.1 pL).1
  rw[cT] at hj
  rw[if_neg (by intro e;rw[show s.len-(i+1)=0 by omega] at hj;omega)]
  rw[Addr.bM,aa.cell]
  rw[gA,←ho.front,N8,List.getElem?_take_of_lt (by rw[J6];omega),N8] at pL
  rw[show o*size+(i+1)*size+j=o*size+((i+1)*size+j) by omega]
  simpa using pL
 dsimp only
 rw[Addr.bM]
 have tN:o*size+i*size+((xs.drop (i+1)).flatMap enc).length≤cs.size:=by rw[cT];omega
 refine⟨by
  have:=A3r (o:=o*size+i*size) (vs:=(xs.drop (i+1)).flatMap enc) aa tN (fun v hv=>by
   obtain⟨x,_,hx⟩:=R3.1 hv
   exact dr x v hx)
  simpa using this,?_⟩
 obtain⟨lS,f1,f2,ae⟩:=sat.setCells ((xs.drop (i+1)).flatMap enc) cs (o*size+i*size) 0 aa (by omega)
 have e4:i+(s.len-(i+1))=s.len-1:=by omega
 rw[e4]
 refine⟨s.len-1,s.len,s.cap,rfl,⟨rfl,hc⟩,⟨rfl,by omega⟩,?_⟩
 have e5:j9 ⟨some ⟨b,o*size,none⟩,s.len-1,s.cap⟩ (s.len-1) s.len s.cap size=⟨some ⟨b,o*size+(s.len-1)*size,none⟩,1,s.cap-(s.len-1)⟩:=by
  unfold j9
  rw[if_neg (by omega)]
  simp only[R8,Addr.bM]
  congr 1
  omega
 rw[e5]
 (try dsimp only);rw[U1]
 unfold B76
 dsimp only
 rw[if_neg (by decide)]
 have uY:s.len*size=(s.len-1)*size+size:=by
  rw[←J6];congr 1;omega
 have tM:o*size+(s.len-1)*size+(Builtin.zeroCells zero 1).toList.length≤lS.size:=by rw[sF,f1];omega
 refine⟨by
  have:=A3r (o:=o*size+(s.len-1)*size) (vs:=(Builtin.zeroCells zero 1).toList) ae tM sH
  simpa using this,?_⟩
 obtain⟨yc,g1,g2,aj⟩:=sat.setCells (Builtin.zeroCells zero 1).toList lS (o*size+(s.len-1)*size) 0 ae (by omega)
 refine hq _ _ (A1D (b:=b) (o:=o) (cs:=yc) ⟨rfl,by simp only;omega,?_,by rw[g1,f1];exact gv,?_⟩ aj)
 ·rw[List.length_eraseIdx_of_lt hi];simp only;omega
 rw[g2,O7,D2]
 have qJ:lS.toList.length=cs.size:=by simp[f1]
 have aQ:cs.toList.length=cs.size:=by simp
 have t1:((lS.toList.take (o*size+(s.len-1)*size)++((Builtin.zeroCells zero 1).toList++lS.toList.drop (o*size+(s.len-1)*size+(Builtin.zeroCells zero 1).toList.length))).drop (o*size)).take ((s.len-1)*size)
   =(lS.toList.drop (o*size)).take ((s.len-1)*size):=by
  rw[P1 (by rw[E6,qJ];omega),P2 (by rw[R2,E6,qJ];omega),List.drop_take,List.take_take]
  congr 1
  omega
 rw[t1,f2,O7,D2]
 rw[P1 (by rw[E6,aQ];omega),List.drop_take,show o*size+i*size-o*size=i*size by omega]
 have t2:(cs.toList.drop (o*size)).take (i*size)=(xs.take i).flatMap enc:=by
  rw[←(B7b ao xs i).1,←ho.front,List.take_take]
  congr 1
  omega
 rw[t2,List.eraseIdx_eq_take_drop_succ,I6,←D2]
 rw[P2,D6]
 ·rw[B5,cT,y5 ao,E6,Nat.min_eq_left (by omega)];omega
 ·rw[B5,cT,y5 ao,E6,Nat.min_eq_left (by omega)];omega
end
end Go.H
namespace Go.Proofs.YtidlldnlphdhcaaGreatDoor
open Go.H
open Go.Proofs.Tryz
section
open Go.H Go.Proofs
variable {h:Heap} {R:List Asn}
theorem B18(a:Addr)(m n:Nat):(a.add m).add n=a.add (m+n):=by
 unfold Addr.add
 by_cases hn:n=0
 ·subst hn;simp
 ·by_cases hm:m=0
  ·subst hm;simp
  ·rw[if_neg hn,if_neg hm,if_neg (by omega),Nat.add_assoc]
theorem B7W{xs:List FlT}(hn:(xs.map (·.1)).Nodup):∀{i:Nat} {f:FlT},xs[i]? =some f→xs.eraseIdx i=xs.filter fun g=>decide (g.1≠f.1):=by
 induction xs with
 |nil=>intro i f hf;simp at hf
 |cons x xs ih=>
  intro i f hf
  rw[B6,F8] at hn
  cases i with
  |zero=>
   rw[L7] at hf
   cases hf
   rw[List.eraseIdx_cons_zero,H6,if_neg (by simp)]
   refine(G9.2 fun g hg=>?_).symm
   simp only[decide_eq_true_eq]
   intro e
   exact hn.1 (e▸B3 hg)
  |succ i=>
   rw[I9] at hf
   have hx:x.1≠f.1:=fun e=>hn.1 (e▸B3 (E9 hf))
   rw[List.eraseIdx_cons_succ,H6,if_pos (by simpa using hx),ih hn.2 hf]
theorem C2y{xs:List FlT}(hn:(xs.map (·.1)).Nodup):∀{i:Nat} {f:FlT},xs[i]? =some f→xs.set i (f.1,f.2.1,true)=xs.map fun g=>if g.1=f.1 then(g.1,g.2.1,true) else g:=by
 induction xs with
 |nil=>intro i f hf;simp at hf
 |cons x xs ih=>
  intro i f hf
  rw[B6,F8] at hn
  cases i with
  |zero=>
   rw[L7] at hf
   cases hf
   rw[List.set_cons_zero,B6,if_pos rfl]
   congr 1
   conv=>lhs;rw[←T5 xs]
   refine I0 fun g hg=>?_
   rw[if_neg (fun e:g.1=x.1=>hn.1 (e▸B3 hg))]
   rfl
  |succ i=>
   rw[I9] at hf
   have hx:x.1≠f.1:=fun e=>hn.1 (e▸B3 (E9 hf))
   rw[List.set_cons_succ,B6,if_neg hx,ih hn.2 hf]
theorem C0r{xs:List FlT}{id:Int}(hn:(xs.map (·.1)).Nodup){i:Nat}{f:FlT}(hf:xs[i]? =some f)(he:f.1=id):xs.find? (fun g=>decide (g.1=id))=some f:=by
 induction xs generalizing i with
 |nil=>simp at hf
 |cons x xs ih=>
  rw[B6,F8] at hn
  cases i with
  |zero=>
   rw[L7] at hf
   cases hf
   rw[R6 (by simpa using he)]
  |succ i=>
   rw[I9] at hf
   have hx:x.1≠id:=fun e=>hn.1 ((e.trans he.symm)▸B3 (E9 hf))
   rw[List.find?_cons_of_neg (by simpa using hx),ih hn.2 hf]
theorem B7V{xs:List FlT}{id:Int}(hn:∀f∈xs,f.1≠id):xs.find? (fun g=>decide (g.1=id))=none:=
 E7.2 fun f hf=>by simpa using hn f hf
theorem X0.nd{o:Z5}(h:X0 o):(o.aG.map (·.1)).Nodup:=by rw[h.ids];exact h.pk.nodup
theorem C57{cb:Nat}{cs:C9O}{id:Int}{f:FlT}(hs:sat h (cells cb cs::R))(hc:cs[4]? =some (.int .i64 id)){Q:Value→Heap→Prop}(hq:∀h',sat h' (cells cb cs::R)→Q (.bool (f.1==id)) h'):
  V3 prog 162 #[.agg (A0O f).toArray,at0 cb] h Q:=by
 refine A4q (C3k f) ⟨cb,0,none⟩ h Q ?_
 delta A3k ji ki nw pu
 refine V5 hs fun x1 h1 aa=>?_
 refine⟨f.1,by rw[U3];exact aa.cell 0,id,by rw[U3];exact(aa.p1.cell 4).trans hc,?_⟩
 exact hq h1 aa.drop
theorem C3Z{cb:Nat}{cs:C9O}{id:Int}{s:Slc}{xs:List FlT}(hs:sat h (cells cb cs::U5 A0O 7 s xs::R))(hl:xs.length≤300)(hc:cs[4]? =some (.int .i64 id)){Q:Value→Heap→Prop}
  (ax:(∀f∈xs,f.1≠id)→∀h',sat h' (cells cb cs::U5 A0O 7 s xs::R)→Q (.int .i64 (-1)) h')
  (dc:∀(i:Nat) (f:FlT),xs[i]? =some f→f.1=id→∀h',sat h' (cells cb cs::U5 A0O 7 s xs::R)→Q (.int .i64 i) h'):
  V3 prog 161 #[.slice s.a s.len s.cap,.func (.func 162) #[] #[at0 cb]] h Q:=by
 refine A31 s _ h Q ?_
 delta A2N bn g5 ie ix pu wi
 (try dsimp only);rw[U1]
 have cW:s.len=xs.length:=hs.p1.aW
 refine B5z xs.length (fun i x h'=>x.1=(i:Int)∧(∀f∈xs.take i,f.1≠id)∧sat h' (cells cb cs::U5 A0O 7 s xs::R))
  ⟨rfl,by simp,hs⟩ (fun i x h hi hJ=>by rw[hJ.1,cW];exact G6.2 (by omega)) (fun x h hJ K hd=>?_) (fun i x h ah hJ K bx hd=>?_)
 ·obtain⟨hx,hn,aa⟩:=hJ
  rw[F9] at hn
  exact hd _ _ (ax hn _ aa)
 ·obtain⟨ci,⟨⟩⟩:=x
  obtain⟨hx,hn,aa⟩:=hJ
  simp only at hx
  subst hx
  have hy:=B0 ah
  have aU:xs.take (i+1)=xs.take i++[xs[i]]:=by rw[H8,hy];rfl
  generalize xs[i]=f at hy aU
  (try dsimp only);rw[U1]
  refine X8 (aa.p1.aO A2F) hy fun a ha=>?_
  refine A0n (ts:=[.int .i64,.str,.str,.int .i64,.bool,.str,.bool]) (C3k f) ha ?_
  refine⟨_,_,_,rfl,call162,?_⟩
  refine C57 (f:=f) aa hc fun h2 ae=>⟨_,rfl,?_⟩
  (try dsimp only);rw[U9]
  by_cases e:f.1=id
  ·rw[if_pos (by simpa using e)]
   exact hd _ _ (dc i f hy e _ ae)
  ·rw[if_neg (by simpa using e)]
   refine bx _ _ ⟨by rw[V8 (by omega) (by omega)];rfl,fun g hg=>?_,ae⟩
   rw[aU] at hg
   rcases C9.1 hg with hg|hg
   ·exact hn g hg
   ·rw[B7.1 hg];exact e
theorem B8X{s:Slc}{xs:List FlT}{i:Nat}(hs:sat h (U5 A0O 7 s xs::R))(hi:i<xs.length){Q:Value→Heap→Prop}
  (hq:∀(s':Slc) h',sat h' (U5 A0O 7 s' (xs.eraseIdx i)::R)→Q (.slice s'.a s'.len s'.cap) h'):
  V3 prog 211 #[.slice s.a s.len s.cap,.int .i64 i,.int .i64 ((i:Int)+1)] h Q:=by
 refine A9p s i _ h Q ?_
 exact C2b (zero:=#[.int .i64 0,.string (ByteArray.mk #[]),.string (ByteArray.mk #[]),.int .i64 0,.bool false,.string (ByteArray.mk #[]),.bool false]) A2F B1V rfl rfl (by decide) hs hi fun s' h' af=>hq s' h' af
theorem C1w{b:Nat}{o:Z5}{i:Nat}{f:FlT}(hs:sat h (A0m b o::R))(ag:X0 o)(hf:o.aG[i]? =some f){Q:Value→Heap→Prop}
  (hq:∀h',sat h' (A0m b (A3i o f.1)::R)→Q (.tuple #[]) h'):V3 prog 163 #[at0 b,.int .i64 i] h Q:=by
 refine A6F (some ⟨b,0,none⟩) i h Q ?_
 obtain⟨pb,fl,wt,aa⟩:=A0l.1 hs
 delta A5B cb cc ix kc ki kp nn pu sx vi vs wi
 have cK:=(E0.1 hf).1
 have iv:=ag.f64
 refine⟨_,rfl,some ⟨pb,0,none⟩,by rw[U3];exact aa.cell 0,_,rfl,fl,by rw[U3];exact aa.cell 3,?_⟩
 (try dsimp only);rw[U1]
 refine X8 (aa.p2.aO A2F) hf fun a ha=>?_
 refine⟨f.1,ha 0 _ rfl,?_⟩
 refine U6 (B78 aa.p1 fun h2 ae=>⟨_,rfl,?_⟩)
 refine⟨_,rfl,fl,by rw[U3];exact ae.p1.cell 3,?_⟩
 have w:IntKind.wrap .i64 ((i:Int)+1)=(i:Int)+1:=V8 (by omega) (by omega)
 (try dsimp only);rw[w]
 refine U6 (B8X ae.p2 cK fun s' h3 aj=>⟨s',rfl,?_⟩)
 refine⟨_,rfl,?_⟩
 (try dsimp only);rw[U1,U3]
 refine W7 aj.p2 (by simp) rfl fun h4 ak=>?_
 refine hq h4 (A0l.2 ⟨pb,s',wt,?_⟩)
 rw[B7W ag.nd hf] at ak
 exact ak.re [0,2,1,3]
theorem C3L{b:Nat}{o:Z5}{p:Pk}(hs:sat h (A0m b o::R))(ag:X0 o){Q:Value→Heap→Prop}
  (hq:∀S h',sat h' (A0m b (A0V o p.1 p.2.2.2.2.1 p.2.2.2.2.2.2.2.1).1.1::p7 .u8 S (A0V o p.1 p.2.2.2.2.1 p.2.2.2.2.2.2.2.1).1.2::R)→Q (.tuple #[.slice S.a S.len S.cap,.int .u8 (A0V o p.1 p.2.2.2.2.1 p.2.2.2.2.2.2.2.1).2]) h'):
  V3 prog 108 #[at0 b,A2s .u8 p] h Q:=by
 refine A5i (some ⟨b,0,none⟩) p h Q ?_
 delta A4v az bn cc ci cx ie ix ji ju kb kc ki nn nw pu sx ve vi vs vz
 refine V5 hs fun cb h1 bB=>?_
 have aa:sat h1 (cells cb (W8 .u8 p).toArray::A0m b o::R):=bB
 clear bB hs
 have k0:∀{h':Heap} {R':List Asn},sat h' (cells cb (W8 .u8 p).toArray::R')→W0 h' ⟨cb,0,none⟩=some (.int .i64 p.1):=fun hs=>hs.cell 0
 have k4:∀{h':Heap} {R':List Asn},sat h' (cells cb (W8 .u8 p).toArray::R')→W0 h' ⟨cb,4,none⟩=some (.int .i64 p.2.2.2.2.1):=fun hs=>hs.cell 4
 have k7:∀{h':Heap} {R':List Asn},sat h' (cells cb (W8 .u8 p).toArray::R')→W0 h' ⟨cb,7,none⟩=some (.int .u8 p.2.2.2.2.2.2.2.1):=fun hs=>hs.cell 7
 have g4:(W8 .u8 p).toArray[4]? =some (.int .i64 p.2.2.2.2.1):=rfl
 generalize hk:p.1=k at*
 generalize hid:p.2.2.2.2.1=id at*
 generalize oT:p.2.2.2.2.2.2.2.1=c at*
 generalize(W8 .u8 p).toArray=cs at*
 have stay:∀{cc:Int} {h':Heap},sat h' (cells cb cs::A0m b o::R)→A0V o k id c=((o,[]),cc)→Q (.tuple #[.slice none 0 0,.int .u8 cc]) h':=fun{cc h'} hs he=>by
  have:=hq ⟨none,0,0⟩ h'
  rw[he] at this
  exact this ((A1O hs.drop).p1)
 (try dsimp only);rw[U9,if_neg (by simp)]
 refine cut (fun x h'=>h'=h1∧x.1=decide (o.on=false∨(k≠4∧k≠5∧k≠7))) ?_ ?_
 ·intro K hK
  obtain⟨pb,fl,wt,ae⟩:=A0l.1 aa.p1
  refine⟨_,rfl,o.on,by rw[U3];exact ae.cell 2,?_⟩
  (try dsimp only);rw[U9]
  cases aP:o.on with
  |false=>rw[if_pos (by rfl)];exact hK _ _ ⟨rfl,by simp[aP]⟩
  |true=>
   rw[if_neg (by simp)]
   refine⟨k,by rw[U3];exact k0 aa,?_⟩
   (try dsimp only);rw[U9]
   by_cases h4:k=4
   ·rw[if_neg (by simp[h4])];exact hK _ _ ⟨rfl,by simp[h4,aP]⟩
   ·rw[if_pos (by simp[h4])]
    refine⟨k,by rw[U3];exact k0 aa,?_⟩
    (try dsimp only);rw[U9]
    by_cases h5:k=5
    ·rw[if_neg (by simp[h5])];exact hK _ _ ⟨rfl,by simp[h5,aP]⟩
    ·rw[if_pos (by simp[h5])]
     refine⟨k,by rw[U3];exact k0 aa,hK _ _ ⟨rfl,?_⟩⟩
     by_cases h7:k=7<;>simp[h4,h5,h7,aP]
 rintro⟨x,⟨⟩⟩ h2 ⟨rfl,hx⟩
 simp only at hx
 subst hx
 (try dsimp only);rw[U9]
 by_cases al:o.on=false∨(k≠4∧k≠5∧k≠7)
 ·rw[if_pos (by simpa using al)]
  exact stay aa (by unfold A0V;rw[if_pos al])
 rw[if_neg (by simpa using al)]
 obtain⟨pb,fl,wt,ae⟩:=A0l.1 aa.p1
 refine⟨_,rfl,fl,by rw[U3];exact ae.cell 3,?_⟩
 have iv:=ag.f64
 refine U6 (C3Z (ae.re [4,2,0,1,3]) (by omega) g4 (fun ax h3 aj=>⟨_,rfl,?_⟩) (fun i f hf he h3 bo=>⟨_,rfl,?_⟩))
 ·(try dsimp only);rw[U9,if_pos (by decide)]
  refine stay (sat.p1 (A0l.2 ⟨pb,fl,wt,aj.re [2,3,1,4,0]⟩)) ?_
  unfold A0V
  rw[if_neg al,B7V ax]
 have aj:sat h3 (cells b #[at0 pb,.int .i64 o.most,.bool o.on,.slice fl.a fl.len fl.cap,.slice wt.a wt.len wt.cap]::cells cb cs::A1q pb o.aV::U5 A0O 7 fl o.aG::U5 Z6 5 wt o.waiting::R):=bo.re [2,0,3,1,4]
 clear bo
 have cF:sat h3 (cells cb cs::A0m b o::R):=sat.p1 (A0l.2 ⟨pb,fl,wt,aj.re [0,2,3,4,1]⟩)
 have gO:=C0r ag.nd hf he
 have oP:=E9 hf
 have aF:A0V o k id c=(if k=4 then(if f.2.1.2.2.1≠1 then((o,[]),130) else(Y7 (A3i o id),0))
   else if k=5 then
    (if f.2.1.2.2.1≠2∨(128≤c∧f.2.2=true) then((o,[]),130)
    else if 128≤c then(Y7 (A3i o id),0)
    else(((Y7 (B2m o id)).1,j3 6 id 0::(Y7 (B2m o id)).2),0))
   else(if f.2.2=false then((o,[]),130) else(Y7 (A3i o id),0))):=by
  unfold A0V
  rw[if_neg al,gO]
 (try dsimp only);rw[U9,if_neg (by simp)]
 refine⟨_,rfl,fl,by rw[U3];exact aj.cell 3,?_⟩
 (try dsimp only);rw[U1]
 refine B8S A2F aj.p3 hf fun a ha cy=>?_
 have aq:W0 h3 ((a.add 1).add 2)=some (.int .i64 f.2.1.2.2.1):=by rw[B18];exact ha 3 _ rfl
 have ar:W0 h3 (a.add 6)=some (.bool f.2.2):=ha 6 _ rfl
 refine⟨k,by rw[U3];exact k0 aj.p1,?_⟩
 refine cut (fun z h'=>match z with
  |.inl x=>∃(o':Z5) (os:List PkO),X0 o'∧os.length≤10∧A0V o k id c=(((Y7 o').1,os++(Y7 o').2),0)∧sat h' (A0m b o'::p7 .u8 x.1 os::R)
  |.inr y=>y.1=⟨none,0,0⟩∧A0V o k id c=((o,[]),y.2.1)∧sat h' (cells cb cs::A0m b o::R)) ?_ ?_
 ·intro K hK
  have bad:A0V o k id c=((o,[]),130)→K (.inr (⟨none,0,0⟩,130,())) h3:=fun e=>hK _ _ ⟨rfl,e,cF⟩
  have bR:∀{K2:q9 []→Heap→Prop},(∀h',sat h' (A0m b (A3i o id)::p7 .u8 ⟨none,0,0⟩ []::R)→K2 () h')→V3 prog 163 #[.pointer (some ⟨b,0,none⟩),.int .i64 i] h3 (q9.un [] K2):=fun bd=>
   C1w cF.p1 ag hf fun h' af=>⟨(),rfl,bd h' (by rw[he] at af;exact(A1O af.p1.drop).p1)⟩
  have tm:=ag.over id
  (try dsimp only);rw[U9]
  by_cases h4:k=4
  ·rw[if_pos (by simp[h4])]
   rw[if_pos h4] at aF
   refine⟨_,rfl,f.2.1.2.2.1,aq,?_⟩
   (try dsimp only);rw[U9]
   by_cases jg:f.2.1.2.2.1=1
   ·rw[if_neg (by simp[jg])]
    rw[if_neg (by simp[jg])] at aF
    refine u9 (bR fun h' af=>?_)
    exact hK _ _ ⟨A3i o id,[],tm,by simp,aF,af⟩
   ·rw[if_pos (by simp[jg])]
    rw[if_pos jg] at aF
    exact bad aF
  rw[if_neg (by simp[h4])]
  rw[if_neg h4] at aF
  refine cut (fun z h'=>match z with
   |.inl x=>∃(o':Z5) (os:List PkO),X0 o'∧os.length≤10∧A0V o k id c=(((Y7 o').1,os++(Y7 o').2),0)∧sat h' (A0m b o'::p7 .u8 x.1 os::R)
   |.inr (.inl x)=>False
   |.inr (.inr y)=>y.1=⟨none,0,0⟩∧A0V o k id c=((o,[]),y.2.1)∧sat h' (cells cb cs::A0m b o::R)) ?_ ?_
  ·intro K2 bd
   have bad:A0V o k id c=((o,[]),130)→K2 (.inr (.inr (⟨none,0,0⟩,130,()))) h3:=fun e=>bd _ _ ⟨rfl,e,cF⟩
   (try dsimp only);rw[U9]
   by_cases h5:k=5
   ·rw[if_pos (by simp[h5])]
    rw[if_pos h5] at aF
    refine⟨_,rfl,f.2.1.2.2.1,aq,?_⟩
    refine cut (fun z h'=>h'=h3∧z.1=decide (f.2.1.2.2.1≠2∨(128≤c∧f.2.2=true))) ?_ ?_
    ·intro K3 jq
     (try dsimp only);rw[U9]
     by_cases ef:f.2.1.2.2.1=2
     ·rw[if_neg (by simp[ef])]
      refine cut (fun z h'=>h'=h3∧z.1=decide (128≤c∧f.2.2=true)) ?_ ?_
      ·intro K4 gS
       refine⟨c,by rw[U3];exact k7 aj.p1,?_⟩
       (try dsimp only);rw[U9]
       by_cases fx:128≤c
       ·rw[if_pos (by simpa using fx)]
        refine⟨_,rfl,f.2.2,ar,gS _ _ ⟨rfl,?_⟩⟩
        simp[fx]
       ·rw[if_neg (by simpa using fx)]
        exact gS _ _ ⟨rfl,by simp[fx]⟩
      rintro⟨z,⟨⟩⟩ h4 ⟨rfl,hz⟩
      simp only at hz
      refine jq _ _ ⟨rfl,?_⟩
      simp only[hz]
      simp[ef]
     ·rw[if_pos (by simp[ef])]
      exact jq _ _ ⟨rfl,by simp[ef]⟩
    rintro⟨z,⟨⟩⟩ h4 ⟨rfl,hz⟩
    simp only at hz
    subst hz
    (try dsimp only);rw[U9]
    by_cases dy:f.2.1.2.2.1≠2∨(128≤c∧f.2.2=true)
    ·rw[if_pos (decide_eq_true dy)]
     rw[if_pos dy] at aF
     exact bad aF
    rw[if_neg (by rw[decide_eq_true_eq];exact dy)]
    rw[if_neg dy] at aF
    refine⟨c,by rw[U3];exact k7 aj.p1,?_⟩
    refine cut (fun z h'=>∃(o':Z5) (os:List PkO),X0 o'∧os.length≤10∧A0V o k id c=(((Y7 o').1,os++(Y7 o').2),0)∧sat h' (A0m b o'::p7 .u8 z.1 os::R)) ?_ ?_
    ·intro K3 jq
     (try dsimp only);rw[U9]
     by_cases fx:128≤c
     ·rw[if_pos (by simpa using fx)]
      rw[if_pos fx] at aF
      refine u9 (bR fun h' af=>?_)
      exact jq _ _ ⟨A3i o id,[],tm,by simp,aF,af⟩
     ·rw[if_neg (by simpa using fx)]
      rw[if_neg fx] at aF
      refine⟨_,rfl,?_⟩
      (try dsimp only);rw[U1]
      refine cy 6 (.bool true) (f.1,f.2.1,true) _ (by decide) rfl rfl fun h5 ai=>?_
      rw[C2y ag.nd hf,he] at ai
      have aw:sat h5 (cells cb cs::A0m b (B2m o id)::R):=sat.p1 (A0l.2 ⟨pb,fl,wt,ai.re [1,3,0,4,2]⟩)
      refine⟨id,by rw[U3];exact k4 aw,?_⟩
      have aK:=A1O (k:=.u8) (A3g (k:=.u8) (o:=j3 6 id 0) rfl rfl aw)
      refine A4Z (t:=(⟨none,0,0⟩,⟨none,0,0⟩,j3 6 id 0)) aK rfl (by decide) (by decide) fun s' h6 bw=>?_
      have ef:f.2.1.2.2.1=2:=Classical.not_not.1 fun e=>dy (.inl e)
      have hrel:X0 (B2m o id):=ag.rel fun g hg e=>by rw[ag.one hg oP (e.trans he.symm)];exact ef
      exact jq _ _ ⟨B2m o id,[j3 6 id 0],hrel,by simp,aF,bw.p1.drop.re [1,0]⟩
    rintro⟨z,⟨⟩⟩ h4 ⟨o',os,g1,g2,g3,g4⟩
    exact bd _ _ ⟨o',os,g1,g2,g3,g4⟩
   ·rw[if_neg (by simp[h5])]
    rw[if_neg h5] at aF
    refine⟨_,rfl,f.2.2,ar,?_⟩
    (try dsimp only);rw[U9]
    cases hr:f.2.2 with
    |false=>
     rw[if_pos (by rfl)]
     rw[if_pos hr] at aF
     exact bad aF
    |true=>
     rw[if_neg (by simp)]
     rw[if_neg (by simp[hr])] at aF
     refine u9 (bR fun h' af=>?_)
     exact bd _ _ ⟨A3i o id,[],tm,by simp,aF,af⟩
  rintro z h4 hz
  match z,hz with
  |.inl (x,()),hz=>exact hK _ _ hz
  |.inr (.inr (y1,y2,())),hz=>exact hK _ _ hz
 rintro z h4 hz
 match z,hz with
 |.inl (x,()),⟨o',os,g1,g2,g3,g4⟩=>
  refine U6 (B2V g4 g1 (by omega) fun h7 S aw=>⟨S,rfl,?_⟩)
  have:=hq S h7
  rw[g3] at this
  exact this aw
 |.inr (y1,y2,()),⟨g1,g2,g3⟩=>
  simp only at g1 g2
  subst g1
  exact stay g3 g2
end
section
open Go.H Go.Proofs
variable {h h0:Heap} {L L' L1 L2 L3 R:List Asn} {Q:Value→Heap→Prop}
theorem B4y{b:Nat}{o:Z5}{m:MsT}(ag:X0 o)(hq:∀S:Slc,At (A0m b (Y3 o m).1.1::p7 .u8 S (Y3 o m).1.2::L1) (Q (.tuple #[.slice S.a S.len S.cap,.int .u8 (Y3 o m).2])))(hx:Has L (A0m b o) L1:=by repeat first|with_reducible exact V0|apply V2):
  FW prog 81 #[at0 b,vMs m] L Q:=fun h hs=>C1u (hx.s hs) ag fun S h' af=>hq S h' af
theorem C5f{b:Nat}{o:Z5}{most:Int}(ag:X0 o)(hq:∀S:Slc,At (A0m b (A0k o most).1::p7 .u8 S (A0k o most).2::L1) (Q (.slice S.a S.len S.cap)))(hx:Has L (A0m b o) L1:=by repeat first|with_reducible exact V0|apply V2):
  FW prog 73 #[at0 b,.int .i64 most] L Q:=fun h hs=>B9V (hx.s hs) ag fun S h' af=>hq S h' af
theorem C7P{b:Nat}{o:Z5}{p:Pk}(ag:X0 o)(hq:∀S:Slc,At (A0m b (A0V o p.1 p.2.2.2.2.1 p.2.2.2.2.2.2.2.1).1.1::p7 .u8 S (A0V o p.1 p.2.2.2.2.1 p.2.2.2.2.2.2.2.1).1.2::L1) (Q (.tuple #[.slice S.a S.len S.cap,.int .u8 (A0V o p.1 p.2.2.2.2.1 p.2.2.2.2.2.2.2.1).2])))
  (hx:Has L (A0m b o) L1:=by repeat first|with_reducible exact V0|apply V2):FW prog 108 #[at0 b,A2s .u8 p] L Q:=fun h hs=>C3L (hx.s hs) ag fun S h' af=>hq S h' af
theorem C5y{f:Nat}{s:s6}{p:Pk}{why:Int}(hq:∀S:Slc,At (A0g f ⟨s.most,s.taken,(l8 s p.1 p.2.2.2.1 p.2.2.2.2.1 why).2.2.2⟩::p7 .u8 S (A3w (l8 s p.1 p.2.2.2.1 p.2.2.2.2.1 why).2.1 p.2.2.2.2.1)::L1)
   (Q (.tuple #[.bool (l8 s p.1 p.2.2.2.1 p.2.2.2.2.1 why).1,.slice S.a S.len S.cap,.int .u8 (l8 s p.1 p.2.2.2.1 p.2.2.2.2.1 why).2.2.1])))(hx:Has L (A0g f s) L1:=by repeat first|with_reducible exact V0|apply V2):
  FW prog 107 #[at0 f,A2s .u8 p,.int .u8 why] L Q:=fun h hs=>by
 refine B8R (hx.s hs) (fun hn h' af=>?_) (fun k c hy b h' af=>?_)
 ·have:=hq ⟨none,0,0⟩
  rw[hn] at this
  exact this h' (A1O af).p1
 ·have:=hq ⟨some ⟨b,0,none⟩,1,1⟩
  rw[hy] at this
  refine this h' ?_
  have h1:sat h' (U5 (W8 .u8) 26 ⟨some ⟨b,0,none⟩,1,1⟩ [pkF (⟨none,0,0⟩,⟨none,0,0⟩,j3 k p.2.2.2.2.1 c)]::A0g f ⟨s.most,s.taken,(l8 s p.1 p.2.2.2.1 p.2.2.2.2.1 why).2.2.2⟩::L1):=
   A1D (o:=0) ⟨rfl,D9 _,rfl,by simp,by rfl⟩ af
  have h2:sat h' (p7 .u8 ⟨some ⟨b,0,none⟩,1,1⟩ [j3 k p.2.2.2.2.1 c]::A0g f ⟨s.most,s.taken,(l8 s p.1 p.2.2.2.1 p.2.2.2.2.1 why).2.2.2⟩::L1):=
   A7e.2 ⟨[(⟨none,0,0⟩,⟨none,0,0⟩,j3 k p.2.2.2.2.1 c)],rfl,(A3V.2 (A3g (o:=j3 k p.2.2.2.2.1 c) rfl rfl h1)).p1⟩
  exact h2.p1
theorem C2x{b:Nat}{last:Int}{A:List V7}(hs:sat h (A1t b last A::R)):(A.map (·.id)).Nodup:=by
 obtain⟨X,rfl,h1⟩:=z6.1 hs
 obtain⟨m,h2⟩:=r6.1 h1
 have:=h2.p1.bP
 rw[F1] at this
 rw[F1]
 exact this
def A97(b:Nat)(last:Int)(A:List V7)(s:V7)(ob ib:Nat):Asn:=exA fun x:List (Nat×V7)×List (Nat×V7)×Nat×Nat=>A0Q [pr ((x.1++(x.2.2.1,s)::x.2.1).map (·.2)=A),
 cells x.2.2.1 (B8m s ob ib),cells b #[.int .i64 last,.map (some x.2.2.2)],mapA eKI eVP x.2.2.2 ((x.1++(x.2.2.1,s)::x.2.1).map o9),Z9 (fun p=>A3G p.1 p.2) (x.1++x.2.1)]
theorem B0R{b:Nat}{last:Int}{A:List V7}{s:V7}{ob ib:Nat}:sat h (A97 b last A s ob ib::R)↔∃(l1 l2:List (Nat×V7)) (nb m:Nat),(l1++(nb,s)::l2).map (·.2)=A∧
  sat h (cells nb (B8m s ob ib)::cells b #[.int .i64 last,.map (some m)]::mapA eKI eVP m ((l1++(nb,s)::l2).map o9)::Z9 (fun p=>A3G p.1 p.2) (l1++l2)::R):=by
 unfold A97
 rw[sat.bA]
 simp only[sat.bV,G5,F2,sat.bC]
 exact⟨fun⟨x,hh⟩=>⟨x.1,x.2.1,x.2.2.1,x.2.2.2,hh⟩,fun⟨a,b,c,d,hh⟩=>⟨(a,b,c,d),hh⟩⟩
theorem A6o{b:Nat}{last:Int}{A:List V7}{s:V7}(hm:s∈A):∀h R,sat h (A1t b last A::R)→∃ob ib:Nat,sat h (A0m ob s.out::A0g ib s.aZ::A97 b last A s ob ib::R):=by
 intro h R hs
 obtain⟨X,rfl,h1⟩:=z6.1 hs
 obtain⟨⟨nb,s'⟩,hp,rfl⟩:=E4.1 hm
 obtain⟨l1,l2,rfl⟩:=H0 hp
 obtain⟨m,ob,ib,h2⟩:=B9q h1
 refine⟨ob,ib,?_⟩
 have h3:sat h (A97 b last ((l1++(nb,s')::l2).map (·.2)) s' ob ib::A0m ob s'.out::A0g ib s'.aZ::R):=B0R.2 ⟨l1,l2,nb,m,rfl,h2.re [2,3,4,5,0,1]⟩
 exact h3.re [1,2,0]
theorem A8q{l1 l2:List V7}{s:V7}{f:V7→V7}(hn:((l1++s::l2).map (·.id)).Nodup):X9 s.id f (l1++s::l2)=l1++f s::l2:=by
 unfold X9
 rw[C0,B6,G1] at hn
 have e1:l1.map (fun x=>if x.id=s.id then f x else x)=l1:=by
  have:l1.map (fun x=>if x.id=s.id then f x else x)=l1.map id:=I0 fun x hx=>if_neg (hn.2.2 _ (B3 hx) _ (B4 ..))
  rw[this,T5]
 have e2:l2.map (fun x=>if x.id=s.id then f x else x)=l2:=by
  have:l2.map (fun x=>if x.id=s.id then f x else x)=l2.map id:=I0 fun x hx=>by
   rw[if_neg (fun e:x.id=s.id=>(F8.1 hn.2.1).1 (e▸B3 (f:=(·.id)) hx))];rfl
  rw[this,T5]
 rw[C0,B6,e1,e2,if_pos rfl]
theorem B4L{b ob ib:Nat}{last:Int}{A:List V7}{s:V7}{o:Z5}{i:s6}:∀h,sat h (A0m ob o::A0g ib i::A97 b last A s ob ib::R)→sat h (A1t b last (X9 s.id (fun x=>{x with out:=o,aZ:=i}) A)::R):=by
 intro h hs
 obtain⟨l1,l2,nb,m,rfl,h1⟩:=B0R.1 (hs.re [2,0,1])
 have au:(((l1++(nb,s)::l2).map (·.2)).map (·.id)).Nodup:=by
  have:=(h1.re [2,0,1]).bP
  rw[F1] at this
  rw[F1]
  exact this
 rw[C0,B6] at au
 rw[C0,B6]
 have e0:=A8q (f:=fun x=>{x with out:=o,aZ:=i}) au
 rw[e0]
 refine z6.2 ⟨l1++(nb,{s with out:=o,aZ:=i})::l2,by simp,r6.2 ⟨m,?_⟩⟩
 have e:(l1++(nb,{s with out:=o,aZ:=i})::l2).map o9=(l1++(nb,s)::l2).map o9:=by simp[o9]
 rw[e]
 have h2:sat h (A3G nb {s with out:=o,aZ:=i}::Z9 (fun p=>A3G p.1 p.2) (l1++l2)::cells b #[.int .i64 last,.map (some m)]::mapA eKI eVP m ((l1++(nb,s)::l2).map o9)::R):=
  A1J.2 ⟨ob,ib,h1.re [0,4,5,3,1,2]⟩
 have h3:sat h (Z9 (fun p=>A3G p.1 p.2) (l1++(nb,{s with out:=o,aZ:=i})::l2)::cells b #[.int .i64 last,.map (some m)]::mapA eKI eVP m ((l1++(nb,s)::l2).map o9)::R):=j5.2 h2
 exact h3.re [1,2,0]
theorem C9i{b ob ib:Nat}{last:Int}{A:List V7}{s:V7}(hq:At (A0m ob s.out::A0g ib s.aZ::A97 b last A s ob ib::L3) (Q (at0 ob)))(hx:Has L (A0m ob s.out) L1:=by repeat first|with_reducible exact V0|apply V2)(hy:Has L1 (A0g ib s.aZ) L2:=by repeat first|with_reducible exact V0|apply V2)(hz:Has L2 (A97 b last A s ob ib) L3:=by repeat first|with_reducible exact V0|apply V2):
  FW prog 56 #[at0 b,.int .i64 s.id] L Q:=fun h hs=>by
 have h1:=(hx.cV hy hz).s hs
 have h2:=hq h h1
 obtain⟨l1,l2,nb,m,rfl,h3⟩:=B0R.1 (h1.re [2,0,1])
 exact C6j (p:=(nb,s)) (o:=s.out) rfl (h3.re [4,5,0,1,2,3]) h2
theorem C9J{b ob ib:Nat}{last:Int}{A:List V7}{s:V7}(hq:At (A0m ob s.out::A0g ib s.aZ::A97 b last A s ob ib::L3) (Q (at0 ib)))(hx:Has L (A0m ob s.out) L1:=by repeat first|with_reducible exact V0|apply V2)(hy:Has L1 (A0g ib s.aZ) L2:=by repeat first|with_reducible exact V0|apply V2)(hz:Has L2 (A97 b last A s ob ib) L3:=by repeat first|with_reducible exact V0|apply V2):
  FW prog 106 #[at0 b,.int .i64 s.id] L Q:=fun h hs=>by
 have h1:=(hx.cV hy hz).s hs
 have h2:=hq h h1
 obtain⟨l1,l2,nb,m,rfl,h3⟩:=B0R.1 (h1.re [2,0,1])
 exact C7e (p:=(nb,s)) (o:=s.out) rfl (h3.re [4,5,0,1,2,3]) h2
theorem C32{k:Int}{A:List V7}{s:V7}(h:A46 k A=some s):s∈A∧s.id=k:=⟨G7 h,by simpa using N0 h⟩
theorem C33{k:Int}{A:List V7}(h:A46 k A=none):∀s∈A,s.id≠k:=fun s hs=>by simpa using E7.1 h s hs
theorem C31{k:Int}{A:List V7}{s t:V7}(hn:(A.map (·.id)).Nodup)(h:A46 k A=some s)(ht:t∈A)(hk:t.id=k):t=s:=by
 obtain⟨h1,h2⟩:=C32 h
 obtain⟨l1,l2,rfl⟩:=H0 h1
 rw[C0,B6,G1] at hn
 rcases C9.1 ht with hm|hm
 ·exact absurd (hk.trans h2.symm) (hn.2.2 _ (B3 hm) _ (B4 ..))
 ·rcases D3.1 hm with rfl|hm
  ·rfl
  ·exact absurd (B3 (f:=(·.id)) hm) (by rw[hk,←h2];exact(F8.1 hn.2.1).1)
theorem B5Q{l1 l2:List V7}{s:V7}(hn:((l1++s::l2).map (·.id)).Nodup):(l1++s::l2).filter (fun x=>decide (x.id≠s.id))=l1++l2:=by
 rw[C0,B6,G1] at hn
 rw[F3,G0 (by simp)]
 have e1:l1.filter (fun x=>decide (x.id≠s.id))=l1:=G9.2 fun x hx=>by
  have:=hn.2.2 _ (B3 (f:=(·.id)) hx) _ (B4 ..)
  simpa using this
 have e2:l2.filter (fun x=>decide (x.id≠s.id))=l2:=G9.2 fun x hx=>by
  have:x.id≠s.id:=fun e=>(F8.1 hn.2.1).1 (e▸B3 (f:=(·.id)) hx)
  simpa using this
 rw[e1,e2]
theorem C7F{b:Nat}{last:Int}{A:List V7}{k:Int}(hq:At (A1t b last (A4F k A).2::L1) (Q (.bool (A4F k A).1)))(hx:Has L (A1t b last A) L1:=by repeat first|with_reducible exact V0|apply V2):FW prog 95 #[at0 b,.int .i64 k] L Q:=fun h hs=>by
 have h1:=hx.s hs
 have au:=C2x h1
 obtain⟨X,rfl,h2⟩:=z6.1 h1
 unfold A4F at hq
 have none_of:(∀p∈X,p.2.id≠k)→A46 k (X.map (·.2))=none:=fun ax=>E7.2 fun s hs=>by
  obtain⟨p,hp,rfl⟩:=E4.1 hs
  simpa using ax p hp
 have some_of:∀p∈X,p.2.id=k→A46 k (X.map (·.2))=some p.2:=fun p hp hk=>by
  cases hg:A46 k (X.map (·.2)) with
  |none=>exact absurd hk (C33 hg p.2 (B3 hp))
  |some s=>rw[C31 au hg (B3 hp) hk]
 refine C6n h2 (fun ax=>?_) (fun p hp hk dH=>?_) (fun l1 p l2 he hk aP ew h' af=>?_) (fun l1 p l2 he hk aP ew h' af=>?_)
 ·rw[none_of ax] at hq
  exact hq h h1
 ·rw[some_of p hp hk] at hq
  simp only[dH,if_true] at hq
  exact hq h h1
 ·subst he
  rw[some_of p (by simp) hk] at hq
  simp only[aP,ew,if_true,if_neg (show ¬(true=false) by decide)] at hq
  refine hq h' (z6.2 ⟨_,?_,af⟩)
  subst hk
  rw[C0,B6,C0,B6]
  rw[C0,B6] at au
  rw[A8q au]
  rfl
 ·subst he
  rw[some_of p (by simp) hk] at hq
  simp only[aP,ew,if_neg (show ¬(true=false) by decide),if_neg (show ¬(false=true) by decide)] at hq
  refine hq h' (z6.2 ⟨_,?_,af⟩)
  subst hk
  rw[C0,C0,B6]
  rw[C0,B6] at au
  rw[B5Q au]
end
section
open Go.H Go.Proofs
variable {h h0:Heap} {L L' L1 L2 L3 R:List Asn} {Q:Value→Heap→Prop}
instance:Enc Z8 3:=⟨A0P,A3Y,by decide⟩
instance:Enc A0c 3:=⟨A3T,A7E,by decide⟩
instance:Enc C12 4:=⟨C5N,C23,by decide⟩
instance:Enc eS 1:=⟨A1F,B4C,by decide⟩
theorem B1v{c:B3O}{A:List V7}{s:V7}(h:ofS c A=some s):s∈A∧s.aC=c:=⟨G7 h,by simpa using N0 h⟩
theorem C5e{c:B3O}{A:List V7}(h:ofS c A=none):∀s∈A,s.aC≠c:=fun s hs=>by simpa using E7.1 h s hs
theorem A86{α β:Type}{f:α→β}{A:List α}(hn:(A.map f).Nodup){s t:α}(hs:s∈A)(ht:t∈A)(e:f s=f t):s=t:=by
 obtain⟨l1,l2,rfl⟩:=H0 hs
 rw[C0,B6,G1] at hn
 rcases C9.1 ht with hm|hm
 ·exact absurd e.symm (hn.2.2 _ (B3 hm) _ (B4 ..))
 ·rcases D3.1 hm with rfl|hm
  ·rfl
  ·exact absurd (B3 (f:=f) hm) (by rw[←e];exact(F8.1 hn.2.1).1)
theorem B1u{c:B3O}{A:List V7}{s:V7}(hn:(A.map (·.aC)).Nodup)(hs:s∈A)(hc:s.aC=c):ofS c A=some s:=by
 cases hg:ofS c A with
 |none=>exact absurd hc (C5e hg s hs)
 |some t=>
  obtain⟨h1,h2⟩:=B1v hg
  rw[A86 (f:=(·.aC)) hn h1 hs (h2.trans hc.symm)]
theorem C2A{b:Nat}{last:Int}{A:List V7}{c:B3O}(hn:(A.map (·.aC)).Nodup)(hq:At (A1t b last A::L1) (Q (B7M ((ofS c A).map A00))))(hx:Has L (A1t b last A) L1:=by repeat first|with_reducible exact V0|apply V2):
  FW prog 55 #[at0 b,.string c] L Q:=fun h hs=>by
 obtain⟨X,rfl,h1⟩:=z6.1 (hx.s hs)
 refine C4A h1 (fun ax h' af=>?_) (fun p hp hc h' af=>?_)
 ·have e:ofS c (X.map (·.2))=none:=E7.2 fun s hs=>by
   obtain⟨p,hp,rfl⟩:=E4.1 hs
   simpa using ax p hp
  rw[e] at hq
  exact hq h' (z6.2 ⟨X,rfl,af⟩)
 ·rw[B1u hn (B3 hp) hc] at hq
  exact hq h' (z6.2 ⟨X,rfl,af⟩)
def v7(last:Int)(A:List V7)(c:B3O)(clean aN:Bool):(Int×Int×Bool)×Int×List V7:=
 if ¬a8 c then((133,0,false),last,A)
 else match ofS c A with
  |some s=>if clean=false then((0,s.id,true),last,X9 s.id (fun s=>{s with on:=true,aN:=aN}) A)
   else((0,last+1,false),last+1,A.filter (fun x=>decide (x.id≠s.id))++[A2w (last+1) c aN])
  |none=>if 32≤A.length then((151,0,false),last,A) else((0,last+1,false),last+1,A++[A2w (last+1) c aN])
theorem B9y{b:Nat}{last:Int}{A:List V7}{c:B3O}{clean aN:Bool}(ht:U8 h0)(hsz:c.size≤9223372036854775807)(tG:0≤last)(fa:last<4611686018427387904)(hid:∀s∈A,s.id≤last)(hn:(A.map (·.aC)).Nodup)
  (hq:At (A1t b (v7 last A c clean aN).2.1 (v7 last A c clean aN).2.2::old h0::L2) (Q (.tuple #[.int .i64 (v7 last A c clean aN).1.2.1,.bool (v7 last A c clean aN).1.2.2,.int .u8 (v7 last A c clean aN).1.1])))
  (hx:Has L (A1t b last A) L1:=by repeat first|with_reducible exact V0|apply V2)(hy:Has L1 (old h0) L2:=by repeat first|with_reducible exact V0|apply V2):
  FW prog 69 #[at0 b,.string c,.bool clean,.bool aN] L Q:=fun h hs=>by
 have hg:=(hx.then hy).s hs
 have au:=C2x hg
 obtain⟨X,rfl,h1⟩:=z6.1 hg
 unfold v7 at hq
 have none_of:(∀p∈X,p.2.aC≠c)→ofS c (X.map (·.2))=none:=fun ax=>E7.2 fun s hs=>by
  obtain⟨p,hp,rfl⟩:=E4.1 hs
  simpa using ax p hp
 refine C2v h1 ht hsz tG fa (fun p hp=>hid p.2 (B3 hp)) (fun hb h' af=>?_) (fun qv ax hl h' af=>?_) (fun qv aQ l1 p l2 he hc h' af=>?_) (fun qv L0 hL nb h' af=>?_)
 ·rw[if_pos hb] at hq
  exact hq h' (z6.2 ⟨X,rfl,af⟩)
 ·rw[if_neg (by simpa using qv),none_of ax] at hq
  simp only[C2,if_pos hl] at hq
  exact hq h' (z6.2 ⟨X,rfl,af⟩)
 ·subst he
  rw[if_neg (by simpa using qv),B1u hn (s:=p.2) (by simp) hc] at hq
  simp only[aQ,if_true] at hq
  refine hq h' (z6.2 ⟨_,?_,af⟩)
  rw[C0,B6,C0,B6]
  rw[C0,B6] at au
  rw[A8q au]
 ·rw[if_neg (by simpa using qv)] at hq
  rcases hL with⟨ax,hl,rfl⟩|⟨aQ,l1,p,l2,rfl,hc,rfl⟩
  ·rw[none_of ax] at hq
   simp only[C2,if_neg (show ¬32≤L0.length by omega)] at hq
   exact hq h' (z6.2 ⟨_,by simp,af⟩)
  ·rw[B1u hn (s:=p.2) (by simp) hc] at hq
   simp only[aQ,if_neg (show ¬(true=false) by decide)] at hq
   refine hq h' (z6.2 ⟨_,?_,af⟩)
   rw[C0,B6] at au
   have e0:=B5Q au
   rw[←B6,←C0] at e0
   rw[e0,C0,C0]
   rfl
theorem C6D{b:Nat}{last:Int}{A:List V7}(fa:last<4611686018427387904)(hid:∀s∈A,0≤s.id∧s.id≤last)(hlen:A.length≤32)(hr:(A.map (·.id)).Pairwise (·< ·))
  (hq:∀S:Slc,At (U5 C12 4 S (A.map A00)::A1t b last A::L1) (Q (.slice S.a S.len S.cap)))(hx:Has L (A1t b last A) L1:=by repeat first|with_reducible exact V0|apply V2):FW prog 42 #[at0 b] L Q:=fun h hs=>by
 obtain⟨X,rfl,h1⟩:=z6.1 (hx.s hs)
 refine C4y h1 fa (fun p hp=>hid p.2 (B3 hp)) (by simpa using hlen) fun sl xs h' e1 e2 af=>?_
 have e:=C6P (by rw[F1] at hr;exact hr) e1 e2
 subst e
 have:=hq sl h'
 rw[F1] at this
 exact this ((z6.2 ⟨X,rfl,af.p1⟩:sat h' (A1t b last (X.map (·.2))::_)).p1)
theorem C4U(hq:∀b,At (A1t b 0 []::L) (Q (at0 b))):FW prog 27 #[] L Q:=fun h hs=>B9x hs fun b h' af=>hq b h' (z6.2 ⟨[],rfl,af⟩)
theorem C7S(hq:∀b,At (A1v b []::L) (Q (B1m b))):FW prog 29 #[.int .i64 64] L Q:=fun h hs=>B9F hs 64 fun b h' af=>hq b h' (A3P.2 ⟨[],Sto.nil (by decide),af⟩)
theorem C7R{b:Nat}{K:List j7}{m:j7}(ht:TP h0)(hsz:m.1.size≤9223372036854775807)(hq:At (A1v b (B0d 64 K m).2::old h0::L2) (Q (.int .u8 (B0d 64 K m).1)))(hx:Has L (A1v b K) L1:=by repeat first|with_reducible exact V0|apply V2)(hy:Has L1 (old h0) L2:=by repeat first|with_reducible exact V0|apply V2):
  FW prog 79 #[B1m b,vM m] L Q:=fun h hs=>by
 obtain⟨l,hl,h1⟩:=A3P.1 ((hx.then hy).s hs)
 have eX:=hl.set m
 refine C6g h1 ht hsz fun h' af=>?_
 rw[eX.1]
 exact hq h' (A3P.2 ⟨_,eX.2,af⟩)
theorem C5t{b:Nat}{K:List j7}{f:B3O}(ht:TP h0)(hsz:f.size≤9223372036854775807)(hq:∀S:Slc,At (U5 A0c 3 S (A56 K f)::A1v b K::old h0::L2) (Q (.slice S.a S.len S.cap)))(hx:Has L (A1v b K) L1:=by repeat first|with_reducible exact V0|apply V2)(hy:Has L1 (old h0) L2:=by repeat first|with_reducible exact V0|apply V2):
  FW prog 110 #[B1m b,.string f] L Q:=fun h hs=>by
 obtain⟨l,hl,h1⟩:=A3P.1 ((hx.then hy).s hs)
 refine C6k h1 ht hsz (hl.lenL (by decide)).1 hl.small fun sl h' af=>?_
 rw[hl.hit f] at af
 exact hq sl h' ((A3P.2 ⟨l,hl,af.p1⟩:sat h' (A1v b K::_)).p1)
theorem C6x(hq:∀b,At (o6 b []::L) (Q (at9 b))):FW prog 28 #[] L Q:=fun h hs=>C3m hs fun b h' af=>hq b h' af
theorem C3i{t:Nat}{E:List Ent}{n:B3O}(ht:TP h0)(hsz:n.size≤9223372036854775807)(hl:E.length≤10000)(hq:∀S:Slc,At (U5 Z8 3 S (E.filter fun x=>Y8 x.2.1 n)::o6 t E::old h0::L2) (Q (.slice S.a S.len S.cap)))(hx:Has L (o6 t E) L1:=by repeat first|with_reducible exact V0|apply V2)(hy:Has L1 (old h0) L2:=by repeat first|with_reducible exact V0|apply V2):
  FW prog 80 #[at9 t,.string n] L Q:=fun h hs=>B9r ht hsz hl ((hx.then hy).s hs) fun S h' af=>hq S h' af
theorem B9o{t:Nat}{E:List Ent}{id:Int}(ht:TP h0)(hl:E.length≤10000)(hq:At (o6 t (A1h id E)::old h0::L2) (Q (.int .i64 ((A53 id E).length:Nat))))(hx:Has L (o6 t E) L1:=by repeat first|with_reducible exact V0|apply V2)(hy:Has L1 (old h0) L2:=by repeat first|with_reducible exact V0|apply V2):
  FW prog 71 #[at9 t,.int .i64 id] L Q:=fun h hs=>C07 ht hl ((hx.then hy).s hs) fun h' af=>hq h' af
theorem C03{t:Nat}{E:List Ent}{id:Int}{f:B3O}(ht:TP h0)(hsz:f.size≤16777216)(hl:E.length≤10000)(hq:At (o6 t (A1L E id f)::old h0::L2) (Q (.bool (decide ((A1L E id f).length<E.length)))))(hx:Has L (o6 t E) L1:=by repeat first|with_reducible exact V0|apply V2)(hy:Has L1 (old h0) L2:=by repeat first|with_reducible exact V0|apply V2):
  FW prog 111 #[at9 t,.int .i64 id,.string f] L Q:=fun h hs=>B0S ht hsz (by omega) ((hx.then hy).s hs) fun h' af=>hq h' af
theorem C52{E:List Ent}{i:Nat}{x:Ent}{k:Int×B3O}(ha:Asc E)(hi:E[i]? =some x)(hk:b7 x=k):E.findIdx? (fun x=>decide (b7 x=k))=some i:=by
 rw[J5]
 obtain⟨ah,hx⟩:=E0.1 hi
 refine⟨ah,by simp[hx,hk],fun j hj hc=>?_⟩
 have h1:=Q5.1 ha j i (by omega) ah hj
 simp only[decide_eq_true_eq] at hc
 rw[hx,hk,hc] at h1
 exact absurd h1 (A9x.eO _)
theorem C6y{t:Nat}{E:List Ent}{id q:Int}{f:B3O}(ht:TP h0)(hsz:f.size≤9223372036854775807)(hl:E.length≤10000)(hq:At (o6 t (A2J E id f q).2::old h0::L2) (Q (.int .u8 (A2J E id f q).1)))(hx:Has L (o6 t E) L1:=by repeat first|with_reducible exact V0|apply V2)(hy:Has L1 (old h0) L2:=by repeat first|with_reducible exact V0|apply V2):
  FW prog 109 #[at9 t,C4F id f q] L Q:=fun h hs=>by
 have h1:=(hx.then hy).s hs
 have cA:=A81 h1
 unfold A2J at hq
 refine C3o ht hsz (by omega) h1 (fun hb h' af=>?_) (fun hb dV h' af=>?_) (fun hb q0 q1 i x hi hk h' af=>?_) (fun hb q0 q1 ax hc h' af=>?_) (fun hb q0 q1 ax hc h' af=>?_)
 ·rw[if_pos hb] at hq;exact hq h' af
 ·rw[if_neg (by simp[hb]),if_pos dV] at hq;exact hq h' af
 ·rw[if_neg (by simp[hb]),if_neg (by omega)] at hq
  have hf:E.findIdx? (fun x=>decide (b7 x=(id,f)))=some i:=C52 cA.2 hi hk
  rw[hf] at hq
  exact hq h' af
 ·rw[if_neg (by simp[hb]),if_neg (by omega),O4.2 (fun x hx=>by simpa using ax x hx)] at hq
  simp only[if_pos hc] at hq
  exact hq h' af
 ·rw[if_neg (by simp[hb]),if_neg (by omega),O4.2 (fun x hx=>by simpa using ax x hx)] at hq
  simp only[if_neg (show ¬64≤A08 E id by omega)] at hq
  exact hq h' af
end
section
open Go.H Go.Proofs
variable {h h0:Heap} {L L' L1 L2 L3 R:List Asn} {Q:Value→Heap→Prop}
def B2j(id:Int)(ps:List PkO)(l:List (Int×Tup tC)):List l4:=(l.filter fun x=>decide (x.2.1=id)).flatMap fun x=>ps.map fun p=>⟨x.1,p,false⟩
theorem B3X{id:Int}{l:List X2}:(l.map A0h).filter (fun x=>decide (x.2.1=id))=(l.filter fun x=>decide (x.aD=id)).map A0h:=by
 rw[R9];rfl
theorem C4S{id:Int}{ps:List PkO}{l:List X2}{done:List (Int×Tup tC)}(hp:done.Perm (l.map A0h))(hu:(l.filter fun x=>decide (x.aD=id)).length≤1):B2j id ps done=A1H l id ps:=by
 unfold B2j A1H
 have h1:=hp.filter fun x=>decide (x.2.1=id)
 rw[B3X] at h1
 generalize l.filter (fun x=>decide (x.aD=id))=k at hu h1
 match k,hu with
 |[],_=>rw[List.Perm.eq_nil h1];rfl
 |[x],_=>
  rw[B6,I4,List.perm_singleton] at h1
  rw[h1];rfl
theorem C36{id:Int}{l:List X2}{done rest:List (Int×Tup tC)}{q:Int×Tup tC}(hp:(done++q::rest).Perm (l.map A0h))(hu:(l.filter fun x=>decide (x.aD=id)).length≤1)(hq:q.2.1=id):done.filter (fun x=>decide (x.2.1=id))=[]:=by
 have h1:=(hp.filter fun x=>decide (x.2.1=id)).length_eq
 rw[B3X,C2,F3,G8 (by simpa using hq),B5,B8] at h1
 exact K9.1 (by omega)
def C42(c:Bool)(A:Asn)(L:List Asn):List Asn:=match c with
 |true=>A::L
 |false=>L
theorem B7f{c:Bool}{A:Asn}{L:List Asn}:Sub (C42 c A L) L:=by
 cases c
 ·exact Sub.rfl
 ·exact Sub.drop Sub.rfl
theorem C7y{t b:Nat}{full:Bool}{os os':List l4}{ps:List MsT}{so sp:Slc}(e:os'=os)(hs:sat h (cells t #[at0 b,.bool full,.slice so.a so.len so.cap,.slice sp.a sp.len sp.cap]::V9 .u8 so os::U5 Z6 5 sp ps::R)):sat h (thA t b full os' ps::R):=by
 subst e;exact A2z.2 ⟨so,sp,hs⟩
theorem C4R{id:Int}{ps:List PkO}{os:List l4}:os++B2j id ps []=os:=C1 _
theorem A3H{t b:Nat}{full:Bool}{T:U7}{id:Int}{S:Slc}{ps:List PkO}(hu:(T.b.aB.filter fun x=>decide (x.aD=id)).length≤1)(hb:T.outs.length+ps.length≤100000000)
  (hq:At (X7 t b full (p6 id ps T)::L2) (Q (.tuple #[])))(hx:Has L (X7 t b full T) L1:=by repeat first|with_reducible exact V0|apply V2)(hy:Has L1 (p7 .u8 S ps) L2:=by repeat first|with_reducible exact V0|apply V2):
  FW prog 72 #[at0 t,.int .i64 id,.slice S.a S.len S.cap] L Q:=by
 refine fun h hs=>A5l (some ⟨t,0,none⟩) id S h Q ((?_:W (X7 t b full T::p7 .u8 S ps::L2) _ _) h ((hx.then hy).s hs))
 clear hs h hx hy
 delta A4w az bn cx A0N ie ix ji km kp nn nw pu sn vi wi
 refine W4 ?_
 refine C2n (fun h R=>A0T.1) ?_
 refine A8Y (fun h R=>A2z.1) fun so sp=>?_
 refine W.load (v:=some ⟨b,0,none⟩) ?_
 refine W4 ?_
 refine A2m (fun h R=>A2d.1) fun p=>?_
 refine W.load (v:=some p.cm) ?_
 refine W.range fun it=>?_
 refine B19 (A:=thA t b full (T.outs++B2j id ps []) T.aT) (fun h hs=>C7y C4R hs) ?_
 refine C8v (ek:=eKI) (ev:=eVC) (r:=p.cm) (l:=T.b.aB.map A0h) (fun done _=>thA t b full (T.outs++B2j id ps done) T.aT::cells b (A8i p)::A1t p.tb T.b.last T.b.aD::o6 p.sb T.b.aH::A1v p.kb T.b.kept::C42 (done.filter fun x=>decide (x.2.1=id)).isEmpty (p7 .u8 S ps) L2) ?_ (fun done s hp K hd=>?_) (fun done q rest s hp K bx hd=>?_)
 ·show Sub _ (_::thA t b full (T.outs++B2j id ps []) T.aT::cells b (A8i p)::A1t p.tb T.b.last T.b.aD::o6 p.sb T.b.aH::A1v p.kb T.b.kept::p7 .u8 S ps::L2)
  repeat(first|with_reducible exact T6|with_reducible exact T7|refine T8 (by repeat first|with_reducible exact V0|apply V2) ?_|refine U0 ?_)
 ·refine W6 rfl (U2 (hd () _ (U2 ?_)))
  rw[C4S hp hu]
  refine At.fA (A:=A1c b T.b) (fun h hs=>A2d.2 ⟨p,hs⟩) (At.cY (A:=X7 t b full (p6 id ps T)) (fun h hs=>A0T.2 hs) (At.sub hq (Sub.cons V0 B7f)) (V2 V0) V0)
 ·refine X6 rfl ?_
  refine W.entry (x:=q.1) (y:=q.2) ?_
  refine Y1 fun gE=>?_
  refine y8 ?_
  refine W.load (v:=q.2.1) ?_
  by_cases dV:q.2.1=id
  ·refine A1k (by simpa using dV) ?_
   have dq:=C36 hp hu dV
   have e0:B2j id ps done=[]:=by unfold B2j;rw[dq];rfl
   have hn:=bx ()
   dsimp only at hn⊢
   have e2:(done++[q]).filter (fun x=>decide (x.2.1=id))=[q]:=by rw[F3,dq,G8 (by simpa using dV)];rfl
   have e3:B2j id ps (done++[q])=ps.map fun p=>⟨q.1,p,false⟩:=by unfold B2j;rw[e2];exact C1 _
   rw[e3,e2] at hn
   rw[e0,dq]
   refine B9j (fun h R=>A7e.1) (fun PT uq=>?_) (hx:=(by repeat first|with_reducible exact V0|apply V2:Has (_::_::_::_::_::_::_::p7 .u8 S ps::L2) _ _))
   subst uq
   refine X3 ?_
   refine Y9 (Y0 (enc:=W8 .u8) (size:=26) (s:=S) (xs:=PT.map pkF)) fun hl=>?_
   rw[C2] at hl hb
   refine B31 PT.length (fun i s=>s.1=(i:Int)) (fun i _=>thA t b full (T.outs++(PT.take i).map fun z=>⟨q.1,z.2.2,false⟩) T.aT::U5 (W8 .u8) 26 S (PT.map pkF)::Z9 (pkB .u8) (PT.drop i)::itA eKI eVC p.cm (T.b.aB.map A0h) it (done++[q]) rest::cells b (A8i p)::A1t p.tb T.b.last T.b.aD::o6 p.sb T.b.aH::A1v p.kb T.b.kept::L2) rfl ?_ (fun i s hi hI=>by rw[hI,hl];exact G6.2 (by omega)) (fun s hI K2 iA=>?_) (fun i s ah hI K2 jM iA=>?_)
   ·show Sub _ (thA t b full (T.outs++[]) T.aT::U5 (W8 .u8) 26 S (PT.map pkF)::Z9 (pkB .u8) PT::itA eKI eVC p.cm (T.b.aB.map A0h) it (done++[q]) rest::cells b (A8i p)::A1t p.tb T.b.last T.b.aD::o6 p.sb T.b.aH::A1v p.kb T.b.kept::L2)
    repeat(first|with_reducible exact T6|with_reducible exact T7|refine T8 (by repeat first|with_reducible exact V0|apply V2) ?_|refine U0 ?_)
   ·refine U2 (iA _ _ (b6 (U2 ?_)))
    have e4:(PT.take PT.length).map (fun z:Slc×Slc×PkO=>(⟨q.1,z.2.2,false⟩:l4))=(PT.map (·.2.2)).map fun p=>⟨q.1,p,false⟩:=by rw[F9,F1];rfl
    rw[e4]
    refine At.sub hn ?_
    show Sub _ (_::_::_::_::_::_::L2)
    repeat(first|with_reducible exact T6|with_reducible exact T7|refine T8 (by repeat first|with_reducible exact V0|apply V2) ?_|refine U0 ?_)
   ·have hi:(PT.map pkF)[i]? =some (pkF PT[i]):=by simp[ah]
    refine j4 (enc:=W8 .u8) (xs:=PT.map pkF) (i:=i) (by simpa using ah) (fun a ha=>?_) (he:=hI)
    refine B3d (x:=pkF PT[i]) (v:=pkF PT[i]) ha hi ?_
    refine Y1 fun fE=>?_
    refine y8 ?_
    refine r7 (v:=pkF PT[i]) ?_
    rw[E1 ah]
    refine C2n (fun h R=>l3.1) ?_
    refine Z1 (C2z (full:=full) (os:=T.outs++(PT.take i).map fun z=>⟨q.1,z.2.2,false⟩) (ps:=T.aT) (b:=b) (o:=PT[i].2.2) (ci:=PT[i].1) (pi:=PT[i].2.1) (by rw[B5,C2,E6];omega) (At.bD ?_))
    have kV:=jM (IntKind.wrap .i64 (s.1+1),()) (by simp only[hI];rw[V8 (by omega) (by omega)];rfl)
    have e4:T.outs++(PT.take (i+1)).map (fun z:Slc×Slc×PkO=>(⟨q.1,z.2.2,false⟩:l4))=(T.outs++(PT.take i).map fun z=>⟨q.1,z.2.2,false⟩)++[⟨q.1,PT[i].2.2,false⟩]:=by
     rw[C7 ah,C0,←D2];rfl
    rw[e4] at kV
    exact U2 kV.sub
  ·refine o0 (by simpa using dV) ?_
   refine b6 (U2 ?_)
   have e5:(done++[q]).filter (fun x=>decide (x.2.1=id))=done.filter (fun x=>decide (x.2.1=id)):=by rw[F3,G0 (by simpa using dV),J9,C1]
   have e6:B2j id ps (done++[q])=B2j id ps done:=by unfold B2j;rw[e5]
   have hn:=bx ()
   rw[e6,e5] at hn
   refine At.sub hn ?_
   repeat(first|with_reducible exact T6|with_reducible exact T7|refine T8 (by repeat first|with_reducible exact V0|apply V2) ?_|refine U0 ?_)
end
section
open Go.H Go.Proofs
variable {h h0:Heap} {L L' L1 L2 L3 R:List Asn} {Q:Value→Heap→Prop}
theorem B0c{A:List V7}{s:V7}{k:Int}{f g:V7→V7}(hn:(A.map (·.id)).Nodup)(hm:s∈A)(hk:s.id=k)(e:f s=g s):X9 k f A=X9 k g A:=by
 unfold X9
 refine I0 fun x hx=>?_
 by_cases pH:x.id=k
 ·rw[if_pos pH,if_pos pH,A86 (f:=(·.id)) hn hx hm (pH.trans hk.symm)];exact e
 ·rw[if_neg pH,if_neg pH]
theorem A6n{b ob ib:Nat}{last k:Int}{A:List V7}{s:V7}{o:Z5}(hn:(A.map (·.id)).Nodup)(hm:s∈A)(hk:s.id=k):∀h,sat h (A0m ob o::A0g ib s.aZ::A97 b last A s ob ib::R)→sat h (A1t b last (X9 k (Y6 o) A)::R):=fun h hs=>by
 have h1:=B4L h hs
 rw[hk,B0c (f:=fun x=>{x with out:=o,aZ:=s.aZ}) (g:=Y6 o) hn hm hk rfl] at h1
 exact h1
theorem C4K{b ob ib:Nat}{last k:Int}{A:List V7}{s:V7}{i:s6}(hn:(A.map (·.id)).Nodup)(hm:s∈A)(hk:s.id=k):∀h,sat h (A0m ob s.out::A0g ib i::A97 b last A s ob ib::R)→sat h (A1t b last (X9 k (j2 i) A)::R):=fun h hs=>by
 have h1:=B4L h hs
 rw[hk,B0c (f:=fun x=>{x with out:=s.out,aZ:=i}) (g:=j2 i) hn hm hk rfl] at h1
 exact h1
theorem B3e{b ob ib:Nat}{last k:Int}{A:List V7}{s:V7}(hk:s.id=k)(hq:At (A0m ob s.out::A0g ib s.aZ::A97 b last A s ob ib::L3) (Q (at0 ob)))(hx:Has L (A0m ob s.out) L1:=by repeat first|with_reducible exact V0|apply V2)(hy:Has L1 (A0g ib s.aZ) L2:=by repeat first|with_reducible exact V0|apply V2)(hz:Has L2 (A97 b last A s ob ib) L3:=by repeat first|with_reducible exact V0|apply V2):
  FW prog 56 #[at0 b,.int .i64 k] L Q:=by subst hk;exact C9i hq hx hy hz
theorem C9j{b ob ib:Nat}{last k:Int}{A:List V7}{s:V7}(hk:s.id=k)(hq:At (A0m ob s.out::A0g ib s.aZ::A97 b last A s ob ib::L3) (Q (at0 ib)))(hx:Has L (A0m ob s.out) L1:=by repeat first|with_reducible exact V0|apply V2)(hy:Has L1 (A0g ib s.aZ) L2:=by repeat first|with_reducible exact V0|apply V2)(hz:Has L2 (A97 b last A s ob ib) L3:=by repeat first|with_reducible exact V0|apply V2):
  FW prog 106 #[at0 b,.int .i64 k] L Q:=by subst hk;exact C9J hq hx hy hz
theorem C7T{i:Int}{tk rs:List Ent}{e:Ent}{rest:List Ent}(hz:tk++rs=e::rest)(he:e.1=i)(hs:(tk++rs).Pairwise fun a b=>a.1≤b.1)(h1:∀y∈tk,y.1=i)(h2:∀y∈rs.head?,y.1≠i):0<tk.length∧∀y∈rs,i<y.1:=by
 match tk,h1,hz with
 |[],_,hz=>
  rw[F2] at hz
  subst hz
  exact absurd he (h2 e (by simp))
 |y0::tk,h1,hz=>
  refine⟨by simp,?_⟩
  have h0:=h1 y0 (B4 ..)
  rw[G5,I5] at hs
  match rs,h2,hs with
  |[],_,_=>intro y hy;cases hy
  |z::rs,h2,hs=>
   have dx:=hs.1 z (F6 _ (B4 ..))
   have gz:=h2 z (by simp)
   have hp:=(I8.1 hs.2).2.1
   rw[I5] at hp
   intro y hy
   rcases D3.1 hy with rfl|hy
   ·omega
   ·have:=hp.1 y hy;omega
theorem C3T{tk:List Ent}{y:Ent}:B8I (tk++[y])=max (B8I tk) y.2.2:=by unfold B8I;rw[List.foldl_append];rfl
theorem C5B{t b:Nat}{full:Bool}{T:U7}{m:MsT}(ht:TP h0)(ag:j8 T.b)(hb:T.outs.length≤50000000)(hm:m.1.size≤9223372036854775807)
  (hq:At (X7 t b full (A0t m T)::old h0::L2) (Q (.tuple #[])))(hx:Has L (X7 t b full T) L1:=by repeat first|with_reducible exact V0|apply V2)(hy:Has L1 (old h0) L2:=by repeat first|with_reducible exact V0|apply V2):
  FW prog 43 #[at0 t,vMs m] L Q:=by
 refine fun h hs=>A7M (some ⟨t,0,none⟩) (toU m) h Q ((?_:W (X7 t b full T::old h0::L2) _ _) h ((hx.then hy).s hs))
 clear hs h hx hy
 delta A6V bn cc cp cu cx ie ix jb ji jt ki kp nn nw pu rq ve vi vs
 refine Y1 fun x1=>?_
 refine W.load (v:=m.2.2.2.1) ?_
 refine W.cut (fun _=>X7 t b full (A1Q m T)::cells x1 (aS7 (toU m))::old h0::L2) (fun K hK=>?_) (fun _=>?_)
 ·refine A0i (fun hr=>?_) (fun hr=>?_)
  ·have e:A1Q m T=B9s (B0d 64 T.b.kept (m.1,m.2.1,m.2.2.1,())).2 T:=if_pos hr
   rw[e] at hK
   refine W4 ?_
   refine A6g (fun h R=>o5) fun so sp p=>?_
   refine W.load (v:=some ⟨b,0,none⟩) ?_
   refine W4 ?_
   refine W.load ?_
   refine W.load (v:=m.1) ?_
   refine W.load (v:=m.2.1) ?_
   refine W.load (v:=m.2.2.1) ?_
   refine j1 (C7R (b:=p.kb) (K:=T.b.kept) (m:=(m.1,m.2.1,m.2.2.1,())) ht hm (At.un (U2 ?_)))
   refine At.bG (B9s (B0d 64 T.b.kept (m.1,m.2.1,m.2.2.1,())).2 T) so sp p ?_
   exact(hK ()).sub
  ·have e:A1Q m T=T:=if_neg (by rw[hr];decide)
   rw[e] at hK
   exact U2 (hK ()).sub
 have hk:=B5D (m:=m) ag
 have cG:(A45 none (T.b.aH.filter fun x=>Y8 x.2.1 m.1)).foldl (A1g m (T.b.aH.filter fun x=>Y8 x.2.1 m.1)) (A1Q m T)=A0t m T:=rfl
 rw[←hk.aH] at cG
 have il:=hk.ok
 have gQ:(A1Q m T).outs.length≤50000000:=C4 hk.outs hb
 clear hk
 generalize A1Q m T=T0 at*
 refine W4 ?_
 refine A6g (fun h R=>o5) fun so sp p=>?_
 refine W.load (v:=some ⟨b,0,none⟩) ?_
 refine W4 ?_
 refine W.load ?_
 refine W.load (v:=m.1) ?_
 refine Y9 (fun h R hs=>(A81 (t:=p.sb) (L:=T0.b.aH) hs).2) fun fy=>?_
 refine j1 (C3i (t:=p.sb) (E:=T0.b.aH) (n:=m.1) ht hm il.aH (fun S=>At.un (x:=S) ?_))
 refine W.bG T0 so sp p ?_
 have bg:∀e∈T0.b.aH.filter (fun x=>Y8 x.2.1 m.1),e∈T0.b.aH:=fun e he=>(D5.1 he).1
 have oe:(T0.b.aH.filter fun x=>Y8 x.2.1 m.1).Pairwise fun a b=>a.1≤b.1:=(C8o fy).filter _
 have xS:(T0.b.aH.filter fun x=>Y8 x.2.1 m.1).length≤10000:=C4 (D4 _ _) il.aH
 generalize T0.b.aH.filter (fun x=>Y8 x.2.1 m.1)=M at*
 clear fy
 refine W.loop (γ:=List Ent×U7) (fun g s=>(∃done,M=done++g.1∧∀a∈done,∀y∈g.1,a.1<y.1)∧(A45 none g.1).foldl (A1g m M) g.2=A0t m T∧j8 g.2.b∧g.2.b.aH=T0.b.aH∧g.2.outs.length+320*g.1.length≤53200000)
  (fun g s=>X7 t b full g.2::U5 Z8 3 s.1 g.1::cells x1 (aS7 (toU m))::old h0::L2) (fun g=>g.1.length) (M,T0) ⟨⟨[],rfl,by simp⟩,cG,il,rfl,by simp only;omega⟩ ?_ ?_
 ·show Sub _ (X7 t b full T0::U5 Z8 3 S M::cells x1 (aS7 (toU m))::old h0::L2)
  repeat(first|with_reducible exact T6|with_reducible exact T7|refine T8 (by repeat first|with_reducible exact V0|apply V2) ?_|refine U0 ?_)
 rintro⟨rest,T1⟩ s ⟨⟨done,qW,gA⟩,fw,aL,iD,fU⟩ K h1 h2
 simp only at qW gA fw aL iD fU
 refine Y9 (Y0 (enc:=Z8) (size:=3) (s:=s.1) (xs:=rest)) fun hl=>?_
 cases rest with
 |nil=>
  refine W6 (by rw[hl];rfl) (U2 (h2 _ _ (U2 ?_)))
  have fw:T1=A0t m T:=fw
  rw[fw]
  exact hq.sub
 |cons e rest'=>
  refine X6 (by rw[hl];exact decide_eq_true (by simp only[B8];omega)) ?_
  refine j4 (enc:=Z8) (xs:=e::rest') (i:=0) (by simp) (fun a ha=>?_)
  refine A4r (k:=0) (x:=e) (v:=e.1) ha rfl ?_
  refine C8u (X:=List Ent×List Ent) (fun z a=>z.1++z.2=e::rest'∧(∀y∈z.1,y.1=e.1)∧(∀y∈z.2.head?,y.1≠e.1)∧a.1=B8I z.1) (fun z a=>X7 t b full T1::U5 Z8 3 a.2.1 z.2::cells x1 (aS7 (toU m))::old h0::L2) (fun K2 bd=>?_) (fun z a hz=>?_)
  ·refine C9e (γ:=List Ent×List Ent) (fun z s=>z.1++z.2=e::rest'∧(∀y∈z.1,y.1=e.1)∧s.1=B8I z.1) (fun z s=>X7 t b full T1::U5 Z8 3 s.2.1 z.2::cells x1 (aS7 (toU m))::old h0::L2) (fun z=>z.2.length) ([],e::rest') ⟨rfl,by simp,rfl⟩ ?_ ?_
   ·show Sub _ (X7 t b full T1::U5 Z8 3 s.1 (e::rest')::cells x1 (aS7 (toU m))::old h0::L2)
    repeat(first|with_reducible exact T6|with_reducible exact T7|refine T8 (by repeat first|with_reducible exact V0|apply V2) ?_|refine U0 ?_)
   rintro⟨tk,rs⟩ s2 ⟨dx,gz,lB⟩ K3 k1 k2
   simp only at dx gz lB
   refine Y9 (Y0 (enc:=Z8) (size:=3) (s:=s2.2.1) (xs:=rs)) fun fg=>?_
   cases rs with
   |nil=>exact o0 (by rw[fg];rfl) (b6 (W6 rfl (U2 (k2 _ _ (bd (tk,[]) _ ⟨dx,gz,by simp,lB⟩).sub))))
   |cons y rs'=>
    refine A1k (by rw[fg];exact decide_eq_true (by simp only[B8];omega)) ?_
    refine X3 (j4 (enc:=Z8) (xs:=y::rs') (i:=0) (by simp) (fun a2 dJ=>?_))
    refine X3 (A4r (k:=0) (x:=y) (v:=y.1) dJ rfl ?_)
    refine b6 ?_
    by_cases hy:y.1=e.1
    ·refine X6 (by simpa using hy) ?_
     refine j4 (enc:=Z8) (xs:=y::rs') (i:=0) (by simp) (fun a3 jT=>?_)
     refine A4r (k:=2) (x:=y) (v:=y.2.2) jT rfl ?_
     refine C9d (enc:=Z8) (xs:=y::rs') (lo:=1) (hi:=(y::rs').length) (by simp) (D9 _) (fun s'=>?_) ⟨rfl,by simp⟩ (fun c _ e=>e.symm)
     rw[F9,List.drop_one,List.tail_cons]
     have f1:∀z∈tk++[y],z.1=e.1:=fun z hz=>by
      rcases C9.1 hz with hz|hz
      ·exact gz z hz
      ·rw[B7.1 hz];exact hy
     have f2:(if s2.1<y.2.2 then y.2.2 else s2.1)=B8I (tk++[y]):=by
      rw[C3T,←lB];split<;>omega
     have f3:tk++[y]++rs'=e::rest':=by rw[D2];exact dx
     exact U2 (k1 (tk++[y],rs') _ (Nat.lt_succ_self _) ⟨f3,f1,f2⟩).sub
    ·have f4:∀z∈(y::rs').head?,z.1≠e.1:=by simpa using hy
     exact W6 (by simpa using hy) (U2 (k2 _ _ (bd (tk,y::rs') _ ⟨dx,gz,f4,lB⟩).sub))
  ·obtain⟨tk,rs⟩:=z
   obtain⟨dx,gz,lB,uE⟩:=hz
   simp only at dx gz lB uE
   have hg:=C7T dx rfl (by rw[dx];rw[qW] at oe;exact(I8.1 oe).2.1) gz lB
   have ft:A2E M e.1=B8I tk:=by
    rw[qW,←dx]
    refine C3J (fun y hy=>?_) gz (fun y hy=>?_)
    ·have:=gA y hy e (B4 ..);omega
    ·have:=hg.2 y hy;omega
   have iR:(if a.1<m.2.2.1 then a.1 else m.2.2.1)=min m.2.2.1 (A2E M e.1):=by rw[ft,uE];split<;>omega
   obtain⟨s3,aj,hid⟩:=aL.live e (by rw[iD];refine bg e ?_;rw[qW];exact F6 _ (B4 ..))
   have di:=A33 (aL.bO s3 aj) (m.1,m.2.1,min m.2.2.1 (A2E M e.1),false,e0S)
   have e9:A1g m M T1 e.1=p6 e.1 (Y3 s3.out (m.1,m.2.1,min m.2.2.1 (A2E M e.1),false,e0S)).1.2 (A0y (X9 e.1 (Y6 (Y3 s3.out (m.1,m.2.1,min m.2.2.1 (A2E M e.1),false,e0S)).1.1) T1.b.aD) T1):=by
    unfold A1g A0F
    rw[A3p aL.nd aj hid]
   have bq:=B0y (m:=m) (l:=M) T1 e.1 aL
   have xf:=congrArg List.length dx
   simp only[B5,B8] at xf fU
   have ay:∀s',At (X7 t b full (A1g m M T1 e.1)::U5 Z8 3 s' rs::cells x1 (aS7 (toU m))::old h0::L2) (K (.inl (s',()))):=fun s'=>by
    refine h1 (rs,A1g m M T1 e.1) (s',()) ?_ ⟨⟨done++tk,?_,?_⟩,?_,bq.ok,bq.aH.trans iD,?_⟩
    ·simp only[B8];have:=hg.1;omega
    ·rw[qW,←dx,D2]
    ·intro x hx y hy
     rcases C9.1 hx with hx|hx
     ·exact gA x hx y (by rw[←dx];exact F6 _ hy)
     ·rw[gz x hx];exact hg.2 y hy
    ·rw[C1M rfl dx gz lB] at fw
     exact fw
    ·have:=bq.outs
     have:=hg.1
     simp only
     omega
   rw[e9] at ay
   clear hq fw gA h1 h2
   refine W4 ?_
   refine A6g (fun h R=>o5) fun so sp p=>?_
   refine W.load (v:=some ⟨b,0,none⟩) ?_
   refine W4 ?_
   refine W.load (v:=some ⟨p.tb,0,none⟩) ?_
   refine W.load (v:=m.1) ?_
   refine W.load (v:=m.2.1) ?_
   refine W.load (v:=m.2.2.1) ?_
   rw[iR]
   refine A8Y (fun h R=>A6o aj h R) fun ob ib=>?_
   refine A7Q ?_ ?_
   ·refine j1 (B3e hid (At.un ?_))
    repeat(first|refine b6 ?_|refine X3 ?_|refine Y1 fun _=>?_|refine W.load ?_|refine B4u ?_|refine e8 ?_|(refine r7 ?_;try dsimp only)|(refine A7R ?_;try dsimp only)|refine y8 ?_|refine W.store ?_|refine W.store0 ?_|refine A4j ?_|refine A1p ?_ rfl|refine A1k rfl ?_|refine o0 rfl ?_|refine X6 rfl ?_|refine W6 rfl ?_|refine W.inl ?_|refine W.inr ?_|refine W4 ?_|refine o0 (Go.H.nbq _) ?_|refine W6 (Go.H.nbq _) ?_|refine o0 (Go.H.nbd rfl) ?_|refine W6 (Go.H.nbd rfl) ?_)
    refine Z1 (B4y (b:=ob) (o:=s3.out) (m:=(m.1,m.2.1,min m.2.2.1 (A2E M e.1),false,e0S)) (aL.bO s3 aj) (fun S2=>At.bD (x:=(S2,(Y3 s3.out (m.1,m.2.1,min m.2.2.1 (A2E M e.1),false,e0S)).2,())) ?_))
    refine B19 (A:=A1t p.tb T1.b.last (X9 e.1 (Y6 (Y3 s3.out (m.1,m.2.1,min m.2.2.1 (A2E M e.1),false,e0S)).1.1) T1.b.aD)) (fun h hs=>A6n aL.nd aj hid h hs) ?_
    refine W.bG (A0y (X9 e.1 (Y6 (Y3 s3.out (m.1,m.2.1,min m.2.2.1 (A2E M e.1),false,e0S)).1.1) T1.b.aD) T1) so sp p ?_
    refine Z1 (A3H (T:=(A0y (X9 e.1 (Y6 (Y3 s3.out (m.1,m.2.1,min m.2.2.1 (A2E M e.1),false,e0S)).1.1) T1.b.aD) T1)) (id:=e.1) (ps:=(Y3 s3.out (m.1,m.2.1,min m.2.2.1 (A2E M e.1),false,e0S)).1.2) (aL.one e.1) (by have:=di.2;show T1.outs.length+_≤_;omega) (At.bD ?_))
    exact U2 (ay _).sub
   ·repeat(first|refine b6 ?_|refine X3 ?_|refine Y1 fun _=>?_|refine W.load ?_|refine B4u ?_|refine e8 ?_|(refine r7 ?_;try dsimp only)|(refine A7R ?_;try dsimp only)|refine y8 ?_|refine W.store ?_|refine W.store0 ?_|refine A4j ?_|refine A1p ?_ rfl|refine A1k rfl ?_|refine o0 rfl ?_|refine X6 rfl ?_|refine W6 rfl ?_|refine W.inl ?_|refine W.inr ?_|refine W4 ?_|refine o0 (Go.H.nbq _) ?_|refine W6 (Go.H.nbq _) ?_|refine o0 (Go.H.nbd rfl) ?_|refine W6 (Go.H.nbd rfl) ?_)
    refine j1 (B3e hid (At.un ?_))
    repeat(first|refine b6 ?_|refine X3 ?_|refine Y1 fun _=>?_|refine W.load ?_|refine B4u ?_|refine e8 ?_|(refine r7 ?_;try dsimp only)|(refine A7R ?_;try dsimp only)|refine y8 ?_|refine W.store ?_|refine W.store0 ?_|refine A4j ?_|refine A1p ?_ rfl|refine A1k rfl ?_|refine o0 rfl ?_|refine X6 rfl ?_|refine W6 rfl ?_|refine W.inl ?_|refine W.inr ?_|refine W4 ?_|refine o0 (Go.H.nbq _) ?_|refine W6 (Go.H.nbq _) ?_|refine o0 (Go.H.nbd rfl) ?_|refine W6 (Go.H.nbd rfl) ?_)
    refine Z1 (B4y (b:=ob) (o:=s3.out) (m:=(m.1,m.2.1,min m.2.2.1 (A2E M e.1),false,e0S)) (aL.bO s3 aj) (fun S2=>At.bD (x:=(S2,(Y3 s3.out (m.1,m.2.1,min m.2.2.1 (A2E M e.1),false,e0S)).2,())) ?_))
    refine B19 (A:=A1t p.tb T1.b.last (X9 e.1 (Y6 (Y3 s3.out (m.1,m.2.1,min m.2.2.1 (A2E M e.1),false,e0S)).1.1) T1.b.aD)) (fun h hs=>A6n aL.nd aj hid h hs) ?_
    refine W.bG (A0y (X9 e.1 (Y6 (Y3 s3.out (m.1,m.2.1,min m.2.2.1 (A2E M e.1),false,e0S)).1.1) T1.b.aD) T1) so sp p ?_
    refine Z1 (A3H (T:=(A0y (X9 e.1 (Y6 (Y3 s3.out (m.1,m.2.1,min m.2.2.1 (A2E M e.1),false,e0S)).1.1) T1.b.aD) T1)) (id:=e.1) (ps:=(Y3 s3.out (m.1,m.2.1,min m.2.2.1 (A2E M e.1),false,e0S)).1.2) (aL.one e.1) (by have:=di.2;show T1.outs.length+_≤_;omega) (At.bD ?_))
    exact U2 (ay _).sub
end
section
open Go.H Go.Proofs
variable {h h0:Heap} {L L' L1 L2 L3 R:List Asn} {Q:Value→Heap→Prop}
theorem B7w{t b:Nat}{full:Bool}{T:U7}{m:MsT}(ht:TP h0)(ag:j8 T.b)(hb:T.outs.length≤50000000)(hp:T.aT.length≤1000000000)(hm:m.1.size≤9223372036854775807)
  (hq:At (X7 t b full (A3f m T)::old h0::L2) (Q (.tuple #[])))(hx:Has L (X7 t b full T) L1:=by repeat first|with_reducible exact V0|apply V2)(hy:Has L1 (old h0) L2:=by repeat first|with_reducible exact V0|apply V2):
  FW prog 96 #[at0 t,vMs m] L Q:=by
 refine fun h hs=>A5m (some ⟨t,0,none⟩) (toU m) h Q ((?_:W (X7 t b full T::old h0::L2) _ _) h ((hx.then hy).s hs))
 clear hs h hx hy
 have fu:((A0t m T).aT.length+1)*64≤140737488355328:=by rw[A7w];omega
 have hq:At (X7 t b full (⟨(A0t m T).b,(A0t m T).outs,(A0t m T).aT++[m]⟩:U7)::old h0::L2) (Q (.tuple #[])):=hq
 delta A4x az bn cx g7 kc nn nw pu rq sx vs
 refine Y1 fun x1=>?_
 refine r7 (v:=toU m) ?_
 refine Z1 (C5B (m:=m) ht ag hb hm (At.bD ?_))
 generalize A0t m T=T1 at*
 refine W4 ?_
 refine A6g (fun h R=>o5) fun so sp p=>?_
 refine e8 (b:=t) (i:=3) (v:=sp) ?_
 refine r7 (v:=toU m) ?_
 refine Y1 fun x7=>?_
 refine e8 (b:=t) (i:=3) (v:=sp) ?_
 refine A1p ?_ rfl
 refine A9I (xs:=T1.aT) (enc:=Z6) (s:=sp) m (fun s'=>?_) fu
 refine W4 ?_
 refine A4j (b:=t) (i:=3) (cs':=#[at0 b,.bool full,.slice so.a so.len so.cap,.slice s'.a s'.len s'.cap]) ?_
 refine W.bG (⟨T1.b,T1.outs,T1.aT++[m]⟩:U7) so s' p ?_
 exact U2 hq.sub
theorem A3N(l:List X2)(c:Int):W3 (l.map A0h) c=(A1o c l).map B71:=by
 unfold W3 A1o
 induction l with
 |nil=>rfl
 |cons x l ih=>
  rw[B6,List.find?_cons,List.find?_cons]
  by_cases hx:x.c=c
  ·simp[hx]
  ·simp only[A0h,hx,decide_false]
   exact ih
theorem C3S{l:List X2}{c:Int}(hn:(l.map (·.c)).Nodup):mdel (l.map A0h) c=(l.filter fun y=>decide (y.c≠c)).map A0h:=by
 have jO:((l.map A0h).map (·.1)).Nodup:=by rw[F1];exact hn
 rw[A1C jO,R9]
 rfl
theorem B4F{m:Nat}{l:List X2}(hs:sat h (mapA eKI eVC m (l.map A0h)::R)):(l.map (·.c)).Nodup:=by
 have:=hs.bP
 rw[F1] at this
 exact this
theorem kKI:KeyLaw (Instr.sameNow (.int .i64)) eKI:=B8O .i64
theorem C21{t b:Nat}{full:Bool}{T:U7}{c:Int}{aX:Bool}(ht:TP h0)(ag:j8 T.b)(hb:T.outs.length≤50000000)(hp:T.aT.length≤1000000000)
  (hq:At (X7 t b full (A3S full c aX T)::old h0::L2) (Q (.tuple #[])))(hx:Has L (X7 t b full T) L1:=by repeat first|with_reducible exact V0|apply V2)(hy:Has L1 (old h0) L2:=by repeat first|with_reducible exact V0|apply V2):
  FW prog 54 #[at0 t,.int .i64 c,.bool aX] L Q:=by
 refine fun h hs=>A8h (some ⟨t,0,none⟩) c aX h Q ((?_:W (X7 t b full T::old h0::L2) _ _) h ((hx.then hy).s hs))
 clear hs h hx hy
 unfold A3S at hq
 delta A76 ad bn cb ci cx g7 ie jb ji kb km kp nn nw pu sn vi
 refine W4 ?_
 refine A6g (fun h R=>o5) fun so sp p=>?_
 refine W.load (v:=some ⟨b,0,none⟩) ?_
 refine W4 ?_
 refine W.load (v:=some p.cm) ?_
 refine Y9 (fun h R hs=>B4F (m:=p.cm) (l:=T.b.aB) hs) fun au=>?_
 refine W.lookup (kind:=.agg tC) kKI c ?_
 rw[A3N]
 cases hg:A1o c T.b.aB with
 |none=>
  rw[hg] at hq
  refine Y1 fun x6=>?_
  refine y8 ?_
  refine X6 rfl ?_
  refine W.bG T so sp p ?_
  exact U2 hq.sub
 |some x=>
  rw[hg] at hq
  simp only at hq
  refine Y1 fun x6=>?_
  refine y8 ?_
  refine W.cells (b:=x6) (lS4 (B71 x)).toArray ?_
  refine W6 rfl ?_
  refine W4 ?_
  refine W.load (v:=some ⟨b,0,none⟩) ?_
  refine W4 ?_
  refine W.load (v:=some p.cm) ?_
  refine W.mdel kKI c ?_
  rw[C3S au]
  refine W4 ?_
  refine W.load (v:=some ⟨b,0,none⟩) ?_
  refine W4 ?_
  refine W.load (v:=some ⟨p.tb,0,none⟩) ?_
  refine W.load (v:=x.aD) ?_
  refine j1 (C7F (b:=p.tb) (A:=T.b.aD) (k:=x.aD) (At.un ?_))
  have h1:=B81 (k:=x.aD) (ag.conn fun y=>decide (y.c≠c)) (ag.gone hg)
  rw[B4B] at hq h1
  simp only at hq h1
  refine W.cut (fun _=>X7 t b full (tB ⟨T.b.last,(A4F x.aD T.b.aD).2,if(A4F x.aD T.b.aD).1=true then A1h x.aD T.b.aH else T.b.aH,T.b.kept,T.b.aB.filter fun y=>decide (y.c≠c)⟩ T)::cells x6 (lS4 (B71 x)).toArray::old h0::L2) (fun K hK=>?_) (fun _=>?_)
  ·refine A0i (fun hd=>?_) (fun hd=>?_)
   ·rw[if_pos hd] at hK
    refine W4 ?_
    refine W.load (v:=some ⟨b,0,none⟩) ?_
    refine W4 ?_
    refine W.load ?_
    refine W.load (v:=x.aD) ?_
    refine j1 (B9o (t:=p.sb) (E:=T.b.aH) (id:=x.aD) ht ag.aH (At.un (U2 ?_)))
    refine At.bG (tB ⟨T.b.last,(A4F x.aD T.b.aD).2,A1h x.aD T.b.aH,T.b.kept,T.b.aB.filter fun y=>decide (y.c≠c)⟩ T) so sp p ?_
    exact(hK ()).sub
   ·rw[if_neg (by rw[hd];decide)] at hK
    refine U2 ?_
    refine At.bG (tB ⟨T.b.last,(A4F x.aD T.b.aD).2,T.b.aH,T.b.kept,T.b.aB.filter fun y=>decide (y.c≠c)⟩ T) so sp p ?_
    exact(hK ()).sub
  have sM:=(ag.wl x (A1x hg).1).1
  clear au hg
  generalize(if(A4F x.aD T.b.aD).1=true then A1h x.aD T.b.aH else T.b.aH)=subs' at*
  generalize(A4F x.aD T.b.aD).2=ses' at*
  generalize T.b.aB.filter (fun y=>decide (y.c≠c))=conns' at*
  cases aX with
  |false=>
   rw[if_neg (by simp)] at hq
   exact o0 rfl (b6 (o0 rfl (b6 (U2 hq.sub))))
  |true=>
   refine A1k rfl ?_
   refine X3 (W.load (v:=x.bE) ?_)
   cases eK:x.bE with
   |false=>
    rw[if_neg (by simp[eK])] at hq
    exact o0 rfl (b6 (o0 rfl (b6 (U2 hq.sub))))
   |true=>
    refine A1k rfl ?_
    refine X3 (W4 ?_)
    refine A6g (fun h R=>o5) fun gg fi p2=>?_
    refine X3 (W.load (v:=full) ?_)
    refine b6 ?_
    refine W.bG (tB ⟨T.b.last,ses',subs',T.b.kept,conns'⟩ T) gg fi p2 ?_
    cases full with
    |true=>
     rw[if_neg (by simp)] at hq
     exact o0 rfl (b6 (U2 hq.sub))
    |false=>
     rw[if_pos ⟨rfl,eK,rfl⟩] at hq
     refine A1k rfl ?_
     refine X3 (A7R (v:=toU x.aX) ?_)
     refine X3 (Z1 (B7w (T:=tB ⟨T.b.last,ses',subs',T.b.kept,conns'⟩ T) (m:=x.aX) ht h1.1 hb hp sM (At.bD ?_)))
     exact b6 (U2 hq.sub)
theorem B66{α:Type}{m:HM α}{Q':α→Heap→Prop}{k:IntKind}(o:PkO)(hc:o.cB=[])(hp:o.props=[])(hw:W (pkB k (⟨none,0,0⟩,⟨none,0,0⟩,o)::L) m Q'):W L m Q':=fun h hs=>hw h (A3g hc hp hs)
theorem A8v{t b:Nat}{full:Bool}{T:U7}{c code:Int}(ht:TP h0)(ag:j8 T.b)(hb:T.outs.length<50000000)(hp:T.aT.length≤1000000000)
  (hq:At (X7 t b full (A0v full c code T)::old h0::L2) (Q (.tuple #[])))(hx:Has L (X7 t b full T) L1:=by repeat first|with_reducible exact V0|apply V2)(hy:Has L1 (old h0) L2:=by repeat first|with_reducible exact V0|apply V2):
  FW prog 68 #[at0 t,.int .i64 c,.int .u8 code] L Q:=by
 refine fun h hs=>A6b (some ⟨t,0,none⟩) c code h Q ((?_:W (X7 t b full T::old h0::L2) _ _) h ((hx.then hy).s hs))
 clear hs h hx hy
 unfold A0v at hq
 delta A49 cx pu ve vi vz
 refine B66 (k:=.u8) (j3 14 0 code) rfl rfl ?_
 refine Z1 (B9f (T:=T) (c:=c) (o:=j3 14 0 code) (ci:=⟨none,0,0⟩) (pi:=⟨none,0,0⟩) (by omega) (At.bD ?_))
 refine Z1 (C21 (T:=A0s ⟨c,j3 14 0 code,true⟩ T) (c:=c) (aX:=true) ht ag (by show(T.outs++[_]).length≤_;rw[B5];simp only[B8,H2];omega) hp (At.bD ?_))
 exact U2 hq.sub
end
end Go.Proofs.YtidlldnlphdhcaaGreatDoor