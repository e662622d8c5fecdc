/-
  Our texts, packed by program.
-/
import Derived.Test.YtidlldnlphdhcaaGreatDoorQBrokerOnce3
set_option linter.unusedSimpArgs false
set_option linter.unusedVariables false
set_option maxHeartbeats 16000000
set_option maxRecDepth 100000
set_option synthInstance.maxSize 100000
set_option synthInstance.maxHeartbeats 400000
namespace Go.Proofs.YtidlldnlphdhcaaGreatDoor
open Go.H
open Go.Proofs.Tryz
section
open Go.H Go.Proofs
variable {h h0:Heap} {R:List Asn}
def j8(t:Nat)(L:List Ent):Asn:=exA fun x:Nds×List (Int×Int)=>star (pr (A1a x.1 L∧B0o x.2 L)) (trM t x.1 x.2)
theorem y9{t:Nat}{L:List Ent}:sat h (j8 t L::R)↔∃N C,A1a N L∧B0o C L∧sat h (trM t N C::R):=by
 unfold j8
 rw[sat.bA]
 constructor
 ·rintro⟨⟨N,C⟩,hs⟩
  rw[sat.aI,sat.bB] at hs
  exact⟨N,C,hs.1.1,hs.1.2,hs.2⟩
 ·rintro⟨N,C,h1,h2,hs⟩
  refine⟨(N,C),?_⟩
  rw[sat.aI,sat.bB]
  exact⟨⟨h1,h2⟩,hs⟩
theorem B6S(L:List Ent)(k:Int):A1e L k≤L.length:=by
 unfold A1e
 have:=List.count_le_length (a:=k) (l:=L.map (·.1))
 simpa using this
theorem C31(hs:sat h R){Q:Value→Heap→Prop}(hq:∀t h',sat h' (j8 t []::R)→Q (at9 t) h'):V4 prog 28 #[] h Q:=by
 refine B9X hs fun t nd h' h1 h2 af=>hq t h' (y9.2 ⟨_,_,⟨by simp,List.Pairwise.nil,?_⟩,?_,af⟩)
 ·intro p k q
  constructor
  ·intro he
   exfalso
   unfold ent at he
   rw[Y5,B5S] at he
   by_cases e:([]:Path)=p
   ·rw[if_pos e] at he
    rw[N6,h1] at he
    simp at he
   ·rw[if_neg e] at he
    simp at he
  ·rintro⟨f,-,hm⟩
   simp at hm
 ·intro k
  simp[A1e]
theorem C33{t:Nat}{L:List Ent}(ht:TP h0){id q:Int}{f:B38}(hsz:f.size≤9223372036854775807)(hl:L.length≤100000)(hs:sat h (j8 t L::old h0::R)){Q:Value→Heap→Prop}
  (an:X6 f=false→∀h',sat h' (j8 t L::old h0::R)→Q (.int .u8 143) h')
  (ft:X6 f=true→(q<0∨2<q)→∀h',sat h' (j8 t L::old h0::R)→Q (.int .u8 155) h')
  (cR:X6 f=true→0≤q→q≤2→∀i x,L[i]? =some x→b8 x=(id,f)→∀h',sat h' (j8 t (L.set i (id,f,q))::old h0::R)→Q (.int .u8 0) h')
  (ax:X6 f=true→0≤q→q≤2→(∀x∈L,b8 x≠(id,f))→64≤A1e L id→∀h',sat h' (j8 t L::old h0::R)→Q (.int .u8 151) h')
  (iZ:X6 f=true→0≤q→q≤2→(∀x∈L,b8 x≠(id,f))→A1e L id<64→∀h',sat h' (j8 t (A2y ltK b8 (id,f,q) L)::old h0::R)→Q (.int .u8 0) h'):
  V4 prog 109 #[at9 t,C5i id f q] h Q:=by
 obtain⟨N,C,hA,hC,aa⟩:=y9.1 hs
 have hg:=hC.getD id
 refine C66 ht hsz aa (fun h1 h' af=>an h1 h' (y9.2 ⟨N,C,hA,hC,af⟩)) (fun h1 h2 h' af=>ft h1 h2 h' (y9.2 ⟨N,C,hA,hC,af⟩)) (fun h1 h2 h3 q0 h4 N' h' h5 af=>?_)
  (fun h1 h2 h3 h4 h5 h' af=>ax h1 h2 h3 ((hA.none f id).1 h4) (by rw[hg] at h5;omega) h' (y9.2 ⟨N,C,hA,hC,af⟩)) (fun h1 h2 h3 h4 h5 N' h' h6 af=>?_)
 ·have hm:=(hA.get f id q0).1 h4
  obtain⟨i,hi⟩:=List.mem_iff_getElem?.1 hm
  refine cR h1 h2 h3 i _ hi rfl h' (y9.2 ⟨N',C,hA.set hi rfl h1 h5,fun k=>?_,af⟩)
  rw[C6B (A7n (e:=(id,f,q)) hi rfl)]
  exact hC k
 ·have ay:=(hA.none f id).1 h4
  rw[hg] at h5 af
  rw[V8 (by have:=B6S L id;omega) (by have:=B6S L id;omega)] at af
  exact iZ h1 h2 h3 ay (by omega) h' (y9.2 ⟨N',_,hA.ins ay h1 h6,hC.ins (id,f,q),af⟩)
theorem B4S{t:Nat}{N:Nds}{C:List (Int×Int)}(hs:sat h (trM t N C::R)):(C.map (·.1)).Nodup∧∀p nd,W4 N p=some nd→(nd.q.map (·.1)).Nodup∧(nd.nx.map (·.1)).Nodup:=by
 obtain⟨rb,cm,hT,aa⟩:=A1I.1 hs
 exact⟨aa.p2.bJ,fun p nd hp=>A6Z hp aa.p1⟩
theorem B1b{t:Nat}{L:List Ent}(ht:TP h0){id:Int}{f:B38}(hsz:f.size≤16777216)(hl:L.length≤100000)(hs:sat h (j8 t L::old h0::R)){Q:Value→Heap→Prop}
  (hq:∀h',sat h' (j8 t (A1R L id f)::old h0::R)→Q (.bool (decide ((A1R L id f).length<L.length))) h'):
  V4 prog 111 #[at9 t,.int .i64 id,.string f] h Q:=by
 obtain⟨N,C,hA,hC,aa⟩:=y9.1 hs
 have hg:=hC.getD id
 refine C1v ht hsz aa (fun hn h' af=>?_) (fun q0 iQ N' h' hN af=>?_)
 ·have ay:=(hA.none f id).1 hn
  have e:=C4S ay
  rw[e] at hq
  have:=hq h' (y9.2 ⟨N,C,hA,hC,af⟩)
  simpa using this
 ·have hm:=(hA.get f id q0).1 iQ
  have ah:(A1R L id f).length<L.length:=by
   have:=B9N hA.dF hm id
   rw[if_pos rfl] at this
   refine Nat.lt_of_le_of_ne (D3 _ _) fun e=>?_
   have:=N7.1 e _ hm
   simp at this
  have ym:=hC.del hA.dF (B4S aa).1 hm
  rw[hg] at af
  rw[V8 (by have:=B6S L id;omega) (by have:=B6S L id;omega)] at af
  have:=hq h' (y9.2 ⟨N',_,hA.del hN,ym,af⟩)
  rw[decide_eq_true ah] at this
  exact this
end
section
open Go.H Go.Proofs Go.Lib
variable {h h0:Heap} {R:List Asn}
theorem B7f{s t:Slc}{xs ys:List B38}(hr:Z8 eS 1 h s xs)(ht:Z8 eS 1 h t ys)(hl:xs.length≤1000000){Q:Value→Heap→Prop}(hq:Q (.bool (eqL xs ys)) h):
  V4 prog 37 #[.slice s.a s.len s.cap,.slice t.a t.len t.cap,.func (.func 38) #[] #[]] h Q:=by
 refine A7m s t _ h Q ?_
 delta A6G bn ie ix lt pu wi
 have rS:=hr.1
 have ah:=ht.1
 (try dsimp only);rw[U9]
 by_cases bF:xs.length=ys.length
 ·rw[if_neg (by simp[rS,ah,bF])]
  (try dsimp only);rw[U2]
  refine o0 (γ:=Nat) (fun g c h'=>h'=h∧c.1=(((xs.length-g:Nat)):Int)∧g≤xs.length∧eqL xs ys=eqL (xs.drop (xs.length-g)) (ys.drop (xs.length-g))) (fun g=>g) xs.length ⟨rfl,by simp,D8 _,by simp⟩ ?_
  rintro g ⟨c,⟨⟩⟩ h' ⟨rfl,hc,hg,hf⟩
  simp only at hc
  subst hc
  (try dsimp only);rw[U9]
  by_cases hi:xs.length-g<xs.length
  ·rw[if_pos (by simp only[decide_eq_true_eq,rS];omega)]
   obtain⟨x,hx⟩:∃x,xs[xs.length-g]? =some x:=⟨_,B0 hi⟩
   obtain⟨y,hy⟩:∃y,ys[xs.length-g]? =some y:=⟨_,B0 (by omega)⟩
   rw[A65 hx,A65 hy] at hf
   (try dsimp only);rw[U2]
   refine X9 hr hx fun a ha=>?_
   refine⟨x,by have:=ha 0 (.string x) rfl;rwa[Go.H.add_zero] at this,?_⟩
   (try dsimp only);rw[U2]
   refine X9 ht hy fun a' i'=>?_
   refine⟨y,by have:=i' 0 (.string y) rfl;rwa[Go.H.add_zero] at this,?_⟩
   refine⟨38,#[],#[],rfl,call38,?_⟩
   refine A8G x y h' _ ?_
   delta A8H bn ie pu
   have fin:∀z:Bool,z=(decide (x=u3)||decide (x=y))→(if(!z)=true then Q (.bool false) h' else Go.H.Next (fun g (c:Int×Unit) aR=>aR=h'∧c.1=(((xs.length-g:Nat)):Int)∧g≤xs.length∧eqL xs ys=eqL (xs.drop (xs.length-g)) (ys.drop (xs.length-g))) (fun g=>g) g (IntKind.wrap .i64 ((((xs.length-g:Nat)):Int)+1),()) h'):=by
    rintro z rfl
    simp only[eqL] at hf
    have aA:xs.length-g+1=xs.length-(g-1):=by omega
    rw[aA] at hf
    cases hz:(decide (x=u3)||decide (x=y)) with
    |false=>
     rw[hz,J7] at hf
     rw[hf] at hq
     rw[if_pos (by rfl)]
     exact hq
    |true=>
     rw[hz,G4] at hf
     rw[if_neg (by simp)]
     exact .mk (g-1) (by omega) ⟨rfl,by simp only;rw[V8 (by omega) (by omega)];omega,by omega,hf⟩
   refine V5 (fun z aR=>aR=h'∧z.1=(decide (x=u3)||decide (x=y))) ?_ ?_
   ·(try dsimp only);rw[U9]
    by_cases h1:x=u3
    ·rw[if_pos (by simpa[u3] using h1)]
     exact⟨rfl,by simp[h1]⟩
    ·rw[if_neg (by simpa[u3] using h1)]
     exact⟨rfl,by simp[h1]⟩
   rintro⟨z,⟨⟩⟩ aR ⟨rfl,hz⟩
   refine⟨z,rfl,?_⟩
   have ca:=fin z hz
   (try dsimp only);rw[U9]
   by_cases uP:(!z)=true
   ·rw[if_pos uP] at ca⊢
    exact ca
   ·rw[if_neg uP] at ca⊢
    exact ca
  ·rw[if_neg (by simp only[decide_eq_true_eq,rS];omega)]
   simp only[D5,E7,V2]
   have h1:xs.drop (xs.length-g)=[]:=by simp;omega
   have h2:ys.drop (xs.length-g)=[]:=by simp;omega
   rw[h1,h2] at hf
   rw[hf] at hq
   exact hq
 ·have nW:∀(xs ys:List B38),xs.length≠ys.length→eqL xs ys=false:=by
   intro xs
   induction xs with
   |nil=>intro ys hh;cases ys with
    |nil=>exact absurd rfl hh
    |cons=>rfl
   |cons x xs ih=>intro ys hh;cases ys with
    |nil=>rfl
    |cons y ys=>simp only[eqL,ih ys (by simpa using hh),Bool.and_false]
  rw[nW xs ys bF] at hq
  rw[if_pos (by simp[rS,ah];omega)]
  exact hq
theorem A71(b c:UInt8):((b.toNat:Int)==(c.toNat:Int))=decide (b=c):=by
 by_cases h:b=c
 ·simp[h]
 ·rw[decide_eq_false h]
  simp only[H7,ne_eq]
  intro e
  exact h (UInt8.toNat_inj.1 (by omega))
theorem B7c(hs:sat h (old h0::R))(ht:TP h0){f n:B38}(la:f.size≤9223372036854775807)(rR:n.size≤9223372036854775807){Q:Value→Heap→Prop}
  (hq:∀h',sat h' (old h0::R)→Q (.bool (Y1 f n)) h'):V4 prog 14 #[.string f,.string n] h Q:=by
 refine B08 f n h Q ?_
 delta B3E bn cb cc cu ie ix lt pu vs wi
 refine V5 (fun x h'=>sat h' (old h0::R)∧x.1= !(X6 f&&Z6 n)) ?_ ?_
 ·refine U7 (A7f hs ht la fun h1 aa=>⟨_,rfl,?_⟩)
  unfold B0i
  (try dsimp only);rw[U9]
  cases hf:X6 f with
  |false=>rw[if_pos (by rfl)];exact⟨aa,rfl⟩
  |true=>
   rw[if_neg (by simp)]
   refine U7 (A3C aa ht rR fun h2 ae=>⟨_,rfl,?_⟩)
   unfold A2X
   cases hn:Z6 n<;>exact⟨ae,rfl⟩
 rintro⟨x,⟨⟩⟩ h1 ⟨aa,hx⟩
 simp only at hx
 subst hx
 unfold Y1 at hq
 (try dsimp only);rw[U9]
 cases ag:(X6 f&&Z6 n) with
 |false=>
  rw[ag] at hq
  rw[if_pos (by rfl)]
  exact hq _ aa
 |true=>
 rw[ag,G4] at hq
 rw[if_neg (by simp)]
 rw[E9] at ag
 have jf:=A05.1 (u4 ag.1)
 have fa:=A05.1 (A4L ag.2)
 have xL:A4k (levels f)=true:=by
  have:=ag.1
  unfold X6 at this
  rw[E9] at this
  exact this.2
 refine V5 (fun x h'=>h'=h1∧x.1=A36 f n) ?_ ?_
 ·unfold A36
  refine⟨n.get! 0,by decide,A3x (k:=0) (by omega),?_⟩
  (try dsimp only);rw[U9]
  have wz:=A71 (n.get! 0) 36
  by_cases jS:n.get! 0=36
  ·rw[if_pos (by rw[show(36:Int)=((36:UInt8).toNat:Int) from rfl,wz,jS];rfl)]
   refine⟨0,1,⟨rfl,by omega⟩,rfl,?_⟩
   (try dsimp only);rw[U9]
   by_cases eu:f.get! 0=43
   ·rw[if_pos (by simpa using(B3k jf.2.1 43).2 eu)]
    exact⟨rfl,by simp[jS,eu]⟩
   ·rw[if_neg (by simpa using fun e=>eu ((B3k jf.2.1 43).1 e))]
    refine⟨0,1,⟨rfl,by omega⟩,rfl,rfl,?_⟩
    have yr:decide (f.extract 0 1=ByteArray.mk #[35])=decide (f.get! 0=35):=by rw[G0];exact B3k jf.2.1 35
    simp only[jS,eu,decide_true,decide_false,G4,S3]
    exact yr
  ·rw[if_neg (by rw[show(36:Int)=((36:UInt8).toNat:Int) from rfl,wz];simpa using jS)]
   exact⟨rfl,by simp[jS]⟩
 rintro⟨x,⟨⟩⟩ h2 ⟨rfl,hx⟩
 simp only at hx
 subst hx
 (try dsimp only);rw[U9]
 cases iH:A36 f n with
 |true=>
  rw[iH] at hq
  rw[if_pos rfl]
  exact hq _ aa
 |false=>
 rw[iH,S6,G4,B5V _ _ (B26 f) xL] at hq
 rw[if_neg (by simp)]
 refine U7 (A4t aa ht jf.2.2.1 fun sf h3 aj=>⟨sf,rfl,?_⟩)
 refine U7 (A4t aj.p1 ht fa.2.2.1 fun sn h4 ak=>⟨sn,rfl,?_⟩)
 have qh:=ak.aO A1L
 have nK:=(ak.re [2,0,1]).aO A1L
 have ai:sat h4 (old h0::R):=(ak.re [0,2,1]).drop.drop
 have vD:(levels f).length≤32:=jf.2.2.2
 have jZ:(levels n).length≤32:=fa.2.2.2
 have bF:1≤(levels f).length:=by
  have:=A7B f
  omega
 clear ak aj
 generalize levels f=lf at*
 generalize levels n=ln at*
 have ff:=nK.1
 have fi:=qh.1
 have hw:IntKind.wrap .i64 ((sf.len:Int)-1)=((lf.length-1:Nat):Int):=by rw[ff,V8 (by omega) (by omega)];omega
 rw[hw]
 obtain⟨x,hx⟩:∃x,lf[lf.length-1]? =some x:=⟨_,B0 (by omega)⟩
 have da:B3x lf=decide (x=p7):=by unfold B3x;rw[hx];simp
 (try dsimp only);rw[U2]
 refine X9 nK hx fun a ha=>?_
 refine⟨x,by have:=ha 0 (.string x) rfl;rwa[Go.H.add_zero] at this,?_⟩
 refine V5 (fun x h'=>h'=h4∧Z8 eS 1 h4 x.1 (A69 lf)) ?_ ?_
 ·unfold A69
  (try dsimp only);rw[U9]
  by_cases hh:x=p7
  ·rw[if_pos (by simpa[p7] using hh),if_pos (by rw[da];simpa using hh)]
   (try dsimp only);rw[U2]
   exact B2F nK (by omega) fun s' af=>⟨rfl,af⟩
  ·rw[if_neg (by simpa[p7] using hh),if_neg (by rw[da];simpa using hh)]
   exact⟨rfl,nK⟩
 rintro⟨sc,⟨⟩⟩ h5 ⟨rfl,tx⟩
 simp only at tx
 have kX:=tx.1
 have bd:(A69 lf).length≤32:=by
  unfold A69
  split
  ·simp;omega
  ·exact vD
 refine V5 (fun x h'=>h'=h5∧x.1=decide (ln.length<(A69 lf).length∨(B3x lf=false∧(A69 lf).length<ln.length))) ?_ ?_
 ·(try dsimp only);rw[U9]
  by_cases hh:ln.length<(A69 lf).length
  ·rw[if_pos (by simp only[decide_eq_true_eq];omega)]
   exact⟨rfl,by simp[hh]⟩
  ·rw[if_neg (by simp only[decide_eq_true_eq];omega)]
   (try dsimp only);rw[U9]
   by_cases kP:x=p7
   ·rw[if_neg (by simpa[p7] using kP)]
    exact⟨rfl,by simp[hh,da,kP]⟩
   ·rw[if_pos (by simpa[p7] using kP)]
    refine⟨rfl,?_⟩
    simp only[G0,da,kP,decide_false,true_and]
    omega
 rintro⟨y,⟨⟩⟩ h6 ⟨rfl,hy⟩
 simp only at hy
 subst hy
 unfold B9i at hq
 (try dsimp only);rw[U9]
 by_cases hc:ln.length<(A69 lf).length∨(B3x lf=false∧(A69 lf).length<ln.length)
 ·rw[if_pos hc] at hq
  rw[if_pos (by simpa using hc)]
  exact hq _ ai
 ·rw[if_neg hc] at hq
  rw[if_neg (by simpa using hc)]
  (try dsimp only);rw[U2]
  refine B2F (n:=sc.len) qh (by omega) fun s' af=>?_
  rw[kX] at af
  (try dsimp only)
  refine U7 (B7f tx af (by omega) ⟨_,rfl,?_⟩)
  exact hq _ ai
end
section
open Go.Proofs Go.Shelf
def A8J:Go.Shelf.Ren:=⟨fun n=>match n with|6=>84|8=>130|9=>131|11=>187|13=>123|12=>188|23=>180|24=>181|14=>229|15=>230|16=>231|17=>232|18=>233|19=>234|20=>235|21=>236|22=>237|25=>260|26=>214|27=>215|28=>261|29=>262|30=>263|31=>271|n=>n,fun n=>match n with|26=>9|28=>216|24=>43|0=>0|3=>3|37=>263|48=>315|50=>317|4=>4|40=>308|39=>307|45=>180|5=>5|9=>9|51=>343|55=>347|57=>378|58=>361|33=>107|n=>n,fun n=>n⟩
theorem C3d:SlLaysZ.n6 prog A8J where
 mixed:=by kernel_rfl
 f6:=⟨f84.name,by kernel_rfl,func84.trans (congrArg some (by kernel_rfl))⟩
 f8:=⟨f130.name,by kernel_rfl,func130.trans (congrArg some (by kernel_rfl))⟩
 f11:=⟨f187.name,by kernel_rfl,func187.trans (congrArg some (by kernel_rfl))⟩
 t0:=underlying0
 a0:=isAgg0
 z0:=sizeOf0
 v0:=zeroValue0
 t24:=underlying43
 a24:=isAgg43
 z24:=sizeOf43
 v24:=zeroValue43
 t26:=underlying9
 a26:=isAgg9
 z26:=sizeOf9
 v26:=zeroValue9
 t28:=underlying216
 a28:=isAgg216
 z28:=sizeOf216
 v28:=zeroValue216
 i26:=by kernel_rfl
def B0t:Go.Shelf.Ren:=⟨fun n=>match n with|6=>131|8=>123|9=>188|19=>180|20=>181|21=>229|22=>230|23=>231|24=>232|25=>233|26=>234|27=>235|28=>236|29=>237|36=>260|31=>214|32=>215|37=>261|38=>262|39=>263|41=>271|n=>n,fun n=>match n with|27=>43|29=>9|3=>3|32=>263|26=>43|0=>0|44=>315|46=>317|4=>4|36=>308|35=>307|41=>180|5=>5|9=>9|53=>343|57=>347|63=>378|64=>361|n=>n,fun n=>n⟩
theorem C5w:SlLaysM.n6 prog B0t where
 mixed:=by kernel_rfl
 f6:=⟨f131.name,by kernel_rfl,func131.trans (congrArg some (by kernel_rfl))⟩
 f8:=func123.trans (congrArg some (by kernel_rfl))
 f9:=⟨f188.name,by kernel_rfl,func188.trans (congrArg some (by kernel_rfl))⟩
 f19:=func180.trans (congrArg some (by kernel_rfl))
 f20:=func181.trans (congrArg some (by kernel_rfl))
 f21:=⟨f229.name,by kernel_rfl,func229.trans (congrArg some (by kernel_rfl))⟩
 f22:=⟨f230.name,by kernel_rfl,func230.trans (congrArg some (by kernel_rfl))⟩
 f23:=⟨f231.name,by kernel_rfl,func231.trans (congrArg some (by kernel_rfl))⟩
 f24:=⟨f232.name,by kernel_rfl,func232.trans (congrArg some (by kernel_rfl))⟩
 f25:=⟨f233.name,by kernel_rfl,func233.trans (congrArg some (by kernel_rfl))⟩
 f26:=⟨f234.name,by kernel_rfl,func234.trans (congrArg some (by kernel_rfl))⟩
 f27:=⟨f235.name,by kernel_rfl,func235.trans (congrArg some (by kernel_rfl))⟩
 f28:=⟨f236.name,by kernel_rfl,func236.trans (congrArg some (by kernel_rfl))⟩
 f29:=⟨f237.name,by kernel_rfl,func237.trans (congrArg some (by kernel_rfl))⟩
 f31:=func214.trans (congrArg some (by kernel_rfl))
 f32:=func215.trans (congrArg some (by kernel_rfl))
 f36:=⟨Tryz.f260.name,by kernel_rfl,func260.trans (congrArg some (by kernel_rfl))⟩
 f37:=⟨f261.name,by kernel_rfl,func261.trans (congrArg some (by kernel_rfl))⟩
 f38:=⟨f262.name,by kernel_rfl,func262.trans (congrArg some (by kernel_rfl))⟩
 f39:=⟨f263.name,by kernel_rfl,func263.trans (congrArg some (by kernel_rfl))⟩
 f41:=⟨f271.name,by kernel_rfl,func271.trans (congrArg some (by kernel_rfl))⟩
 t0:=underlying0
 a0:=isAgg0
 z0:=sizeOf0
 v0:=zeroValue0
 t3:=underlying3
 a3:=isAgg3
 z3:=sizeOf3
 v3:=zeroValue3
 t4:=underlying4
 a4:=isAgg4
 z4:=sizeOf4
 v4:=zeroValue4
 t5:=underlying5
 a5:=isAgg5
 z5:=sizeOf5
 v5:=zeroValue5
 t9:=underlying9
 a9:=isAgg9
 z9:=sizeOf9
 v9:=zeroValue9
 t26:=underlying43
 a26:=isAgg43
 z26:=sizeOf43
 v26:=zeroValue43
 t27:=underlying43
 a27:=isAgg43
 z27:=sizeOf43
 v27:=zeroValue43
 t29:=underlying9
 a29:=isAgg9
 z29:=sizeOf9
 v29:=zeroValue9
 t32:=underlying263
 a32:=isAgg263
 z32:=sizeOf263
 v32:=zeroValue263
 t35:=underlying307
 a35:=isAgg307
 z35:=sizeOf307
 v35:=zeroValue307
 t36:=underlying308
 a36:=isAgg308
 z36:=sizeOf308
 v36:=zeroValue308
 t41:=underlying180
 a41:=isAgg180
 z41:=sizeOf180
 v41:=zeroValue180
 t44:=underlying315
 a44:=isAgg315
 z44:=sizeOf315
 v44:=zeroValue315
 t46:=underlying317
 a46:=isAgg317
 z46:=sizeOf317
 v46:=zeroValue317
 t53:=underlying343
 a53:=isAgg343
 z53:=sizeOf343
 v53:=zeroValue343
 t57:=underlying347
 a57:=isAgg347
 z57:=sizeOf347
 v57:=zeroValue347
 t63:=underlying378
 a63:=isAgg378
 z63:=sizeOf378
 v63:=zeroValue378
 t64:=underlying361
 a64:=isAgg361
 z64:=sizeOf361
 v64:=zeroValue361
open Go.Proofs Go.Shelf
def A7E:Go.Shelf.Ren:=⟨fun n=>match n with|7=>165|10=>212|n=>n,fun n=>match n with|23=>177|26=>9|3=>204|28=>216|0=>0|27=>215|33=>107|4=>4|n=>n,fun n=>n⟩
theorem C58:SlLaysZ.n7 prog A7E where
 mixed:=by kernel_rfl
 f7:=⟨Tryz.f165.name,by kernel_rfl,func165.trans (congrArg some (by kernel_rfl))⟩
 f10:=⟨f212.name,by kernel_rfl,func212.trans (congrArg some (by kernel_rfl))⟩
 t0:=underlying0
 a0:=isAgg0
 z0:=sizeOf0
 v0:=zeroValue0
 t4:=underlying4
 a4:=isAgg4
 z4:=sizeOf4
 v4:=zeroValue4
 t23:=underlying177
 a23:=isAgg177
 z23:=sizeOf177
 v23:=zeroValue177
 t26:=underlying9
 a26:=isAgg9
 z26:=sizeOf9
 v26:=zeroValue9
 t27:=underlying215
 a27:=isAgg215
 z27:=sizeOf215
 v27:=zeroValue215
 t28:=underlying216
 a28:=isAgg216
 z28:=sizeOf216
 v28:=zeroValue216
 t33:=underlying107
 a33:=isAgg107
 z33:=sizeOf107
 v33:=zeroValue107
open Go.H Go.Proofs Go.Lib
abbrev B1H(b:Nat):Value:=.pointer (some ⟨b,0,none⟩)
abbrev l3:=B38×B38×Int×Unit
abbrev kM:Kind:=.agg [.str,.str,.int .i64]
abbrev vM(m:l3):Value:=.agg #[.string m.1,.string m.2.1,.int .i64 m.2.2.1]
abbrev A0i(m:l3):D0u:=[.string m.1,.string m.2.1,.int .i64 m.2.2.1]
abbrev eKS(s:B38):Value:=.string s
def zM:l3:=(ByteArray.mk #[],ByteArray.mk #[],0,())
theorem A3Y:∀x:l3,(A0i x).length=3:=fun _=>rfl
theorem A7W:∀x:l3,∀v∈A0i x,v.oneCell'=true:=fun x v hv=>by
 simp only[A0i,D2,R1,or_false] at hv
 rcases hv with rfl|rfl|rfl<;>rfl
theorem C7z:∀a b:B38,eKS a=eKS b→a=b:=fun a b h=>by cases h;rfl
def B7k(b:Nat)(most:Int)(l:List (B38×l3)):Asn:=exA fun m:Nat=>star (cells b #[.int .i64 most,.map (some m)]) (mapA eKS (Kind.val kM) m l)
variable {h h0:Heap} {R:List Asn}
theorem A43{b:Nat}{most:Int}{l:List (B38×l3)}:sat h (B7k b most l::R)↔∃m:Nat,sat h (cells b #[.int .i64 most,.map (some m)]::mapA eKS (Kind.val kM) m l::R):=by
 unfold B7k
 rw[sat.bA]
 constructor
 ·rintro⟨m,hs⟩;exact⟨m,sat.aI.1 hs⟩
 ·rintro⟨m,hs⟩;exact⟨m,sat.aI.2 hs⟩
def B9f(n:Int):Int:=if 0<(if 64<n then 64 else n) then(if 64<n then 64 else n) else 0
theorem C0g(hs:sat h R)(n:Int){Q:Value→Heap→Prop}(hq:∀b h',sat h' (B7k b (B9f n) []::R)→Q (B1H b) h'):V4 prog 29 #[.int .i64 n] h Q:=by
 refine B2J n h Q ?_
 delta B5m az bn nw pu vi
 (try dsimp only);rw[U2]
 refine A5S (ek:=eKS) (ev:=Kind.val kM) hs fun m h1 aa=>?_
 refine V6 aa fun b h2 ae=>?_
 exact hq b h2 (A43.2 ⟨m,ae⟩)
def C4b(most:Int)(l:List (B38×l3))(m:l3):Int×List (B38×l3):=
 if Z6 m.1=false then(144,l)
 else if m.2.2.1<0∨2<m.2.2.1 then(155,l)
 else if m.2.1=ByteArray.mk #[] then(0,mdel l m.1)
 else if W4 l m.1=none∧most≤l.length then(151,l)
 else(0,mset l m.1 m)
theorem C6V{b:Nat}{most:Int}{l:List (B38×l3)}{m:l3}(hs:sat h (B7k b most l::old h0::R))(ht:TP h0)(hsz:m.1.size≤9223372036854775807){Q:Value→Heap→Prop}
  (hq:∀h',sat h' (B7k b most (C4b most l m).2::old h0::R)→Q (.int .u8 (C4b most l m).1) h'):V4 prog 79 #[B1H b,vM m] h Q:=by
 refine A7s (some ⟨b,0,none⟩) m h Q ?_
 obtain⟨mb,hs⟩:=A43.1 hs
 delta A6O az bn cu es ie ji jt ki km nn nw pu rq sn ve vi
 refine V6 hs fun x h1 aa=>?_
 (try dsimp only);rw[U9,if_neg (by simp)]
 refine⟨m.1,by rw[U4];exact aa.cell 0,?_⟩
 refine U7 (A3C (aa.re [3,0,1,2]) ht hsz fun h2 aQ=>⟨_,rfl,?_⟩)
 have ae:sat h2 (cells x #[.string m.1,.string m.2.1,.int .i64 m.2.2.1]::cells b #[.int .i64 most,.map (some mb)]::mapA eKS (Kind.val kM) mb l::old h0::R):=aQ.re [1,2,3,0]
 clear aQ aa hs
 have fin:∀{h'},sat h' (cells x #[.string m.1,.string m.2.1,.int .i64 m.2.2.1]::cells b #[.int .i64 most,.map (some mb)]::mapA eKS (Kind.val kM) mb l::old h0::R)→sat h' (B7k b most l::old h0::R):=fun hh=>A43.2 ⟨mb,hh.drop⟩
 unfold C4b at hq
 (try dsimp only);rw[U9]
 cases hn:Z6 m.1 with
 |false=>
  rw[if_pos hn] at hq
  rw[if_pos (by simp[A2X,hn])]
  exact hq _ (fin ae)
 |true=>
 rw[if_neg (by simp[hn])] at hq
 rw[if_neg (by simp[A2X,hn])]
 refine V5 (fun z h'=>h'=h2∧z.1=decide (m.2.2.1<0∨2<m.2.2.1)) ?_ ?_
 ·refine⟨m.2.2.1,by rw[U4];exact ae.cell 2,?_⟩
  (try dsimp only);rw[U9]
  by_cases h1:m.2.2.1<0
  ·rw[if_pos (by simpa using h1)]
   exact⟨rfl,by simp[h1]⟩
  ·rw[if_neg (by simpa using h1)]
   refine⟨m.2.2.1,by rw[U4];exact ae.cell 2,rfl,?_⟩
   simp[h1]
 rintro⟨z,⟨⟩⟩ h3 ⟨rfl,hz⟩
 simp only at hz
 subst hz
 (try dsimp only);rw[U9]
 by_cases dU:m.2.2.1<0∨2<m.2.2.1
 ·rw[if_pos dU] at hq
  rw[if_pos (by simpa using dU)]
  exact hq _ (fin ae)
 rw[if_neg dU] at hq
 rw[if_neg (by simpa using dU)]
 refine⟨m.2.1,by rw[U4];exact ae.cell 1,?_⟩
 (try dsimp only);rw[U9]
 by_cases hp:m.2.1=ByteArray.mk #[]
 ·rw[if_pos hp] at hq
  rw[if_pos (by simpa using hp)]
  refine⟨_,rfl,some mb,by rw[U4];exact ae.p1.cell 1,?_⟩
  refine⟨m.1,by rw[U4];exact ae.cell 0,?_⟩
  (try dsimp only);rw[U2]
  refine A55 A9t (ae.re [2,0,1]) fun h4 ak=>?_
  exact hq _ (A43.2 ⟨mb,(ak.re [1,2,0]).drop⟩)
 rw[if_neg hp] at hq
 rw[if_neg (by simpa using hp)]
 refine⟨_,rfl,some mb,by rw[U4];exact ae.p1.cell 1,?_⟩
 refine⟨m.1,by rw[U4];exact ae.cell 0,?_⟩
 (try dsimp only);rw[U2]
 refine y7 (kind:=kM) (z:=zM) A9t rfl (ae.re [2,0,1]) ?_
 refine V6 ae fun y h4 bh=>?_
 have ak:sat h4 (cells y #[.string (ByteArray.mk #[]),.string (ByteArray.mk #[]),.int .i64 0]::cells x #[.string m.1,.string m.2.1,.int .i64 m.2.2.1]::cells b #[.int .i64 most,.map (some mb)]::mapA eKS (Kind.val kM) mb l::old h0::R):=bh
 clear bh
 (try dsimp only);rw[U2]
 refine y7 (kind:=kM) (z:=zM) A9t rfl (ak.re [3,0,1,2]) ?_
 refine⟨rfl,?_⟩
 refine⟨m.1,by rw[U4];exact ak.p1.cell 0,rfl,?_⟩
 refine⟨some mb,by rw[U4];exact(ak.re [2,0,1]).cell 1,rfl,?_⟩
 (try dsimp only);rw[U2]
 refine l6 ak rfl rfl fun h5 fp=>?_
 have ai:sat h5 (cells x #[.string m.1,.string m.2.1,.int .i64 m.2.2.1]::cells b #[.int .i64 most,.map (some mb)]::mapA eKS (Kind.val kM) mb l::old h0::R):=fp.drop
 clear fp
 refine V5 (fun z h'=>h'=h5∧z.1=decide (W4 l m.1=none∧most≤l.length)) ?_ ?_
 ·(try dsimp only);rw[U9]
  cases hg:W4 l m.1 with
  |none=>
   rw[if_pos (by rfl)]
   refine⟨_,rfl,some mb,by rw[U4];exact ai.p1.cell 1,?_⟩
   (try dsimp only);rw[U2]
   refine A9q (ai.re [2,0,1]) ?_
   refine⟨_,rfl,most,by rw[U4];exact ai.p1.cell 0,rfl,?_⟩
   simp
  |some v=>
   rw[if_neg (by simp)]
   exact⟨rfl,by simp⟩
 rintro⟨z,⟨⟩⟩ h6 ⟨rfl,hz⟩
 simp only at hz
 subst hz
 (try dsimp only);rw[U9]
 by_cases hc:W4 l m.1=none∧most≤l.length
 ·rw[if_pos hc] at hq
  rw[if_pos (by simpa using hc)]
  exact hq _ (fin ai)
 rw[if_neg hc] at hq
 rw[if_neg (by simpa using hc)]
 refine⟨_,rfl,some mb,by rw[U4];exact ai.p1.cell 1,?_⟩
 refine⟨m.1,by rw[U4];exact ai.cell 0,?_⟩
 refine Y8 (ts:=[.str,.str,.int .i64]) m ai rfl ?_
 (try dsimp only);rw[U2]
 refine A34 (x:=m) A9t C7z (ai.re [2,0,1]) fun h7 aF=>?_
 exact hq _ (A43.2 ⟨mb,(aF.re [1,2,0]).drop⟩)
def B9s(l:List (B38×l3))(f:B38)(ns:List B38):List l3:=(ns.filter (Y1 f)).map fun n=>(W4 l n).getD zM
theorem C6Z{b:Nat}{most:Int}{l:List (B38×l3)}{f:B38}(hs:sat h (B7k b most l::old h0::R))(ht:TP h0)(hsz:f.size≤9223372036854775807)(hl:l.length≤64)(hk:∀p∈l,p.1.size≤256){Q:Value→Heap→Prop}
  (hq:∀(sl:Slc) h',sat h' (U6 A0i 3 sl (B9s l f (A44 (l.map (·.1))))::B7k b most l::old h0::R)→Q (.slice sl.a sl.len sl.cap) h'):V4 prog 110 #[B1H b,.string f] h Q:=by
 refine A6f (some ⟨b,0,none⟩) f h Q ?_
 obtain⟨mb,hs⟩:=A43.1 hs
 delta A5c az bn cb cc ie ix km lt nn nw pu ve vi wi
 (try dsimp only);rw[U9,if_neg (by simp)]
 refine⟨_,rfl,some mb,by rw[U4];exact hs.cell 1,?_⟩
 refine U7 ?_
 refine B51 (ρk:=A7E) C58 (some mb) ?_
 refine⟨_,rfl,?_⟩
 have ae:=(hs.bG (T:=A7E.t 23) (cs:=#[.map (some mb)]))
 refine U7 ?_
 refine B1c (ρk:=A7E) (ρs:=A8J) (ρt:=B0t) C58 C3d C5w rfl (enters_of func131 (by kernel_rfl) rfl) (enters_of func212 (by kernel_rfl) rfl) (ae.re [2,0,1])
  (fun p hp=>?_) (by omega) (ae.cell 0) fun sl h1 aj=>?_
 ·have:=hk p hp
  unfold maxLen
  omega
 have ak:=(aj.re [2,0,1,3,4]).drop
 clear aj ae hs
 have iq:(A44 (l.map (·.1))).length=l.length:=by simp[A44,O7]
 have al:∀n∈A44 (l.map (·.1)),n.size≤256:=by
  intro n hn
  unfold A44 at hn
  obtain⟨x,hx,rfl⟩:=E4.1 hn
  obtain⟨y,hy,rfl⟩:=E4.1 ((R0 _ _).mem_iff.1 hx)
  obtain⟨p,hp,rfl⟩:=E4.1 hy
  exact hk p hp
 generalize A44 (l.map (·.1))=ns at ak iq al hq
 have hlen:=ak.aW
 refine⟨sl,rfl,?_⟩
 (try dsimp only);rw[U2]
 refine o0 (γ:=Nat) (hb:=fun s=>by
   repeat' with_reducible first
    |refine @A0z _ _ _ _ ?_ (fun _=>?_)
    |refine @A07 _ _ _ _ ?_ ?_
   all_goals infer_instance)
  (fun g c h'=>c.2.1=(((ns.length-g:Nat)):Int)∧g≤ns.length∧sat h' (U6 A0i 3 c.1 (B9s l f (ns.take (ns.length-g)))::U6 eS 1 sl ns::cells b #[.int .i64 most,.map (some mb)]::mapA eKS (Kind.val kM) mb l::old h0::R)) (fun g=>g) ns.length
  ⟨by simp,D8 _,by
   rw[Q3]
   exact Z5 (ak.re [0,2,1])⟩ ?_
 rintro g ⟨out,c,⟨⟩⟩ h2 ⟨hc,hg,ai⟩
 simp only at hc ai
 subst hc
 (try dsimp only);rw[U9]
 by_cases hi:ns.length-g<ns.length
 ·rw[if_pos (by simp only[decide_eq_true_eq,hlen];omega)]
  obtain⟨n,hn⟩:∃n,ns[ns.length-g]? =some n:=⟨_,B0 hi⟩
  have rR:n.size≤256:=al n (F3 hn)
  have hw:IntKind.wrap .i64 ((((ns.length-g:Nat)):Int)+1)=((ns.length-(g-1):Nat):Int):=by rw[V8 (by omega) (by omega)];omega
  have fm:ns.take (ns.length-(g-1))=ns.take (ns.length-g)++[n]:=by
   rw[show ns.length-(g-1)=ns.length-g+1 by omega,I0,hn]
   rfl
  (try dsimp only);rw[U2]
  refine X9 (ai.p1.aO A1L) hn fun a ha=>?_
  refine⟨n,by have:=ha 0 (.string n) rfl;rwa[Go.H.add_zero] at this,?_⟩
  refine U7 (B7c (ai.re [4,0,1,2,3]) ht hsz (by omega) fun h3 gH=>⟨_,rfl,?_⟩)
  have aw:sat h3 (U6 A0i 3 out (B9s l f (ns.take (ns.length-g)))::U6 eS 1 sl ns::cells b #[.int .i64 most,.map (some mb)]::mapA eKS (Kind.val kM) mb l::old h0::R):=gH.re [1,2,3,4,0]
  clear gH ai
  refine V5 (fun z h'=>sat h' (U6 A0i 3 z.1 (B9s l f (ns.take (ns.length-(g-1))))::U6 eS 1 sl ns::cells b #[.int .i64 most,.map (some mb)]::mapA eKS (Kind.val kM) mb l::old h0::R)) ?_ ?_
  ·rw[fm]
   unfold B9s
   rw[F2,C0]
   (try dsimp only);rw[U9]
   cases hm:Y1 f n with
   |true=>
    rw[if_pos rfl]
    refine⟨_,rfl,some mb,by rw[U4];exact(aw.re [2,0,1]).cell 1,?_⟩
    (try dsimp only);rw[U2]
    refine y7 (kind:=kM) (z:=zM) A9t rfl (aw.re [3,0,1,2]) ?_
    have jE:(B9s l f (ns.take (ns.length-g))).length≤64:=by
     unfold B9s
     rw[C1]
     refine C7 (D3 _ _) ?_
     rw[E6]
     omega
    refine A1c (x:=(W4 l n).getD zM) A3Y A7W rfl aw (by decide) (by decide) (by omega) fun s' h4 aF=>?_
    simp only[H8,hm,if_true,J5,B6,I3]
    exact aF
   |false=>
    rw[if_neg (by simp)]
    simp only[H8,hm,H9,if_false,J5,I3,C2]
    exact aw
  rintro⟨z,⟨⟩⟩ h4 aF
  simp only[D5,E7,V2]
  exact .mk (g-1) (by omega) ⟨by simp only[hw],by omega,aF⟩
 ·rw[if_neg (by simp only[decide_eq_true_eq,hlen];omega)]
  rw[D4 (by omega)] at ai
  exact hq out h2 (((A43.2 ⟨mb,ai.re [2,3,0,1]⟩).re [2,1,0]).drop.p1.re [1,0])
end
section
open Go.H Go.Proofs Go.Lib
variable {h h0:Heap} {R:List Asn}
theorem drop_byte{s:B38}{i:Nat}(hi:i<s.size):s.data.toList.drop i=s.get! i::s.data.toList.drop (i+1):=by
 have h1:i<s.data.toList.length:=by rw[N3];exact hi
 rw[E1 h1]
 congr 1
 have h2:i<s.data.size:=hi
 show s.data.toList[i]=s.data[i]!
 rw[getElem!_pos s.data i h2]
 simp
theorem B18{s:B38}(hsz:s.size≤9223372036854775800){c:UInt8}{Q:Value→Heap→Prop}(hq:Q (.bool (hasB c s)) h):
  V4 prog 239 #[.string s,.int .u8 (c.toNat:Int)] h Q:=by
 refine B4B s _ h Q ?_
 delta B71 bn ie pu wi
 (try dsimp only);rw[U2]
 refine o0 (γ:=Nat) (fun g k h'=>h'=h∧k.1=(((s.size-g:Nat)):Int)∧g≤s.size∧hasB c s=decide (c∈s.data.toList.drop (s.size-g))) (fun g=>g) s.size ⟨rfl,by simp,D8 _,by simp[hasB]⟩ ?_
 rintro g ⟨k,⟨⟩⟩ h' ⟨rfl,hc,hg,hf⟩
 simp only at hc
 subst hc
 (try dsimp only);rw[U9]
 by_cases hi:s.size-g<s.size
 ·rw[if_pos (by simp only[decide_eq_true_eq];omega)]
  rw[drop_byte hi] at hf
  refine⟨s.get! (s.size-g),by omega,by rw[N9];exact A3x hi,?_⟩
  (try dsimp only);rw[U9,A71]
  by_cases hb:s.get! (s.size-g)=c
  ·rw[if_pos (by simpa using hb)]
   rw[hf,show decide (c∈s.get! (s.size-g)::s.data.toList.drop (s.size-g+1))=true by simp[hb]] at hq
   simp only[D5,E7,V2]
   exact hq
  ·rw[if_neg (by simpa using hb)]
   simp only[D5,E7,V2]
   refine .mk (g-1) (by omega) ⟨rfl,by simp only;rw[V8 (by omega) (by omega)];omega,by omega,?_⟩
   rw[hf,show s.size-(g-1)=s.size-g+1 by omega]
   simp[Ne.symm hb]
 ·rw[if_neg (by simp only[decide_eq_true_eq];omega)]
  have:s.data.toList.drop (s.size-g)=[]:=by
   rw[List.drop_eq_nil_iff,N3]
   show s.size≤_
   omega
  rw[hf,this] at hq
  simp only[D5,E7,V2]
  simpa using hq
theorem C04{s:B38}{i:Nat}(hi:i<s.size):(s.extract i (i+1)).data.toList=[s.get! i]:=by
 have h1:=drop_byte hi
 have h2:(s.extract i (i+1)).data.toList=(s.data.toList.drop i).take 1:=by
  simp[ByteArray.data_extract,Array.toList_extract,List.extract]
 rw[h2,h1]
 rfl
theorem A4J(hs:sat h R){s:B38}(hsz:s.size≤256){Q:Value→Heap→Prop}
  (hq:∀(sl:Slc) h',sat h' (U6 eS 1 sl (levels s)::R)→Q (.slice sl.a sl.len sl.cap) h'):
  V4 prog 241 #[.string s] h Q:=by
 refine B0K s h Q ?_
 delta B1A az bn ie nw pu ve wi
 (try dsimp only);rw[U2]
 refine o0 (γ:=Nat) (fun g k h'=>∃xs:List B38,sat h' (U6 eS 1 k.1 xs::R)∧k.2.2.1=(((s.size-g:Nat)):Int)∧g≤s.size∧xs.length≤s.size-g∧k.2.1.size≤s.size-g∧
  xs.map (·.data.toList)++lev 47 k.2.1.data.toList (s.data.toList.drop (s.size-g))=(levels s).map (·.data.toList)) (fun g=>g) s.size
  ⟨[],Z5 hs,by simp,D8 _,D1 _,D1 _,by simp[A27]⟩ ?_
 rintro g ⟨sl,x,i,⟨⟩⟩ h1 ⟨xs,aa,hc,hg,yE,dJ,hf⟩
 simp only at hc aa dJ hf
 subst hc
 (try dsimp only);rw[U9]
 by_cases hi:s.size-g<s.size
 ·rw[if_pos (by simp only[decide_eq_true_eq];omega)]
  rw[drop_byte hi] at hf
  have aA:s.size-g+1=s.size-(g-1):=by omega
  rw[aA] at hf
  have hw:IntKind.wrap .i64 ((((s.size-g:Nat)):Int)+1)=((s.size-(g-1):Nat):Int):=by rw[V8 (by omega) (by omega)];omega
  refine V5 (fun k h'=>∃xs:List B38,sat h' (U6 eS 1 k.1 xs::R)∧xs.length≤s.size-(g-1)∧k.2.1.size≤s.size-(g-1)∧
   xs.map (·.data.toList)++lev 47 k.2.1.data.toList (s.data.toList.drop (s.size-(g-1)))=(levels s).map (·.data.toList)) ?_ ?_
  ·refine⟨s.get! (s.size-g),by omega,by rw[N9];exact A3x hi,?_⟩
   (try dsimp only);rw[U9,show(47:Int)=((47:UInt8).toNat:Int) from rfl,A71]
   by_cases hb:s.get! (s.size-g)=47
   ·rw[if_pos (by simpa using hb)]
    refine A1c (x:=x) A1L B4Z rfl aa (by decide) (by decide) (by omega) fun s' h2 ae=>?_
    refine⟨xs++[x],ae,by simp;omega,D1 _,?_⟩
    simp only[lev,if_pos hb] at hf
    rw[←hf]
    simp
   ·rw[if_neg (by simpa using hb)]
    refine⟨s.size-g,s.size-g+1,⟨by rw[hw];omega,by omega⟩,⟨rfl,by omega⟩,?_⟩
    have he:=C04 hi
    have hz:(s.extract (s.size-g) (s.size-g+1)).size=1:=by
     rw[ByteArray.size_extract]
     omega
    refine⟨by rw[hz];omega,xs,aa,by omega,?_,?_⟩
    ·simp only[ByteArray.size_append]
     omega
    ·simp only[lev,if_neg hb] at hf
     rw[←hf]
     simp only[ByteArray.data_append,Array.toList_append,he]
  rintro⟨sl',x',⟨⟩⟩ h2 ⟨xs',ae,sX,sW,nX⟩
  simp only[D5,E7,V2]
  exact .mk (g-1) (by omega) ⟨xs',ae,by simp only[hw],by omega,sX,sW,nX⟩
 ·rw[if_neg (by simp only[decide_eq_true_eq];omega)]
  have:s.data.toList.drop (s.size-g)=[]:=by
   rw[List.drop_eq_nil_iff,N3]
   show s.size≤_
   omega
  rw[this] at hf
  simp only[lev] at hf
  simp only[D5,E7,V2]
  have he:xs++[x]=levels s:=A7z (by simpa using hf)
  refine A1c (x:=x) A1L B4Z rfl aa (by decide) (by decide) (by omega) fun s' h2 ae=>?_
  rw[he] at ae
  exact hq s' h2 ae
theorem B3J(hs:sat h R){s:B38}(hsz:s.size≤9223372036854775800){Q:Value→Heap→Prop}
  (hq:∀h',sat h' R→Q (.bool (A1r s)) h'):V4 prog 238 #[.string s] h Q:=by
 refine B1y s h Q ?_
 delta B3T bn cc ie pu
 refine u0 (B3X hs s hsz ⟨(match r7 s with|some n=>((n:Int),true,())|none=>(0,false,())),by cases r7 s<;>rfl,?_⟩)
 refine V5 (fun x h'=>h'=h∧x.1= !((r7 s).isNone&&decide (s.size≠0)&&decide (s.size≤256))) ?_ ?_
 ·(try dsimp only);rw[U9]
  cases hf:r7 s with
  |some n=>
   rw[if_pos rfl]
   exact⟨rfl,rfl⟩
  |none=>
   rw[if_neg (by simp)]
   (try dsimp only);rw[U9]
   by_cases h0:s.size=0
   ·rw[if_pos (by simp[h0])]
    exact⟨rfl,by simp[h0]⟩
   ·rw[if_neg (by simpa using h0)]
    refine⟨rfl,?_⟩
    by_cases h1:s.size≤256
    ·simp[h0,h1];omega
    ·simp[h0,h1];omega
 rintro⟨x,⟨⟩⟩ h1 ⟨rfl,hx⟩
 simp only at hx
 subst hx
 unfold A1r at hq
 (try dsimp only);rw[U9]
 cases hz:((r7 s).isNone&&decide (s.size≠0)&&decide (s.size≤256)) with
 |false=>
  rw[hz] at hq
  rw[if_pos (by rfl)]
  exact hq _ hs
 |true=>
  rw[hz,G4] at hq
  rw[if_neg (by simp)]
  have hle:s.size≤256:=by
   simp only[E9,decide_eq_true_eq] at hz
   exact hz.2
  refine U7 (A4J hs hle fun sl h2 ae=>⟨sl,rfl,?_⟩)
  have hl:=ae.aW
  have:=hq _ ae.drop
  have e:decide ((sl.len:Int)≤32)=decide ((levels s).length≤32):=by rw[G0,hl];omega
  simp only[V2]
  rw[e]
  exact this
theorem A4u(hs:sat h R){s:B38}(hsz:s.size≤9223372036854775800){Q:Value→Heap→Prop}
  (hq:∀h',sat h' R→Q (.int .i64 (A2X s)) h'):V4 prog 190 #[.string s] h Q:=by
 refine A8x s h Q ?_
 delta A8h bn cb ie pu
 refine U7 (B3J hs hsz fun h1 aa=>⟨_,rfl,?_⟩)
 refine U7 (B18 (c:=43) hsz ⟨_,rfl,?_⟩)
 refine U7 (B18 (c:=35) hsz ⟨_,rfl,?_⟩)
 refine V5 (fun x h'=>h'=h1∧x.1= !Z6 s) ?_ ?_
 ·unfold Z6
  (try dsimp only);rw[U9]
  cases A1r s with
  |false=>rw[if_pos (by rfl)];exact⟨rfl,rfl⟩
  |true=>
   rw[if_neg (by simp)]
   (try dsimp only);rw[U9]
   cases hasB 43 s with
   |true=>rw[if_pos rfl];exact⟨rfl,rfl⟩
   |false=>rw[if_neg (by simp)];exact⟨rfl,by simp⟩
 rintro⟨x,⟨⟩⟩ h2 ⟨rfl,hx⟩
 simp only at hx
 subst hx
 have:=hq _ aa
 unfold A2X at this
 (try dsimp only);rw[U9]
 cases hn:Z6 s with
 |true=>rw[hn,if_pos rfl] at this;rw[if_neg (by simp)];exact this
 |false=>rw[hn,if_neg (by simp)] at this;rw[if_pos (by rfl)];exact this
theorem A5N(hs:sat h R){s:B38}(hsz:s.size≤9223372036854775800){Q:Value→Heap→Prop}
  (hq:∀h',sat h' R→Q (.int .i64 (B0i s)) h'):V4 prog 240 #[.string s] h Q:=by
 refine A6S s h Q ?_
 delta A5M bn cb cc ie ix lt pu wi
 refine U7 (B3J hs hsz fun h1 aa=>⟨_,rfl,?_⟩)
 unfold B0i X6 at hq
 (try dsimp only);rw[U9]
 cases hz:A1r s with
 |false=>
  rw[hz] at hq
  rw[if_pos (by rfl)]
  exact hq _ aa
 |true=>
 rw[hz,G4] at hq
 rw[if_neg (by simp)]
 have hle:=A2k hz
 refine U7 (A4J aa hle fun sl h2 ae=>⟨sl,rfl,?_⟩)
 have hlen:=ae.aW
 have aM:=ae.aO A1L
 have hn:(levels s).length≤32:=(A05.1 hz).2.2.2
 have dJ:∀x∈levels s,x.size≤256:=fun x hx=>C7 (C4A hx) hle
 generalize levels s=l at hlen aM hn hq dJ
 have aj:=ae.drop
 clear ae
 (try dsimp only);rw[U2]
 refine o0 (γ:=Nat) (fun g c h'=>h'=h2∧c.1=(((l.length-g:Nat)):Int)∧g≤l.length∧A4k l=A4k (l.drop (l.length-g))) (fun g=>g) l.length ⟨rfl,by simp,D8 _,by simp⟩ ?_
 rintro g ⟨c,⟨⟩⟩ h' ⟨rfl,hc,hg,hf⟩
 simp only at hc
 subst hc
 (try dsimp only);rw[U9]
 by_cases ah:l.length-g<l.length
 ·rw[if_pos (by simp only[decide_eq_true_eq,hlen];omega)]
  obtain⟨x,hx⟩:∃x,l[l.length-g]? =some x:=⟨_,B0 ah⟩
  have yD:x.size≤256:=dJ x (F3 hx)
  have ld:∀{Q:B38→Heap→Prop},Q x h'→(HM.bind (A32 sl.a sl.len (((l.length-g:Nat)):Int) 1) fun a=>p8 .str a) h' Q:=by
   intro Q hQ
   (try dsimp only);rw[U2]
   refine X9 aM hx fun a ha=>?_
   exact⟨x,by have:=ha 0 (.string x) rfl;rwa[Go.H.add_zero] at this,hQ⟩
  have rJ:∀{β:Type} {k:B38→HM β} {Q:β→Heap→Prop},k x h' Q→(HM.bind (A32 sl.a sl.len (((l.length-g:Nat)):Int) 1) fun a=>HM.bind (p8 .str a) k) h' Q:=fun hk=>ld (Q:=fun y aR=>_) hk
  rw[A65 hx,A7S] at hf
  have fr:(l.drop (l.length-g+1)).isEmpty=decide (l.length-g+1=l.length):=by
   by_cases he:l.length-g+1=l.length
   ·rw[he];simp
   ·have:l.drop (l.length-g+1)≠[]:=by simp;omega
    cases hh:l.drop (l.length-g+1) with
    |nil=>exact absurd hh this
    |cons=>simp[he]
  rw[fr] at hf
  have hw:IntKind.wrap .i64 ((sl.len:Int)-1)=(l.length:Int)-1:=by rw[hlen];exact V8 (by omega) (by omega)
  have je:IntKind.wrap .i64 (((l.length-g:Nat):Int)+1)=((l.length-(g-1):Nat):Int):=by rw[V8 (by omega) (by omega)];omega
  have aA:l.length-g+1=l.length-(g-1):=by omega
  rw[aA] at hf
  rw[hw,je]
  refine rJ ?_
  refine U7 (B18 (c:=43) (by omega) ⟨_,rfl,?_⟩)
  refine rJ ?_
  refine U7 (B18 (c:=35) (by omega) ⟨_,rfl,?_⟩)
  unfold B28 at hf
  refine V5 (fun z aR=>aR=h'∧z.1=(hasB 43 x&&decide (x≠u3))) ?_ ?_
  ·(try dsimp only);rw[U9]
   cases hasB 43 x with
   |true=>
    rw[if_pos rfl]
    refine rJ ⟨rfl,?_⟩
    by_cases hp:x=ByteArray.mk #[43]<;>simp[u3,hp]
   |false=>rw[if_neg (by simp)];exact⟨rfl,rfl⟩
  rintro⟨z,⟨⟩⟩ aR ⟨rfl,dw⟩
  simp only at dw
  subst dw
  (try dsimp only);rw[U9]
  cases ha:(hasB 43 x&&decide (x≠u3)) with
  |true=>
   rw[ha,Bool.true_or,N4,J7] at hf
   rw[hf,if_neg (by simp)] at hq
   rw[if_pos rfl]
   simp only[D5,E7,V2]
   exact hq _ aj
  |false=>
  rw[ha,S3] at hf
  rw[if_neg (by simp)]
  refine V5 (fun z h'=>h'=aR∧z.1=(hasB 35 x&&(decide (x≠p7)|| !decide (l.length-(g-1)=l.length)))) ?_ ?_
  ·(try dsimp only);rw[U9]
   cases hasB 35 x with
   |true=>
    rw[if_pos rfl]
    refine rJ ?_
    (try dsimp only);rw[U9]
    by_cases kQ:x=p7
    ·rw[if_neg (by simpa[p7] using kQ)]
     refine⟨rfl,?_⟩
     simp only[kQ,ne_eq,not_true_eq_false,decide_false,S3,G4]
     rw[←decide_not,G0]
     omega
    ·rw[if_pos (by simpa[p7] using kQ)]
     exact⟨rfl,by simp[kQ]⟩
   |false=>rw[if_neg (by simp)];exact⟨rfl,rfl⟩
  rintro⟨z,⟨⟩⟩ h3 ⟨rfl,dw⟩
  simp only at dw
  subst dw
  (try dsimp only);rw[U9]
  cases hb:(hasB 35 x&&(decide (x≠p7)|| !decide (l.length-(g-1)=l.length))) with
  |true=>
   rw[hb,N4,J7] at hf
   rw[hf,if_neg (by simp)] at hq
   rw[if_pos rfl]
   simp only[D5,E7,V2]
   exact hq _ aj
  |false=>
   rw[hb,S6,G4] at hf
   rw[if_neg (by simp)]
   simp only[D5,E7,V2]
   exact .mk (g-1) (by omega) ⟨rfl,rfl,by omega,hf⟩
 ·rw[if_neg (by simp only[decide_eq_true_eq,hlen];omega)]
  simp only[D5,E7,V2]
  have:l.drop (l.length-g)=[]:=by simp;omega
  rw[this] at hf
  rw[hf] at hq
  exact hq _ aj
theorem C6w{f n:B38}(hf:f.size≠0)(hn:n.size≠0){Q:Bool×Unit→Heap→Prop}(hq:Q (A36 f n,()) h):
  (HM.bind (α:=Int) (A5t n 0) fun(x4:Int)=>
   A1v (x4==36) (
   HM.bind (α:=Int) (A5t f 0) fun(x5:Int)=>
   A1v (x5==43) (
   X2 (true,())) (
   HM.bind (α:=Int) (A5t f 0) fun(x6:Int)=>
   X2 (x6==35,()))) (
   X2 (false,()))) h Q:=by
 unfold A36 at hq
 refine⟨n.get! 0,by decide,A3x (k:=0) (by omega),?_⟩
 (try dsimp only);rw[U9,show(36:Int)=((36:UInt8).toNat:Int) from rfl,A71]
 by_cases jS:n.get! 0=36
 ·rw[if_pos (by simpa using jS)]
  refine⟨f.get! 0,by decide,A3x (k:=0) (by omega),?_⟩
  (try dsimp only);rw[U9,show(43:Int)=((43:UInt8).toNat:Int) from rfl,A71]
  by_cases eu:f.get! 0=43
  ·rw[if_pos (by simpa using eu)]
   simp only[jS,eu,decide_true,G4,Bool.true_or] at hq
   exact hq
  ·rw[if_neg (by simpa using eu)]
   refine⟨f.get! 0,by decide,A3x (k:=0) (by omega),?_⟩
   simp only[V2]
   rw[show(35:Int)=((35:UInt8).toNat:Int) from rfl,A71]
   simp only[jS,eu,decide_true,decide_false,G4,S3] at hq
   exact hq
 ·rw[if_neg (by simpa using jS)]
  simp only[jS,decide_false,J7] at hq
  exact hq
theorem B3W(hs:sat h R){f n:B38}(la:f.size≤9223372036854775800)(rR:n.size≤9223372036854775800){Q:Value→Heap→Prop}
  (hq:∀h',sat h' R→Q (.bool (Y1 f n)) h'):V4 prog 192 #[.string f,.string n] h Q:=by
 refine B1z f n h Q ?_
 delta B3U bn cc ci ie ix lt pu wi
 refine U7 (A5N hs la fun h1 aa=>⟨_,rfl,?_⟩)
 refine U7 (A4u aa rR fun h2 ae=>⟨_,rfl,?_⟩)
 refine V5 (fun x h'=>h'=h2∧x.1= !(X6 f&&Z6 n)) ?_ ?_
 ·unfold B0i A2X
  (try dsimp only);rw[U9]
  cases hf:X6 f with
  |false=>rw[if_pos (by rfl)];exact⟨rfl,rfl⟩
  |true=>
   rw[if_neg (by simp)]
   cases hn:Z6 n<;>exact⟨rfl,rfl⟩
 rintro⟨x,⟨⟩⟩ h3 ⟨rfl,hx⟩
 simp only at hx
 subst hx
 unfold Y1 at hq
 (try dsimp only);rw[U9]
 cases ag:(X6 f&&Z6 n) with
 |false=>
  rw[ag] at hq
  rw[if_pos (by rfl)]
  exact hq _ ae
 |true=>
 rw[ag,G4] at hq
 rw[if_neg (by simp)]
 rw[E9] at ag
 have jf:=A05.1 (u4 ag.1)
 have fa:=A05.1 (A4L ag.2)
 refine V5 (fun x h'=>h'=h3∧x.1=A36 f n) (C6w jf.2.1 fa.2.1 ⟨rfl,rfl⟩) ?_
 rintro⟨x,⟨⟩⟩ h4 ⟨rfl,hx⟩
 simp only at hx
 subst hx
 (try dsimp only);rw[U9]
 cases iH:A36 f n with
 |true=>
  rw[iH] at hq
  rw[if_pos rfl]
  exact hq _ ae
 |false=>
 rw[iH,S6,G4] at hq
 rw[if_neg (by simp)]
 refine U7 (A4J ae jf.2.2.1 fun sf h3 aj=>⟨sf,rfl,?_⟩)
 refine U7 (A4J aj fa.2.2.1 fun sn h4 ak=>⟨sn,rfl,?_⟩)
 have qh:=ak.aO A1L
 have nK:=ak.p1.aO A1L
 have ai:sat h4 R:=ak.drop.drop
 have vD:(levels f).length≤32:=jf.2.2.2
 have jZ:(levels n).length≤32:=fa.2.2.2
 clear ak aj
 generalize levels f=lf at*
 generalize levels n=ln at*
 have ff:=nK.1
 have fi:=qh.1
 (try dsimp only);rw[U2]
 refine o0 (γ:=Nat) (fun g c h'=>h'=h4∧c.1=(((lf.length-g:Nat)):Int)∧g≤lf.length∧lf.length-g≤ln.length∧A2w lf ln=A2w (lf.drop (lf.length-g)) (ln.drop (lf.length-g))) (fun g=>g) lf.length ⟨rfl,by simp,D8 _,by simp,by simp⟩ ?_
 rintro g ⟨c,⟨⟩⟩ h' ⟨rfl,hc,hg,vN,hm⟩
 simp only at hc
 subst hc
 (try dsimp only);rw[U9]
 by_cases ah:lf.length-g<lf.length
 ·rw[if_pos (by simp only[decide_eq_true_eq,ff];omega)]
  obtain⟨x,hx⟩:∃x,lf[lf.length-g]? =some x:=⟨_,B0 ah⟩
  have ldf:∀{β:Type} {k:B38→HM β} {Q:β→Heap→Prop},k x h' Q→(HM.bind (A32 sf.a sf.len (((lf.length-g:Nat)):Int) 1) fun a=>HM.bind (p8 .str a) k) h' Q:=by
   intro β k Q hQ
   (try dsimp only);rw[U2]
   refine X9 nK hx fun a ha=>?_
   exact⟨x,by have:=ha 0 (.string x) rfl;rwa[Go.H.add_zero] at this,hQ⟩
  rw[A65 hx,A4g] at hm
  have aA:lf.length-g+1=lf.length-(g-1):=by omega
  have je:IntKind.wrap .i64 (((lf.length-g:Nat):Int)+1)=((lf.length-(g-1):Nat):Int):=by rw[V8 (by omega) (by omega)];omega
  rw[je]
  refine ldf ?_
  (try dsimp only);rw[U9]
  by_cases kP:x=p7
  ·rw[if_pos kP] at hm
   rw[hm] at hq
   rw[if_pos (by simpa[p7] using kP)]
   simp only[D5,E7,V2]
   exact hq _ ai
  rw[if_neg kP] at hm
  rw[if_neg (by simpa[p7] using kP)]
  (try dsimp only);rw[U9]
  by_cases xB:ln.length≤lf.length-g
  ·rw[if_pos (by simp only[decide_eq_true_eq];omega)]
   rw[show ln.drop (lf.length-g)=[] by simp;omega] at hm
   rw[hm] at hq
   simp only[D5,E7,V2]
   exact hq _ ai
  rw[if_neg (by simp only[decide_eq_true_eq];omega)]
  obtain⟨y,hy⟩:∃y,ln[lf.length-g]? =some y:=⟨_,B0 (by omega)⟩
  rw[A65 hy,aA] at hm
  simp only at hm
  refine V5 (fun z aR=>aR=h'∧z.1=decide (x≠u3∧x≠y)) ?_ ?_
  ·refine ldf ?_
   (try dsimp only);rw[U9]
   by_cases nD:x=u3
   ·rw[if_neg (by simpa[u3] using nD)]
    exact⟨rfl,by simp[nD]⟩
   ·rw[if_pos (by simpa[u3] using nD)]
    refine ldf ?_
    (try dsimp only);rw[U2]
    refine X9 qh hy fun a ha=>?_
    refine⟨y,by have:=ha 0 (.string y) rfl;rwa[Go.H.add_zero] at this,rfl,?_⟩
    by_cases oG:x=y<;>simp[nD,oG]
  rintro⟨z,⟨⟩⟩ aR ⟨rfl,hz⟩
  simp only at hz
  subst hz
  (try dsimp only);rw[U9]
  by_cases hc:x≠u3∧x≠y
  ·rw[if_pos hc] at hm
   rw[hm] at hq
   rw[if_pos (by simpa using hc)]
   simp only[D5,E7,V2]
   exact hq _ ai
  ·rw[if_neg hc] at hm
   rw[if_neg (by simpa using hc)]
   simp only[D5,E7,V2]
   exact .mk (g-1) (by omega) ⟨rfl,rfl,by omega,by omega,hm⟩
 ·rw[if_neg (by simp only[decide_eq_true_eq,ff];omega)]
  simp only[D5,E7,V2]
  rw[show lf.drop (lf.length-g)=[] by simp;omega] at hm
  have he:((sf.len:Int)==(sn.len:Int))=A2w lf ln:=by
   rw[hm]
   simp only[A2w]
   rw[ff,fi]
   by_cases he:lf.length=ln.length
   ·rw[show ln.drop (lf.length-g)=[] by simp;omega]
    simp[he]
   ·cases hd:ln.drop (lf.length-g) with
    |nil=>rw[List.drop_eq_nil_iff] at hd;omega
    |cons=>simpa using fun e=>he (by omega)
  rw[he]
  exact hq _ ai
end
section
open Go.H Go.Proofs Go.Lib
variable {h h0:Heap} {R:List Asn}
def A1V(b:Nat)(most:Int)(L:List l3):Asn:=exA fun s:Slc=>star (cells b #[.int .i64 most,.slice s.a s.len s.cap]) (U6 A0i 3 s L)
theorem A2S{b:Nat}{most:Int}{L:List l3}:sat h (A1V b most L::R)↔∃s:Slc,sat h (cells b #[.int .i64 most,.slice s.a s.len s.cap]::U6 A0i 3 s L::R):=by
 unfold A1V
 rw[sat.bA]
 constructor
 ·rintro⟨m,hs⟩;exact⟨m,sat.aI.1 hs⟩
 ·rintro⟨m,hs⟩;exact⟨m,sat.aI.2 hs⟩
theorem C4l(hs:sat h R)(n:Int){Q:Value→Heap→Prop}(hq:∀b h',sat h' (A1V b (B9f n) []::R)→Q (B1H b) h'):V4 prog 45 #[.int .i64 n] h Q:=by
 refine B4v n h Q ?_
 delta B7V az bn ie nw pu vi vz
 refine V5 (fun z h'=>h'=h∧z.1=if n<0 then 0 else n) ?_ ?_
 ·(try dsimp only);rw[U9]
  by_cases h1:n<0
  ·rw[if_pos (by simpa using h1)];exact⟨rfl,by simp[h1]⟩
  ·rw[if_neg (by simpa using h1)];exact⟨rfl,by simp[h1]⟩
 rintro⟨x,⟨⟩⟩ h1 ⟨rfl,hx⟩
 simp only at hx
 subst hx
 refine V5 (fun z h'=>h'=h1∧z.1=B9f n) ?_ ?_
 ·(try dsimp only);rw[U9]
  unfold B9f
  by_cases h2:64<(if n<0 then 0 else n)
  ·rw[if_pos (by simpa using h2)]
   refine⟨rfl,?_⟩
   simp only
   split at h2<;>split<;>split<;>omega
  ·rw[if_neg (by simpa using h2)]
   refine⟨rfl,?_⟩
   simp only
   split at h2<;>split<;>split<;>omega
 rintro⟨x,⟨⟩⟩ h2 ⟨rfl,hx⟩
 simp only at hx
 subst hx
 refine V6 hs fun b h3 aj=>?_
 exact hq b h3 (A2S.2 ⟨⟨none,0,0⟩,(Z5 (enc:=A0i) (size:=3) aj).p1⟩)
theorem B5Y{a:Addr}{m:l3}(ha:∀j v,(A0i m)[j]? =some v→W3 h (a.add j)=some v){Q:l3→Heap→Prop}(hq:Q m h):o6 [.str,.str,.int .i64] a h Q:=
 A0v (ts:=[.str,.str,.int .i64]) m (fun i v hv=>ha i v hv) hq
def A4C(L:List l3)(k:B38):List l3:=L.filter fun m=>decide (m.1≠k)
theorem B8K{s:Slc}{L:List l3}{k:B38}(hs:sat h (U6 A0i 3 s L::R))(hL:L.length≤1000){Q:Value→Heap→Prop}
  (hq:∀(sl:Slc) h',sat h' (U6 A0i 3 sl (A4C L k)::U6 A0i 3 s L::R)→Q (.slice sl.a sl.len sl.cap) h'):V4 prog 191 #[.slice s.a s.len s.cap,.string k] h Q:=by
 refine A9N s k h Q ?_
 delta A98 az bn ie ix kt nw pu ve vi wi
 have hlen:=hs.aW
 (try dsimp only);rw[U2]
 refine o0 (γ:=Nat) (fun g c h'=>c.2.1=(((L.length-g:Nat)):Int)∧g≤L.length∧sat h' (U6 A0i 3 c.1 (A4C (L.take (L.length-g)) k)::U6 A0i 3 s L::R)) (fun g=>g) L.length
  ⟨by simp,D8 _,by rw[Q3];exact Z5 hs⟩ ?_
 rintro g ⟨out,c,⟨⟩⟩ h2 ⟨hc,hg,ai⟩
 simp only at hc ai
 subst hc
 (try dsimp only);rw[U9]
 by_cases hi:L.length-g<L.length
 ·rw[if_pos (by simp only[decide_eq_true_eq,hlen];omega)]
  obtain⟨m,hm⟩:∃m,L[L.length-g]? =some m:=⟨_,B0 hi⟩
  have hw:IntKind.wrap .i64 ((((L.length-g:Nat)):Int)+1)=((L.length-(g-1):Nat):Int):=by rw[V8 (by omega) (by omega)];omega
  have fm:L.take (L.length-(g-1))=L.take (L.length-g)++[m]:=by
   rw[show L.length-(g-1)=L.length-g+1 by omega,I0,hm]
   rfl
  (try dsimp only);rw[U2]
  refine X9 (ai.p1.aO A3Y) hm fun a ha=>?_
  refine⟨m.1,ha 0 _ rfl,?_⟩
  refine V5 (fun z h'=>sat h' (U6 A0i 3 z.1 (A4C (L.take (L.length-(g-1))) k)::U6 A0i 3 s L::R)) ?_ ?_
  ·rw[fm]
   unfold A4C
   rw[F2]
   (try dsimp only);rw[U9]
   by_cases he:m.1=k
   ·rw[if_neg (by simpa using he)]
    simp only[H8,he,ne_eq,not_true_eq_false,decide_false,H9,if_false,J5,C2]
    exact ai
   ·rw[if_pos (by simpa using he)]
    (try dsimp only);rw[U2]
    refine X9 (ai.p1.aO A3Y) hm fun a' i'=>?_
    (try dsimp only);rw[U2]
    refine B5Y i' ?_
    have jE:(A4C (L.take (L.length-g)) k).length≤1000:=by
     unfold A4C
     refine C7 (D3 _ _) ?_
     rw[E6]
     omega
    refine A1c (x:=m) A3Y A7W rfl ai (by decide) (by decide) (by omega) fun s' h4 aF=>?_
    simp only[H8,he,ne_eq,not_false_eq_true,decide_true,if_true,J5]
    exact aF
  rintro⟨z,⟨⟩⟩ h4 aF
  simp only[D5,E7,V2]
  exact .mk (g-1) (by omega) ⟨by simp only[hw],by omega,aF⟩
 ·rw[if_neg (by simp only[decide_eq_true_eq,hlen];omega)]
  rw[D4 (by omega)] at ai
  exact hq out h2 ai
def B0x(most:Int)(L:List l3)(m:l3):Int×List l3:=
 if Z6 m.1=false then(144,L)
 else if m.2.2.1<0∨2<m.2.2.1 then(155,L)
 else if m.2.1.size=0 then(0,A4C L m.1)
 else if(A4C L m.1).length=L.length∧most≤(A4C L m.1).length then(151,L)
 else(0,A2y ltS (·.1) m (A4C L m.1))
def A82(m:l3):List l3→Bool×List l3
 |[]=>(false,[])
 |x::r=>if ltS m.1 x.1 then(true,m::x::r) else((A82 m r).1,x::(A82 m r).2)
theorem C2o(m:l3):∀L:List l3,A2y ltS (·.1) m L=(if(A82 m L).1=true then(A82 m L).2 else(A82 m L).2++[m])
 |[]=>rfl
 |x::r=>by
  unfold A2y A82
  split
  ·simp
  ·rw[C2o m r]
   split<;>rename_i h1<;>simp[h1]
def A3u(m:l3)(L:List l3):Bool×List l3:=L.foldl (fun c x=>if c.1=false∧ltS m.1 x.1 then(true,c.2++[m,x]) else(c.1,c.2++[x])) (false,[])
theorem C2p(m:l3)(L:List l3)(x:l3):A3u m (L++[x])=(if(A3u m L).1=false∧ltS m.1 x.1 then(true,(A3u m L).2++[m,x]) else((A3u m L).1,(A3u m L).2++[x])):=by
 unfold A3u
 rw[List.foldl_append]
 rfl
theorem B53(m:l3):∀(L out:List l3),L.foldl (fun c x=>if c.1=false∧ltS m.1 x.1 then(true,c.2++[m,x]) else(c.1,c.2++[x])) (true,out)=(true,out++L)
 |[],out=>by simp
 |x::r,out=>by
  rw[H3,if_neg (by simp),B53 m r]
  simp
theorem B54(m:l3):∀(L out:List l3),L.foldl (fun c x=>if c.1=false∧ltS m.1 x.1 then(true,c.2++[m,x]) else(c.1,c.2++[x])) (false,out)=((A82 m L).1,out++(A82 m L).2)
 |[],out=>by simp[A82]
 |x::r,out=>by
  rw[H3]
  by_cases hx:ltS m.1 x.1
  ·rw[if_pos ⟨rfl,hx⟩,B53]
   simp[A82,hx]
  ·rw[if_neg (fun h=>hx h.2),B54 m r]
   simp[A82,hx]
theorem C4D(m:l3)(L:List l3):A2y ltS (·.1) m L=(if(A3u m L).1=true then(A3u m L).2 else(A3u m L).2++[m]):=by
 unfold A3u
 rw[B54,C2o]
 simp
theorem B8j(m:l3):∀(L:List l3),(A3u m L).2.length≤L.length+1:=fun L=>by
 unfold A3u
 rw[B54]
 have:=(A1S ltS (fun x:l3=>x.1) m L).length_eq
 rw[C2o] at this
 simp only[F0,B7] at this⊢
 split at this
 ·omega
 ·simp at this;omega
theorem C4j{b:Nat}{most:Int}{L:List l3}{m:l3}(hs:sat h (A1V b most L::R))(hL:L.length≤64)(hsz:m.1.size≤9223372036854775800){Q:Value→Heap→Prop}
  (hq:∀h',sat h' (A1V b most (B0x most L m).2::R)→Q (.int .i64 (B0x most L m).1) h'):V4 prog 136 #[B1H b,vM m] h Q:=by
 refine B4u (some ⟨b,0,none⟩) m h Q ?_
 obtain⟨s,hs⟩:=A2S.1 hs
 delta B7U az bn cc ci ie ix ji jt kc ki kt nn nw pu sx ve vi vs wi
 refine V6 hs fun x h1 aa=>?_
 refine⟨m.1,by rw[U4];exact aa.cell 0,?_⟩
 refine U7 (A4u aa hsz fun h2 aQ=>⟨_,rfl,?_⟩)
 have ae:sat h2 (cells x (A0i m).toArray::cells b #[.int .i64 most,.slice s.a s.len s.cap]::U6 A0i 3 s L::R):=aQ
 clear aQ aa hs
 have fin:∀{h'},sat h' (cells x (A0i m).toArray::cells b #[.int .i64 most,.slice s.a s.len s.cap]::U6 A0i 3 s L::R)→sat h' (A1V b most L::R):=fun hh=>A2S.2 ⟨s,hh.drop⟩
 unfold B0x at hq
 (try dsimp only);rw[U9]
 cases hn:Z6 m.1 with
 |false=>
  rw[if_pos hn] at hq
  rw[if_pos (by simp[A2X,hn])]
  exact hq _ (fin ae)
 |true=>
 rw[if_neg (by simp[hn])] at hq
 rw[if_neg (by simp[A2X,hn])]
 refine V5 (fun z h'=>h'=h2∧z.1=decide (m.2.2.1<0∨2<m.2.2.1)) ?_ ?_
 ·refine⟨m.2.2.1,by rw[U4];exact ae.cell 2,?_⟩
  (try dsimp only);rw[U9]
  by_cases h1:m.2.2.1<0
  ·rw[if_pos (by simpa using h1)]
   exact⟨rfl,by simp[h1]⟩
  ·rw[if_neg (by simpa using h1)]
   refine⟨m.2.2.1,by rw[U4];exact ae.cell 2,rfl,?_⟩
   simp[h1]
 rintro⟨z,⟨⟩⟩ h3 ⟨rfl,hz⟩
 simp only at hz
 subst hz
 (try dsimp only);rw[U9]
 by_cases dU:m.2.2.1<0∨2<m.2.2.1
 ·rw[if_pos dU] at hq
  rw[if_pos (by simpa using dU)]
  exact hq _ (fin ae)
 rw[if_neg dU] at hq
 rw[if_neg (by simpa using dU)]
 refine⟨_,rfl,s,by rw[U4];exact ae.p1.cell 1,?_⟩
 refine⟨m.1,by rw[U4];exact ae.cell 0,?_⟩
 refine U7 (B8K (ae.re [2,0,1]) (by omega) fun sl h4 bh=>⟨sl,rfl,?_⟩)
 have ak:sat h4 (cells x (A0i m).toArray::cells b #[.int .i64 most,.slice s.a s.len s.cap]::U6 A0i 3 sl (A4C L m.1)::U6 A0i 3 s L::R):=bh.re [2,3,0,1]
 clear bh ae
 have xe:(A4C L m.1).length≤64:=C7 (D3 _ _) hL
 generalize A4C L m.1=T at ak hq xe
 have ff:sl.len=T.length:=(ak.re [2,0,1]).aW
 have fi:s.len=L.length:=(ak.re [3,0,1,2]).aW
 refine⟨m.2.1,by rw[U4];exact ak.cell 1,?_⟩
 (try dsimp only);rw[U9]
 by_cases hp:m.2.1.size=0
 ·rw[if_pos hp] at hq
  rw[if_pos (by simp[hp])]
  refine⟨_,rfl,?_⟩
  (try dsimp only);rw[U2,U4]
  refine W7 ak.p1 (by simp) rfl fun h5 ai=>?_
  exact hq _ (A2S.2 ⟨sl,(ai.re [0,2,1,3]).re [0,1]|>.re [2,3,0,1]|>.drop.drop⟩)
 rw[if_neg hp] at hq
 rw[if_neg (by simpa using hp)]
 refine V5 (fun z h'=>h'=h4∧z.1=decide (T.length=L.length∧most≤T.length)) ?_ ?_
 ·refine⟨_,rfl,s,by rw[U4];exact ak.p1.cell 1,?_⟩
  (try dsimp only);rw[U9]
  by_cases he:T.length=L.length
  ·rw[if_pos (by simp[ff,fi,he])]
   refine⟨_,rfl,most,by rw[U4];exact ak.p1.cell 0,rfl,?_⟩
   rw[ff]
   simp[he]
  ·rw[if_neg (by simp[ff,fi];omega)]
   exact⟨rfl,by simp[he]⟩
 rintro⟨z,⟨⟩⟩ h5 ⟨rfl,hz⟩
 simp only at hz
 subst hz
 (try dsimp only);rw[U9]
 by_cases hc:T.length=L.length∧most≤T.length
 ·rw[if_pos hc] at hq
  rw[if_pos (by simpa using hc)]
  exact hq _ (A2S.2 ⟨s,(ak.drop.re [1,0,2]).drop⟩)
 rw[if_neg hc] at hq
 rw[if_neg (by simpa using hc)]
 (try dsimp only);rw[U2]
 refine o0 (γ:=Nat) (hb:=fun s=>by
   repeat' with_reducible first
    |refine @A0z _ _ _ _ ?_ (fun _=>?_)
    |refine @A07 _ _ _ _ ?_ ?_
   all_goals infer_instance)
  (fun g c h'=>c.2.2.1=(((T.length-g:Nat)):Int)∧g≤T.length∧c.1=(A3u m (T.take (T.length-g))).1∧
   sat h' (U6 A0i 3 c.2.1 (A3u m (T.take (T.length-g))).2::cells x (A0i m).toArray::cells b #[.int .i64 most,.slice s.a s.len s.cap]::U6 A0i 3 sl T::U6 A0i 3 s L::R)) (fun g=>g) T.length
  ⟨by simp,D8 _,by simp[A3u],by
   rw[Q3]
   exact Z5 ak⟩ ?_
 rintro g ⟨pb,out,c,⟨⟩⟩ h2 ⟨qY,hg,qp,ai⟩
 simp only at qY ai qp
 subst qY
 subst qp
 (try dsimp only);rw[U9]
 by_cases hi:T.length-g<T.length
 ·rw[if_pos (by simp only[decide_eq_true_eq,ff];omega)]
  obtain⟨y,hy⟩:∃y,T[T.length-g]? =some y:=⟨_,B0 hi⟩
  have hw:IntKind.wrap .i64 ((((T.length-g:Nat)):Int)+1)=((T.length-(g-1):Nat):Int):=by rw[V8 (by omega) (by omega)];omega
  have fm:T.take (T.length-(g-1))=T.take (T.length-g)++[y]:=by
   rw[show T.length-(g-1)=T.length-g+1 by omega,I0,hy]
   rfl
  have dQ:=C2p m (T.take (T.length-g)) y
  rw[←fm] at dQ
  have lG:=B8j m (T.take (T.length-g))
  rw[E6] at lG
  generalize A3u m (T.take (T.length-g))=st at ai dQ lG⊢
  refine V5 (fun z h'=>h'=h2∧z.1=decide (st.1=false∧ltS m.1 y.1)) ?_ ?_
  ·(try dsimp only);rw[U9]
   cases bL:st.1 with
   |true=>rw[if_neg (by simp)];exact⟨rfl,by simp⟩
   |false=>
    rw[if_pos (by rfl)]
    refine⟨m.1,by rw[U4];exact ai.p1.cell 0,?_⟩
    (try dsimp only);rw[U2]
    refine X9 ((ai.re [3,0,1,2]).aO A3Y) hy fun a ha=>?_
    refine⟨y.1,ha 0 _ rfl,rfl,?_⟩
    simp only[C0I,true_and]
  rintro⟨z,⟨⟩⟩ h6 ⟨rfl,hz⟩
  simp only at hz
  subst hz
  refine V5 (fun z h'=>z.2.1=(A3u m (T.take (T.length-(g-1)))).1∧∃pre,pre++[y]=(A3u m (T.take (T.length-(g-1)))).2∧pre.length≤100∧sat h' (U6 A0i 3 z.1 pre::cells x (A0i m).toArray::cells b #[.int .i64 most,.slice s.a s.len s.cap]::U6 A0i 3 sl T::U6 A0i 3 s L::R)) ?_ ?_
  ·rw[dQ]
   (try dsimp only);rw[U9]
   by_cases fW:st.1=false∧ltS m.1 y.1
   ·rw[if_pos (by simpa using fW),if_pos fW]
    refine Y8 (ts:=[.str,.str,.int .i64]) m ai.p1 rfl ?_
    refine A1c (x:=m) A3Y A7W rfl ai (by decide) (by decide) (by omega) fun s' h7 aF=>?_
    exact⟨rfl,st.2++[m],by simp,by simp;omega,aF⟩
   ·rw[if_neg (by simpa using fW),if_neg fW]
    exact⟨rfl,st.2,rfl,by omega,ai⟩
  rintro⟨z1,z2,⟨⟩⟩ h7 ⟨gy,pre,jI,lJ,aF⟩
  simp only at gy aF
  (try dsimp only);rw[U2]
  refine X9 ((aF.re [3,0,1,2]).aO A3Y) hy fun a ha=>?_
  (try dsimp only);rw[U2]
  refine B5Y ha ?_
  refine A1c (x:=y) A3Y A7W rfl aF (by decide) (by decide) (by omega) fun s' h8 bq=>?_
  rw[jI] at bq
  simp only[D5,E7,V2]
  exact .mk (g-1) (by omega) ⟨by simp only[hw],by omega,gy,bq⟩
 ·rw[if_neg (by simp only[decide_eq_true_eq,ff];omega)]
  rw[D4 (by omega)] at ai⊢
  have qQ:=C4D m T
  have lG:=B8j m T
  generalize A3u m T=st at ai qQ lG⊢
  simp only[D5,E7,V2]
  refine V5 (fun z h'=>sat h' (U6 A0i 3 z.1 (A2y ltS (·.1) m T)::cells x (A0i m).toArray::cells b #[.int .i64 most,.slice s.a s.len s.cap]::U6 A0i 3 sl T::U6 A0i 3 s L::R)) ?_ ?_
  ·rw[qQ]
   (try dsimp only);rw[U9]
   cases bL:st.1 with
   |true=>rw[if_neg (by simp),if_pos rfl];exact ai
   |false=>
    rw[if_pos (by rfl),if_neg (by simp)]
    refine Y8 (ts:=[.str,.str,.int .i64]) m ai.p1 rfl ?_
    refine A1c (x:=m) A3Y A7W rfl ai (by decide) (by decide) (by omega) fun s' h7 aF=>aF
  rintro⟨z,⟨⟩⟩ h7 aF
  simp only at aF
  refine⟨_,rfl,?_⟩
  (try dsimp only);rw[U2,U4]
  refine W7 (aF.re [2,0,1]) (by simp) rfl fun h8 bq=>?_
  exact hq _ (A2S.2 ⟨z,(bq.re [2,3,4,0,1]).drop.drop.drop⟩)
def C8D(L:List l3)(k:B38):Option l3:=L.find? fun m=>decide (m.1=k)
def A6k(L:List l3)(f:B38):List l3:=L.filter fun m=>Y1 f m.1
theorem C4n{b:Nat}{most:Int}{L:List l3}{f:B38}(hs:sat h (A1V b most L::R))(hL:L.length≤64)(hk:∀m∈L,m.1.size≤256)(hsz:f.size≤9223372036854775800){Q:Value→Heap→Prop}
  (hq:∀(sl:Slc) h',sat h' (U6 A0i 3 sl (A6k L f)::A1V b most L::R)→Q (.slice sl.a sl.len sl.cap) h'):V4 prog 197 #[B1H b,.string f] h Q:=by
 refine B1o (some ⟨b,0,none⟩) f h Q ?_
 obtain⟨s,hs⟩:=A2S.1 hs
 have hl:s.len=L.length:=hs.p1.aW
 delta B3N az bn cb ie ix kc kt nn nw pu ve vi wi
 (try dsimp only);rw[U2]
 refine o0 (γ:=Nat) (hb:=fun s=>by
   repeat' with_reducible first
    |refine @A0z _ _ _ _ ?_ (fun _=>?_)
    |refine @A07 _ _ _ _ ?_ ?_
   all_goals infer_instance)
  (fun g c h'=>c.2.1=(((L.length-g:Nat)):Int)∧g≤L.length∧sat h' (U6 A0i 3 c.1 (A6k (L.take (L.length-g)) f)::cells b #[.int .i64 most,.slice s.a s.len s.cap]::U6 A0i 3 s L::R)) (fun g=>g) L.length
  ⟨by simp,D8 _,by rw[Q3];exact Z5 hs⟩ ?_
 rintro g ⟨out,c,⟨⟩⟩ h2 ⟨hc,hg,ai⟩
 simp only at hc ai
 subst hc
 refine⟨_,rfl,s,by rw[U4];exact ai.p1.cell 1,?_⟩
 (try dsimp only);rw[U9]
 by_cases hi:L.length-g<L.length
 ·rw[if_pos (by simp only[decide_eq_true_eq,hl];omega)]
  obtain⟨m,hm⟩:∃m,L[L.length-g]? =some m:=⟨_,B0 hi⟩
  have tN:m.1.size≤256:=hk m (F3 hm)
  have hw:IntKind.wrap .i64 ((((L.length-g:Nat)):Int)+1)=((L.length-(g-1):Nat):Int):=by rw[V8 (by omega) (by omega)];omega
  have fm:L.take (L.length-(g-1))=L.take (L.length-g)++[m]:=by
   rw[show L.length-(g-1)=L.length-g+1 by omega,I0,hm]
   rfl
  refine⟨_,rfl,s,by rw[U4];exact ai.p1.cell 1,?_⟩
  (try dsimp only);rw[U2]
  refine X9 ((ai.re [2,0,1]).aO A3Y) hm fun a ha=>?_
  refine⟨m.1,ha 0 _ rfl,?_⟩
  refine U7 (B3W ai hsz (by omega) fun h3 gH=>⟨_,rfl,?_⟩)
  have aw:sat h3 (U6 A0i 3 out (A6k (L.take (L.length-g)) f)::cells b #[.int .i64 most,.slice s.a s.len s.cap]::U6 A0i 3 s L::R):=gH
  clear gH ai
  refine V5 (fun z h'=>sat h' (U6 A0i 3 z.1 (A6k (L.take (L.length-(g-1))) f)::cells b #[.int .i64 most,.slice s.a s.len s.cap]::U6 A0i 3 s L::R)) ?_ ?_
  ·rw[fm]
   unfold A6k
   rw[F2]
   (try dsimp only);rw[U9]
   cases vB:Y1 f m.1 with
   |true=>
    rw[if_pos rfl]
    refine⟨_,rfl,s,by rw[U4];exact aw.p1.cell 1,?_⟩
    (try dsimp only);rw[U2]
    refine X9 ((aw.re [2,0,1]).aO A3Y) hm fun a' i'=>?_
    (try dsimp only);rw[U2]
    refine B5Y i' ?_
    have jE:(A6k (L.take (L.length-g)) f).length≤64:=by
     unfold A6k
     refine C7 (D3 _ _) ?_
     rw[E6]
     omega
    refine A1c (x:=m) A3Y A7W rfl aw (by decide) (by decide) (by omega) fun s' h4 aF=>?_
    simp only[H8,vB,if_true,J5]
    exact aF
   |false=>
    rw[if_neg (by simp)]
    simp only[H8,vB,H9,if_false,J5,C2]
    exact aw
  rintro⟨z,⟨⟩⟩ h4 aF
  simp only[D5,E7,V2]
  exact .mk (g-1) (by omega) ⟨by simp only[hw],by omega,aF⟩
 ·rw[if_neg (by simp only[decide_eq_true_eq,hl];omega)]
  rw[D4 (by omega)] at ai
  exact hq out h2 ((A2S.2 ⟨s,ai.re [1,2,0]⟩).p1)
end
section
open Go.H Go.Proofs Go.Lib
structure Sto(most:Int)(l:List (B38×l3))(L:List l3):Prop where
 rel:Rel ltS (fun m:l3=>m.1) l L
 len:(l.length:Int)≤most
 small:∀p∈l,p.1.size≤256
theorem Sto.nil{most:Int}(h:0≤most):Sto most [] []:=⟨Rel.nil,by simpa using h,by simp⟩
variable {most:Int} {l:List (B38×l3)} {L:List l3}
theorem Sto.lenL(h:Sto most l L)(hm:most≤64):l.length≤64∧L.length≤64:=by
 have:=h.len
 have:=h.rel.len
 omega
theorem Sto.get(h:Sto most l L)(k:B38):W4 l k=C8D L k:=h.rel.get B7q k
theorem B6q(x:B38):x=ByteArray.mk #[]↔x.size=0:=by
 constructor
 ·rintro rfl;rfl
 ·intro h0
  refine data_inj ?_
  have:x.data.toList.length=0:=by rw[N3];exact h0
  rw[K6.1 this]
theorem C0j{k:B38}:(A4C L k).length=L.length↔C8D L k=none:=by
 unfold A4C C8D
 rw[N7,E8]
 constructor
 ·intro h x hx;simpa using h x hx
 ·intro h x hx;simpa using h x hx
theorem Sto.set(h:Sto most l L)(m:l3):(C4b most l m).1=(B0x most L m).1∧Sto most (C4b most l m).2 (B0x most L m).2:=by
 unfold C4b B0x
 by_cases h1:Z6 m.1=false
 ·rw[if_pos h1,if_pos h1];exact⟨rfl,h⟩
 rw[if_neg h1,if_neg h1]
 have hsz:m.1.size≤256:=A2k (A4L (by simpa using h1))
 by_cases h2:m.2.2.1<0∨2<m.2.2.1
 ·rw[if_pos h2,if_pos h2];exact⟨rfl,h⟩
 rw[if_neg h2,if_neg h2]
 by_cases h3:m.2.1=ByteArray.mk #[]
 ·rw[if_pos h3,if_pos ((B6q _).1 h3)]
  refine⟨rfl,h.rel.del m.1,?_,fun p hp=>?_⟩
  ·have:=h.len
   have h4:(mdel l m.1).length≤l.length:=by rw[A1G h.rel.nd];exact D3 _ _
   simp only
   omega
  ·rw[A1G h.rel.nd] at hp
   exact h.small p (D9.1 hp).1
 rw[if_neg h3,if_neg (fun e=>h3 ((B6q _).2 e))]
 have ba:=h.get m.1
 have gM:=h.rel.len
 by_cases h4:W4 l m.1=none
 ·have h5:=C0j.2 (ba▸h4)
  by_cases h6:most≤l.length
  ·rw[if_pos ⟨h4,h6⟩,if_pos ⟨h5,by rw[h5];omega⟩];exact⟨rfl,h⟩
  ·rw[if_neg (fun e=>h6 e.2),if_neg (fun e=>h6 (by have:=e.2;rw[h5] at this;omega))]
   refine⟨rfl,h.rel.set B7q m,?_,fun p hp=>?_⟩
   ·rw[A2o _ _ _ h4]
    simp only[B5,B7,G7]
    omega
   ·rw[A2o _ _ _ h4] at hp
    rcases C9.1 hp with hp|hp
    ·exact h.small p hp
    ·rw[B8.1 hp];exact hsz
 ·have h5:¬(A4C L m.1).length=L.length:=fun e=>h4 (ba.trans (C0j.1 e))
  rw[if_neg (fun e=>h4 e.1),if_neg (fun e=>h5 e.1)]
  have hp:=B24 (l:=l) (k:=m.1) (x:=m)
  refine⟨rfl,h.rel.set B7q m,?_,fun p ij=>?_⟩
  ·have h6:=hp.length_eq
   have ah:(mdel l m.1).length<l.length:=by
    rw[A1G h.rel.nd]
    refine Nat.lt_of_le_of_ne (D3 _ _) fun e=>?_
    rw[N7] at e
    refine h4 ((A1t _ _).2 fun hm=>?_)
    obtain⟨q,hq,e2⟩:=E4.1 hm
    have:=e q hq
    simp[e2] at this
   have:=h.len
   simp only[B7] at h6
   simp only
   omega
  ·rcases D2.1 (hp.mem_iff.1 ij) with rfl|ij
   ·exact hsz
   ·rw[A1G h.rel.nd] at ij
    exact h.small p (D9.1 ij).1
theorem Sto.hit(h:Sto most l L)(f:B38):B9s l f (A44 (l.map (·.1)))=A6k L f:=by
 unfold B9s A6k
 rw[h.rel.sorted]
 have:∀T:List l3,(∀m∈T,m∈L)→(List.filter (Y1 f) (T.map fun m=>m.1)).map (fun n=>(W4 l n).getD zM)=T.filter fun m=>Y1 f m.1:=by
  intro T
  induction T with
  |nil=>intro _;rfl
  |cons m T ih=>
   intro hT
   have ih:=ih fun m hm=>hT m (C3 _ hm)
   rw[B6,H8,H8]
   split
   ·rw[B6,ih,h.rel.fS B7q (hT m (B4 ..))]
    rfl
   ·exact ih
 exact this L fun _ hm=>hm
end
section
open Go.H Go.Proofs Go.Shelf
def A9s:Go.Shelf.Ren:=⟨fun n=>match n with|7=>267|10=>272|n=>n,fun n=>match n with|23=>73|26=>3|3=>4|28=>123|0=>0|27=>122|33=>196|4=>4|n=>n,fun n=>n⟩
theorem C74:SlLaysZI.n7 prog A9s where
 mixed:=by kernel_rfl
 f7:=⟨Tryz.f267.name,by kernel_rfl,func267.trans (congrArg some (by kernel_rfl))⟩
 f10:=⟨f272.name,by kernel_rfl,func272.trans (congrArg some (by kernel_rfl))⟩
 t0:=underlying0
 a0:=isAgg0
 z0:=sizeOf0
 v0:=zeroValue0
 t4:=underlying4
 a4:=isAgg4
 z4:=sizeOf4
 v4:=zeroValue4
 t23:=underlying73
 a23:=isAgg73
 z23:=sizeOf73
 v23:=zeroValue73
 t26:=underlying3
 a26:=isAgg3
 z26:=sizeOf3
 v26:=zeroValue3
 t27:=underlying122
 a27:=isAgg122
 z27:=sizeOf122
 v27:=zeroValue122
 t28:=underlying123
 a28:=isAgg123
 z28:=sizeOf123
 v28:=zeroValue123
 t33:=underlying196
 a33:=isAgg196
 z33:=sizeOf196
 v33:=zeroValue196
def A5H:Go.Shelf.Ren:=⟨fun n=>match n with|6=>40|8=>75|9=>76|11=>121|13=>123|12=>122|23=>180|24=>181|14=>171|15=>172|16=>173|17=>174|18=>175|19=>176|20=>177|21=>178|22=>179|25=>213|26=>214|27=>215|28=>216|29=>217|30=>218|31=>252|n=>n,fun n=>match n with|26=>3|28=>123|24=>64|0=>0|3=>3|37=>263|48=>315|50=>317|4=>4|40=>308|39=>307|45=>180|5=>5|9=>9|51=>343|55=>347|57=>378|58=>361|33=>196|n=>n,fun n=>n⟩
theorem B8Q:SlLaysZI.n6 prog A5H where
 mixed:=by kernel_rfl
 f6:=⟨Tryz.f40.name,by kernel_rfl,func40.trans (congrArg some (by kernel_rfl))⟩
 f8:=⟨f75.name,by kernel_rfl,func75.trans (congrArg some (by kernel_rfl))⟩
 f11:=⟨f121.name,by kernel_rfl,func121.trans (congrArg some (by kernel_rfl))⟩
 t0:=underlying0
 a0:=isAgg0
 z0:=sizeOf0
 v0:=zeroValue0
 t24:=underlying64
 a24:=isAgg64
 z24:=sizeOf64
 v24:=zeroValue64
 t26:=underlying3
 a26:=isAgg3
 z26:=sizeOf3
 v26:=zeroValue3
 t28:=underlying123
 a28:=isAgg123
 z28:=sizeOf123
 v28:=zeroValue123
 i26:=by kernel_rfl
def A7l:Go.Shelf.Ren:=⟨fun n=>match n with|5=>76|8=>123|7=>122|19=>180|20=>181|10=>171|11=>172|12=>173|13=>174|14=>175|15=>176|16=>177|17=>178|18=>179|30=>213|31=>214|32=>215|33=>216|34=>217|35=>218|40=>252|n=>n,fun n=>match n with|23=>64|25=>3|3=>3|32=>263|22=>64|0=>0|44=>315|46=>317|4=>4|36=>308|35=>307|41=>180|5=>5|9=>9|53=>343|57=>347|63=>378|64=>361|n=>n,fun n=>n⟩
theorem C1Q:SlLaysM.n5 prog A7l where
 mixed:=by kernel_rfl
 f5:=⟨f76.name,by kernel_rfl,func76.trans (congrArg some (by kernel_rfl))⟩
 f7:=⟨f122.name,by kernel_rfl,func122.trans (congrArg some (by kernel_rfl))⟩
 f8:=func123.trans (congrArg some (by kernel_rfl))
 f10:=⟨f171.name,by kernel_rfl,func171.trans (congrArg some (by kernel_rfl))⟩
 f11:=⟨f172.name,by kernel_rfl,func172.trans (congrArg some (by kernel_rfl))⟩
 f12:=⟨f173.name,by kernel_rfl,func173.trans (congrArg some (by kernel_rfl))⟩
 f13:=⟨f174.name,by kernel_rfl,func174.trans (congrArg some (by kernel_rfl))⟩
 f14:=⟨f175.name,by kernel_rfl,func175.trans (congrArg some (by kernel_rfl))⟩
 f15:=⟨f176.name,by kernel_rfl,func176.trans (congrArg some (by kernel_rfl))⟩
 f16:=⟨f177.name,by kernel_rfl,func177.trans (congrArg some (by kernel_rfl))⟩
 f17:=⟨f178.name,by kernel_rfl,func178.trans (congrArg some (by kernel_rfl))⟩
 f18:=⟨f179.name,by kernel_rfl,func179.trans (congrArg some (by kernel_rfl))⟩
 f19:=func180.trans (congrArg some (by kernel_rfl))
 f20:=func181.trans (congrArg some (by kernel_rfl))
 f30:=⟨Tryz.f213.name,by kernel_rfl,func213.trans (congrArg some (by kernel_rfl))⟩
 f31:=func214.trans (congrArg some (by kernel_rfl))
 f32:=func215.trans (congrArg some (by kernel_rfl))
 f33:=⟨f216.name,by kernel_rfl,func216.trans (congrArg some (by kernel_rfl))⟩
 f34:=⟨Tryz.f217.name,by kernel_rfl,func217.trans (congrArg some (by kernel_rfl))⟩
 f35:=⟨Tryz.f218.name,by kernel_rfl,func218.trans (congrArg some (by kernel_rfl))⟩
 f40:=⟨f252.name,by kernel_rfl,func252.trans (congrArg some (by kernel_rfl))⟩
 t0:=underlying0
 a0:=isAgg0
 z0:=sizeOf0
 v0:=zeroValue0
 t3:=underlying3
 a3:=isAgg3
 z3:=sizeOf3
 v3:=zeroValue3
 t4:=underlying4
 a4:=isAgg4
 z4:=sizeOf4
 v4:=zeroValue4
 t5:=underlying5
 a5:=isAgg5
 z5:=sizeOf5
 v5:=zeroValue5
 t9:=underlying9
 a9:=isAgg9
 z9:=sizeOf9
 v9:=zeroValue9
 t22:=underlying64
 a22:=isAgg64
 z22:=sizeOf64
 v22:=zeroValue64
 t23:=underlying64
 a23:=isAgg64
 z23:=sizeOf64
 v23:=zeroValue64
 t25:=underlying3
 a25:=isAgg3
 z25:=sizeOf3
 v25:=zeroValue3
 t32:=underlying263
 a32:=isAgg263
 z32:=sizeOf263
 v32:=zeroValue263
 t35:=underlying307
 a35:=isAgg307
 z35:=sizeOf307
 v35:=zeroValue307
 t36:=underlying308
 a36:=isAgg308
 z36:=sizeOf308
 v36:=zeroValue308
 t41:=underlying180
 a41:=isAgg180
 z41:=sizeOf180
 v41:=zeroValue180
 t44:=underlying315
 a44:=isAgg315
 z44:=sizeOf315
 v44:=zeroValue315
 t46:=underlying317
 a46:=isAgg317
 z46:=sizeOf317
 v46:=zeroValue317
 t53:=underlying343
 a53:=isAgg343
 z53:=sizeOf343
 v53:=zeroValue343
 t57:=underlying347
 a57:=isAgg347
 z57:=sizeOf347
 v57:=zeroValue347
 t63:=underlying378
 a63:=isAgg378
 z63:=sizeOf378
 v63:=zeroValue378
 t64:=underlying361
 a64:=isAgg361
 z64:=sizeOf361
 v64:=zeroValue361
open Go.H Go.Proofs
theorem A5k(x:Int):(eI x).length=1:=rfl
theorem A9z(x:Int):∀v∈eI x,v.oneCell'=true:=by intro v hv;simp at hv;subst hv;rfl
theorem C49{h:Heap}{R:List Asn}{b:Nat}{s:u6}(hs:sat h (A1w b s::R)){Q:Value→Heap→Prop}
  (hq:∀(sl:Slc) h',sat h' (U6 eI 1 sl (Z4 s.used)::A1w b s::R)→Q (.slice sl.a sl.len sl.cap) h'):V4 prog 251 #[at0 b] h Q:=by
 refine A9T _ h Q ?_
 obtain⟨m,ag,af⟩:=A01.1 hs
 have c2:W3 h ⟨b,2,none⟩=some (.map (some m)):=af.cell 2
 delta B0e bn cc ie km nn pu
 simp[c2]
 refine B0O (ρk:=A9s) C74 (some m) ?_
 simp only[C5j]
 have ae:=(af.bG (T:=A9s.t 23) (cs:=#[.map (some m)]))
 have hk:=ag.range
 have hl:=ag.len
 have hm:=ag.cP
 refine A7k (ρk:=A9s) (ρs:=A5H) (ρt:=A7l) C74 B8Q C1Q rfl (enters_of func76 (by kernel_rfl) rfl) (enters_of func272 (by kernel_rfl) rfl) ae.p2
  (fun p hp=>?_) ?_ (ae.cell 0) fun sl h' aj=>?_
 ·obtain⟨k,gX,rfl⟩:=E4.1 hp
  have:=hk k gX
  simp[Lit.wf,IntKind.min,IntKind.max,IntKind.bits,IntKind.signed]
  omega
 ·simp[A4q];omega
 ·simp only[C1C,V2]
  refine hq sl h' ?_
  have e:(A4q s.used).map (·.1)=s.used:=by simp[A4q,Q8]
  rw[e] at aj
  exact(A01.2 ⟨m,ag,(aj.p3.p3.drop.p2.p1)⟩).p1
theorem C23{h:Heap}{s:Slc}{xs:List Int}{x:Int}(hx:Z8 eI 1 h s xs)(hb:xs.length≤4611686018427387904){Q:Value→Heap→Prop}
  (ay:x∉xs→Q (.int .i64 (-1)) h)(cO:x∈xs→∀i:Nat,xs[i]? =some x→Q (.int .i64 i) h):
  V4 prog 266 #[.slice s.a s.len s.cap,.int .i64 x] h Q:=by
 refine B0u s x h Q ?_
 delta B1d bn ie ix li pu wi
 simp
 have h1:=hx.1
 refine o0 (γ:=Nat) (fun i c h'=>h'=h∧c.1=(i:Int)∧i≤xs.length∧x∉xs.take i) (fun i=>xs.length-i) 0 ⟨rfl,rfl,D1 _,by simp⟩ ?_
 rintro i ⟨c,⟨⟩⟩ h' ⟨rfl,hc,hi,hn⟩
 simp only at hc
 subst hc
 have next:IntKind.wrap .i64 ((i:Int)+1)=((i+1:Nat):Int):=by rw[V8 (by omega) (by omega)];rfl
 simp
 by_cases ah:i<xs.length
 ·rw[if_pos (by omega)]
  refine X9 hx (B0 ah) fun a ha=>?_
  have c0:W3 h' a=some (.int .i64 xs[i]):=by simpa[Go.H.add_zero] using ha 0 _ rfl
  simp[c0]
  by_cases he:x=xs[i]
  ·rw[if_pos he]
   exact cO (he▸G8 ah) i (by rw[he];exact B0 ah)
  ·rw[if_neg he]
   refine .mk (i+1) (by omega) ⟨rfl,next,by omega,fun hm=>?_⟩
   rw[C4 ah,C9] at hm
   rcases hm with hm|hm
   ·exact hn hm
   ·exact he (B8.1 hm)
 ·rw[if_neg (by omega)]
  rw[D4 (by omega)] at hn
  exact ay hn
theorem B7g{h:Heap}{s:Slc}{xs:List Int}{x:Int}(hx:Z8 eI 1 h s xs)(hb:xs.length≤4611686018427387904){Q:Value→Heap→Prop}
  (hq:Q (.bool (decide (x∈xs))) h):
  V4 prog 250 #[.slice s.a s.len s.cap,.int .i64 x] h Q:=by
 refine A8v s x h Q ?_
 delta A8e ci pu vi vs
 simp
 refine C23 hx hb (fun hn=>?_) (fun hy i hi=>?_)
 ·simpa[hn] using hq
 ·simpa[hy] using hq
theorem C0U{h:Heap}{R:List Asn}{f:Nat}{s:u6}{k:Int}(hs:sat h (A0q f s::R)){Q:Value→Heap→Prop}
  (hq:∀h',sat h' (A0q f s::R)→Q (.bool (decide (k∈s.used))) h'):V4 prog 208 #[at0 f,.int .i64 k] h Q:=by
 refine A8A _ k h Q ?_
 obtain⟨b,hs⟩:=A3a.1 hs
 have c0:W3 h ⟨f,0,none⟩=some (at0 b):=hs.cell 0
 delta A8m cb cc kp nn pu vi vs
 simp[c0]
 refine C49 hs.p1 fun sl h1 aa=>?_
 obtain⟨_,ag,-⟩:=A01.1 aa.p1
 have hl:=ag.len
 have hm:=ag.cP
 simp only[C1C]
 refine B7g (aa.aO A5k) (by simp[Z4,O7];omega) ?_
 have e:decide (k∈Z4 s.used)=decide (k∈s.used):=by simp[Z4]
 simp only[C7a,e]
 exact hq h1 (A3a.2 ⟨b,aa.drop.p1⟩)
theorem A1B{h:Heap}{R:List Asn}(hs:sat h R)(k id c:Int){Q:Value→Heap→Prop}
  (hq:∀b h',sat h' (cells b (C7U (C9d k id c))::R)→Q (.slice (some ⟨b,0,none⟩) 1 1) h'):V4 prog 159 #[.int .i64 k,.int .i64 id,.int .u8 c] h Q:=by
 refine A9S k id c h Q ?_
 delta B0d az cc nw pu ve vi vz
 simp only[U2]
 refine V6 hs fun b h1 aa=>?_
 simp only[C61]
 refine B3e ⟨some ⟨b,0,none⟩,1,1⟩ h1 _ ?_
 delta B57 pu
 simp
 exact hq b h1 aa
def A0a(k q id:Int):Prop:=(k≠3∧k≠6)∨(k=3∧(q<0∨2<q))∨(¬(k=3∧q=0)∧(id<1∨65535<id))
instance(k q id:Int):Decidable (A0a k q id):=by unfold A0a;infer_instance
def l9(s:u6)(k q id why:Int):Bool×Option (Int×Int)×Int×List Int:=
 if A0a k q id then(false,none,130,s.used)
 else if k=3∧q=0 then(true,none,0,s.used)
 else if k=6 then(false,some (7,if id∈s.used then 0 else 146),0,s.used.erase id)
 else if q=1 then(true,some (4,why),0,s.used)
 else if id∈s.used then(false,some (5,0),0,s.used)
 else if(s.used.length:Int)=s.most then(false,none,147,s.used)
 else(true,some (5,why),0,if why<128 then s.used++[id] else s.used)
theorem C0S{h:Heap}{R:List Asn}{f:Nat}{s:u6}{id why:Int}(hs:sat h (A0q f s::R))(h1:1≤id)(h2:id≤65535){Q:Value→Heap→Prop}
  (hn:(l9 s 3 2 id why).2.1=none→∀h',sat h' (A0q f ⟨s.most,s.taken,(l9 s 3 2 id why).2.2.2⟩::R)→Q (.tuple #[.bool (l9 s 3 2 id why).1,.slice none 0 0,.int .u8 (l9 s 3 2 id why).2.2.1]) h')
  (hy:∀k c,(l9 s 3 2 id why).2.1=some (k,c)→∀b h',sat h' (cells b (C7U (C9d k id c))::A0q f ⟨s.most,s.taken,(l9 s 3 2 id why).2.2.2⟩::R)→
   Q (.tuple #[.bool (l9 s 3 2 id why).1,.slice (some ⟨b,0,none⟩) 1 1,.int .u8 (l9 s 3 2 id why).2.2.1]) h'):
  V4 prog 160 #[at0 f,.int .i64 id,.int .u8 why] h Q:=by
 have nb:¬A0a 3 2 id:=by unfold A0a;omega
 simp[l9,nb] at hn hy
 refine A8z _ id why h Q ?_
 delta A8l bn cb cc ci cu ie kp nn pu vi
 simp
 refine C0U hs fun h3 aj=>?_
 by_cases g1:id∈s.used
 ·simp[g1] at hy⊢
  exact A1B aj 5 id 0 fun b h4 ak=>by simpa using hy b h4 ak
 ·obtain⟨b,bt⟩:=A3a.1 aj
  have c0:W3 h3 ⟨f,0,none⟩=some (at0 b):=bt.cell 0
  obtain⟨_,ag,-⟩:=A01.1 bt.p1
  have hl:=ag.len
  simp[g1,c0] at hn hy⊢
  refine B3B bt.p1 ?_
  by_cases g2:(s.used.length:Int)=s.most
  ·simp[g2] at hn⊢
   exact hn h3 aj
  ·have g3:¬s.most-(s.used.length:Int)=0:=by omega
   simp[g2,g3] at hy⊢
   by_cases g4:why<128
   ·simp[g4,c0] at hy⊢
    have hc:i7 s id=0:=by simp[i7,g1,g2];omega
    refine C26 bt.p1 (fun hx=>absurd hc hx) (fun _ h4 ak=>?_)
    simp
    have ai:=A3a.2 ⟨b,ak.p1⟩
    exact A1B ai 5 id why fun b h5 ai=>by simpa using hy b h5 ai
   ·simp[g4] at hy⊢
    exact A1B aj 5 id why fun b h5 ai=>by simpa using hy b h5 ai
theorem B9q{h:Heap}{R:List Asn}{f:Nat}{s:u6}{p:Pk}{why:Int}(hs:sat h (A0q f s::R)){Q:Value→Heap→Prop}
  (hn:(l9 s p.1 p.2.2.2.1 p.2.2.2.2.1 why).2.1=none→∀h',sat h' (A0q f ⟨s.most,s.taken,(l9 s p.1 p.2.2.2.1 p.2.2.2.2.1 why).2.2.2⟩::R)→Q (.tuple #[.bool (l9 s p.1 p.2.2.2.1 p.2.2.2.2.1 why).1,.slice none 0 0,.int .u8 (l9 s p.1 p.2.2.2.1 p.2.2.2.2.1 why).2.2.1]) h')
  (hy:∀k c,(l9 s p.1 p.2.2.2.1 p.2.2.2.2.1 why).2.1=some (k,c)→∀b h',sat h' (cells b (C7U (C9d k p.2.2.2.2.1 c))::A0q f ⟨s.most,s.taken,(l9 s p.1 p.2.2.2.1 p.2.2.2.2.1 why).2.2.2⟩::R)→
   Q (.tuple #[.bool (l9 s p.1 p.2.2.2.1 p.2.2.2.2.1 why).1,.slice (some ⟨b,0,none⟩) 1 1,.int .u8 (l9 s p.1 p.2.2.2.1 p.2.2.2.2.1 why).2.2.1]) h'):
  V4 prog 107 #[at0 f,D0n p,.int .u8 why] h Q:=by
 refine A7K _ p why h Q ?_
 delta A63 bn cb cc ie ji kp nn nw pu vi
 simp only[U2]
 refine V6 hs fun pb h1 dS=>?_
 obtain⟨cs,fx⟩:∃cs,cs=C7U p:=⟨_,rfl⟩
 have aa:sat h1 (cells pb cs::A0q f s::R):=by rw[fx];exact dS
 clear dS
 have e0:cs[0]? =some (.int .i64 p.1):=by rw[fx];rfl
 have e3:cs[3]? =some (.int .i64 p.2.2.2.1):=by rw[fx];rfl
 have e4:cs[4]? =some (.int .i64 p.2.2.2.2.1):=by rw[fx];rfl
 clear fx
 generalize p.1=k at*
 generalize p.2.2.2.1=q at*
 generalize p.2.2.2.2.1=id at*
 have c0:W3 h1 ⟨pb,0,none⟩=some (.int .i64 k):=(aa.cell 0).trans e0
 have c3:W3 h1 ⟨pb,3,none⟩=some (.int .i64 q):=(aa.cell 3).trans e3
 have c4:W3 h1 ⟨pb,4,none⟩=some (.int .i64 id):=(aa.cell 4).trans e4
 have bad:A0a k q id→Q (.tuple #[.bool false,.slice none 0 0,.int .u8 130]) h1:=fun g=>by
  simp[l9,g] at hn
  exact hn h1 aa.drop
 by_cases k3:k=3
 ·subst k3
  by_cases q0:q<0
  ·have:=bad (by unfold A0a;omega)
   simp[c0,c3,q0]
   exact this
  by_cases q2:2<q
  ·have:=bad (by unfold A0a;omega)
   simp[c0,c3,q0,q2]
   exact this
  by_cases qz:q=0
  ·subst qz
   have nb:¬A0a 3 0 id:=by unfold A0a;omega
   simp[l9,nb] at hn
   have:=hn h1 aa.drop
   simp[c0,c3]
   exact this
  by_cases i1:id<1
  ·have:=bad (by unfold A0a;omega)
   simp[c0,c3,c4,q0,q2,qz,i1]
   exact this
  by_cases i2:65535<id
  ·have:=bad (by unfold A0a;omega)
   simp[c0,c3,c4,q0,q2,qz,i1,i2]
   exact this
  by_cases q1:q=1
  ·subst q1
   have nb:¬A0a 3 1 id:=by unfold A0a;omega
   simp[l9,nb] at hy
   simp[c0,c3,c4,i1,i2]
   refine A1B aa.drop 4 id why fun b h2 ae=>?_
   simpa using hy b h2 ae
  ·have fe:q=2:=by omega
   subst fe
   simp[c0,c3,c4,i1,i2]
   exact C0S aa.drop (by omega) (by omega) (fun g h' af=>by simpa using hn g h' af) (fun k c g b h' af=>by simpa using hy k c g b h' af)
 by_cases k6:k=6
 ·subst k6
  by_cases i1:id<1
  ·have:=bad (by unfold A0a;omega)
   simp[c0,c3,c4,i1]
   exact this
  by_cases i2:65535<id
  ·have:=bad (by unfold A0a;omega)
   simp[c0,c3,c4,i1,i2]
   exact this
  have nb:¬A0a 6 q id:=by unfold A0a;omega
  simp[l9,nb] at hy
  obtain⟨b,jf⟩:=A3a.1 aa.p1
  have f0:W3 h1 ⟨f,0,none⟩=some (at0 b):=jf.cell 0
  simp[c0,c3,c4,i1,i2,f0]
  refine B8I jf.p1 fun h2 ae=>?_
  have aj:sat h2 (cells pb cs::A0q f ⟨s.most,s.taken,s.used.erase id⟩::R):=(A3a.2 ⟨b,ae.p1⟩).p1
  have d0:W3 h2 ⟨pb,0,none⟩=some (.int .i64 6):=(aj.cell 0).trans e0
  have d4:W3 h2 ⟨pb,4,none⟩=some (.int .i64 id):=(aj.cell 4).trans e4
  by_cases hm:id∈s.used
  ·simp[hm,d0,d4] at hy⊢
   refine A1B aj.drop 7 id 0 fun b h4 ak=>?_
   simpa using hy b h4 ak
  ·simp[hm,d0,d4] at hy⊢
   refine A1B aj.drop 7 id 146 fun b h4 ak=>?_
   simpa[hm] using hy b h4 ak
 ·have:=bad (by unfold A0a;omega)
  simp[c0,k3,k6]
  exact this
def B9e:Path→Path→Bool→Bool
 |[],left,_=>left.isEmpty
 |y::r,left,d=>(!d &&decide (y=p7)&&r.isEmpty)||(match left with|[]=>false|x::l=>((!d &&decide (y=u3))||decide (y=x))&&B9e r l false)
theorem A3S(y:B38)(r left:Path)(d:Bool):B9e (y::r) left d=((!d &&decide (y=p7)&&r.isEmpty)||(match left with|[]=>false|x::l=>((!d &&decide (y=u3))||decide (y=x))&&B9e r l false)):=by
 cases left<;>rfl
abbrev QOK(N:Nds):Prop:=∀p nd,W4 N p=some nd→(nd.q.map (·.1)).Nodup
theorem A2p{N:Nds}{L:List Ent}(hA:A1a N L)(hk:QOK N)(p:Path)(e:Ent):e∈A4m N p↔e∈L∧levels e.2.1=p:=by
 unfold A4m
 cases hp:W4 N p with
 |none=>
  simp only[R1,false_iff]
  rintro⟨h1,h2⟩
  have:=(hA.dG p e.1 e.2.2).2 ⟨e.2.1,h2,h1⟩
  unfold ent at this
  rw[hp] at this
  cases this
 |some nd=>
  unfold A09
  constructor
  ·intro h
   obtain⟨kv,xE,rfl⟩:=E4.1 h
   have h1:W4 nd.q kv.1=some kv.2:=A2Y (hk p nd hp) xE
   have h2:ent N p kv.1=some kv.2:=by unfold ent;rw[hp];exact h1
   obtain⟨f,hf,hm⟩:=(hA.dG _ _ _).1 h2
   have:A5Y p=f:=by rw[←hf,A29]
   simp only[this]
   exact⟨hm,hf⟩
  ·rintro⟨h1,h2⟩
   have h3:=(hA.dG p e.1 e.2.2).2 ⟨e.2.1,h2,h1⟩
   unfold ent at h3
   rw[hp] at h3
   refine E4.2 ⟨(e.1,e.2.2),A4f h3,?_⟩
   rw[←h2,A29]
theorem A51{N:Nds}(hk:QOK N)(p:Path):(A4m N p).Nodup:=by
 unfold A4m
 cases hp:W4 N p with
 |none=>exact R4
 |some nd=>
  unfold A09
  have h1:nd.q.Nodup:=List.Pairwise.of_map (·.1) (fun a b db e=>db (by rw[e])) (hk p nd hp)
  refine List.Pairwise.map _ (fun a b db e=>db ?_) h1
  exact Prod.ext (congrArg (fun x:Ent=>x.1) e) (congrArg (fun x:Ent=>x.2.2) e)
theorem B79{rb:Nat}{N:Nds}{L:List Ent}(hT:A0m rb N)(hA:A1a N L){p r:Path}(hp:W4 N p=none){e:Ent}(he:e∈L):levels e.2.1≠p++r:=by
 intro h
 have h1:=(hA.dG (p++r) e.1 e.2.2).2 ⟨e.2.1,h,he⟩
 unfold ent at h1
 cases hq:W4 N (p++r) with
 |none=>rw[hq] at h1;cases h1
 |some nd=>
  obtain⟨nd',h2⟩:=hT.pre _ _ _ hq
  rw[hp] at h2
  cases h2
theorem A2e{α:Type}{d:Bool}{l:List α}{a:α}:a∈(if d=true then[] else l)↔d=false∧a∈l:=by
 cases d<;>simp
theorem A5g{rb:Nat}{N:Nds}{L:List Ent}(hT:A0m rb N)(hA:A1a N L)(hk:QOK N)(e:Ent):∀(left p:Path) (d:Bool),e∈A2f N p left d↔∃r,B9e r left d=true∧e∈L∧levels e.2.1=p++r:=by
 intro left
 induction left with
 |nil=>
  intro p d
  cases hp:W4 N p with
  |none=>
   rw[A4h hp]
   simp only[R1,false_iff]
   rintro⟨r,-,h1,h2⟩
   exact B79 hT hA hp h1 h2
  |some nd=>
   rw[A7y hp,C9,A2e,A2p hA hk,A2p hA hk]
   constructor
   ·rintro(⟨rfl,h1,h2⟩|⟨h1,h2⟩)
    ·exact⟨[p7],by simp[B9e],h1,h2⟩
    ·exact⟨[],rfl,h1,by rw[C2];exact h2⟩
   ·rintro⟨r,hr,h1,h2⟩
    cases r with
    |nil=>rw[C2] at h2;exact .inr ⟨h1,h2⟩
    |cons y r=>
     rw[A3S] at hr
     simp only[Bool.or_false,E9,O0,decide_eq_true_eq,List.isEmpty_iff] at hr
     obtain⟨⟨h3,rfl⟩,rfl⟩:=hr
     exact .inl ⟨h3,h1,h2⟩
 |cons x l ih=>
  intro p d
  cases hp:W4 N p with
  |none=>
   rw[A4h hp]
   simp only[R1,false_iff]
   rintro⟨r,-,h1,h2⟩
   exact B79 hT hA hp h1 h2
  |some nd=>
   rw[A5U hp,C9,C9,A2e,A2e,A2p hA hk,ih,ih]
   constructor
   ·rintro(⟨rfl,h1,h2⟩|⟨rfl,r,hr,h1,h2⟩|⟨r,hr,h1,h2⟩)
    ·exact⟨[p7],by simp[A3S],h1,h2⟩
    ·refine⟨u3::r,?_,h1,by rw[h2];simp⟩
     rw[A3S];simp[hr]
    ·refine⟨x::r,?_,h1,by rw[h2];simp⟩
     rw[A3S];simp[hr]
   ·rintro⟨r,hr,h1,h2⟩
    cases r with
    |nil=>simp[B9e] at hr
    |cons y r=>
     rw[A3S] at hr
     simp only[Bool.or_eq_true,E9,O0,decide_eq_true_eq,List.isEmpty_iff] at hr
     rcases hr with⟨⟨h3,rfl⟩,rfl⟩|⟨⟨h3,rfl⟩|rfl,h4⟩
     ·exact .inl ⟨h3,h1,h2⟩
     ·exact .inr (.inl ⟨h3,r,h4,h1,by rw[h2];simp⟩)
     ·exact .inr (.inr ⟨r,h4,h1,by rw[h2];simp⟩)
theorem B3c{α:Type}{d:Bool}{l:List α}(h:l.Nodup):(if d=true then[] else l).Nodup:=by
 cases d
 ·exact h
 ·exact R4
theorem B9j{rb:Nat}{N:Nds}{L:List Ent}(hT:A0m rb N)(hA:A1a N L)(hk:QOK N):∀(left p:Path) (d:Bool),(∀x∈left,x≠p7∧x≠u3)→(A2f N p left d).Nodup:=by
 intro left
 induction left with
 |nil=>
  intro p d hl
  cases hp:W4 N p with
  |none=>rw[A4h hp];exact R4
  |some nd=>
   rw[A7y hp,G1]
   refine⟨B3c (A51 hk _),A51 hk _,fun a ha b hb e=>?_⟩
   subst e
   have h1:=((A2p hA hk _ _).1 (A2e.1 ha).2).2
   have h2:=((A2p hA hk _ _).1 hb).2
   rw[h1] at h2
   exact A76 _ _ h2
 |cons x l ih=>
  intro p d hl
  cases hp:W4 N p with
  |none=>rw[A4h hp];exact R4
  |some nd=>
   have hx:=hl x (B4 ..)
   have gq:∀y∈l,y≠p7∧y≠u3:=fun y hy=>hl y (C3 _ hy)
   rw[A5U hp,G1,G1]
   refine⟨B3c (A51 hk _),⟨B3c (ih _ _ gq),ih _ _ gq,fun a ha b hb e=>?_⟩,fun a ha b hb e=>?_⟩
   ·subst e
    obtain⟨r1,-,-,h1⟩:=(A5g hT hA hk _ _ _ _).1 (A2e.1 ha).2
    obtain⟨r2,-,-,h2⟩:=(A5g hT hA hk _ _ _ _).1 hb
    rw[h1,D6,D6] at h2
    have:=Q9 h2
    simp at this
    exact hx.2 this.1.symm
   ·subst e
    have h1:=((A2p hA hk _ _).1 (A2e.1 ha).2).2
    rcases C9.1 hb with hb|hb
    ·obtain⟨r2,-,-,h2⟩:=(A5g hT hA hk _ _ _ _).1 (A2e.1 hb).2
     rw[h1,D6] at h2
     have:=Q9 h2
     simp at this
     exact absurd this.1 (by decide)
    ·obtain⟨r2,-,-,h2⟩:=(A5g hT hA hk _ _ _ _).1 hb
     rw[h1,D6] at h2
     have:=Q9 h2
     simp at this
     exact hx.1 this.1.symm
theorem A8W:∀(r left:Path),A4k r=true→(∀x∈left,x≠p7∧x≠u3)→B9e r left false=A2w r left
 |[],left,_,_=>by simp[B9e,A2w]
 |y::r,left,hf,hl=>by
  rw[A7S,E9] at hf
  rw[A3S,A4g]
  by_cases hy:y=p7
  ·have hr:r.isEmpty=true:=by
    have h1:=hf.1
    subst hy
    unfold B28 at h1
    rw[show hasB 35 p7=true from C6f 35] at h1
    cases h2:r.isEmpty with
    |true=>rfl
    |false=>rw[h2] at h1;simp at h1
   simp[hy,hr]
  ·rw[if_neg hy]
   simp only[hy,decide_false,Bool.and_false,J7,S3]
   cases left with
   |nil=>rfl
   |cons x l=>
    have ih:=A8W r l hf.2 fun z hz=>hl z (C3 _ hz)
    simp only[S6,G4]
    by_cases h1:y=u3
    ·simp[h1,ih]
    ·by_cases h2:y=x
     ·simp[h2,ih]
     ·simp[h1,h2]
theorem C56(c b:UInt8)(r:List UInt8)(x:List UInt8)(hx:x≠[]):∃y ys,lev c x r=y::ys∧y.head?=x.head?:=by
 induction r generalizing x with
 |nil=>exact⟨x,[],rfl,rfl⟩
 |cons a r ih=>
  unfold lev
  by_cases h:a=c
  ·rw[if_pos h];exact⟨x,_,rfl,rfl⟩
  ·rw[if_neg h]
   obtain⟨y,ys,h1,h2⟩:=ih (x++[a]) (by simp)
   refine⟨y,ys,h1,?_⟩
   rw[h2]
   cases x with
   |nil=>exact absurd rfl hx
   |cons z x=>rfl
theorem B1W{f y:B38}{r:Path}(hs:f.size≠0)(h:levels f=y::r)(c:UInt8)(hc:c≠47):y.data.toList.head?=some c↔f.get! 0=c:=by
 have hd:=A27 f
 rw[h,B6] at hd
 obtain⟨⟨l⟩⟩:=f
 match l with
 |[]=>exact absurd rfl hs
 |b::l=>
  have e1:(ByteArray.mk (List.toArray (b::l))).get! 0=b:=rfl
  rw[e1]
  have e2:(ByteArray.mk (List.toArray (b::l))).data.toList=b::l:=rfl
  rw[e2] at hd
  unfold lev at hd
  by_cases hb:b=47
  ·rw[if_pos hb] at hd
   have h1:=(List.cons.inj hd).1
   rw[h1]
   simp only[List.head?_nil]
   constructor
   ·intro h;cases h
   ·intro h;exact absurd (h.symm.trans hb) hc
  ·rw[if_neg hb] at hd
   obtain⟨z,zs,h1,h2⟩:=C56 47 b l ([]++[b]) (by simp)
   rw[h1] at hd
   have h3:=(List.cons.inj hd).1
   rw[h3,h2]
   simp
theorem B8t{x:B38}{c:UInt8}(h:x.data.toList.head?=some c):hasB c x=true:=by
 unfold hasB
 rw[decide_eq_true_eq]
 exact List.mem_of_mem_head? (by rw[h];rfl)
theorem B8n(c:UInt8):(ByteArray.mk #[c]).data.toList.head?=some c:=rfl
theorem B30{n:B38}(h:Z6 n=true):∀x∈levels n,x≠p7∧x≠u3:=by
 unfold Z6 at h
 rw[E9,E9,O0,O0] at h
 have key:∀(c:UInt8),c≠47→hasB c n=false→∀x∈levels n,x≠ByteArray.mk #[c]:=by
  intro c hc hn x hx e
  subst e
  have hj:=A29 n
  have:c∈n.data.toList:=by
   rw[←hj]
   unfold A5Y
   have dP:[c]∈(levels n).map (·.data.toList):=E4.2 ⟨_,hx,rfl⟩
   generalize(levels n).map (·.data.toList)=xs at dP
   have go:∀xs:List (List UInt8),[c]∈xs→c∈Lib.join xs [47]:=by
    intro xs dJ
    obtain⟨y,ys,rfl⟩:=N8 (List.ne_nil_of_mem dJ)
    rw[Lib.join_cons]
    rcases D2.1 dJ with e|h
    ·rw[←e];simp
    ·refine G6 _ ?_
     unfold Lib.joinTail
     rw[List.mem_flatten]
     exact⟨[47]++[c],E4.2 ⟨_,h,rfl⟩,by simp⟩
   simpa using go xs dP
  unfold hasB at hn
  rw[decide_eq_false_iff_not] at hn
  exact hn this
 intro x hx
 exact⟨key 35 (by decide) h.2 x hx,key 43 (by decide) h.1.2 x hx⟩
theorem B31{f n:B38}(hf:X6 f=true)(hn:Z6 n=true):B9e (levels f) (levels n) (decide (n.get! 0=36))=Y1 f n:=by
 have hl:=B30 hn
 have hg:A4k (levels f)=true:=by unfold X6 at hf;rw[E9] at hf;exact hf.2
 have hsz:f.size≠0:=(A05.1 (u4 hf)).2.1
 unfold Y1 A36
 rw[hf,hn]
 simp only[G4]
 cases hd:decide (n.get! 0=36) with
 |false=>
  rw[A8W _ _ hg hl]
  simp
 |true=>
  obtain⟨y,r,hy⟩:=N8 (B26 f)
  rw[hy] at hg⊢
  rw[A7S,E9] at hg
  have eu:=B1W hsz hy 43 (by decide)
  have gT:=B1W hsz hy 35 (by decide)
  have an:=hg.1
  unfold B28 at an
  rw[O0,Bool.or_eq_false_iff] at an
  have uO:f.get! 0=43↔y=u3:=by
   rw[←eu]
   constructor
   ·intro h
    have h1:=B8t h
    have h2:=an.1
    rw[h1] at h2
    simpa using h2
   ·intro h;rw[h];exact B8n 43
  have i35:f.get! 0=35↔y=p7:=by
   rw[←gT]
   constructor
   ·intro h
    have h1:=B8t h
    have h2:=an.2
    rw[h1] at h2
    simp only[G4,Bool.or_eq_false_iff,decide_eq_false_iff_not,Decidable.not_not] at h2
    exact h2.1
   ·intro h;rw[h];exact B8n 35
  rw[A3S,A4g]
  simp only[N4,J7,S3,G4]
  by_cases e1:y=u3
  ·have:decide (f.get! 0=43)=true:=decide_eq_true (uO.2 e1)
   rw[this]
   simp only[Bool.true_or,N4,J7]
   cases jZ:levels n with
   |nil=>rfl
   |cons x l=>
    have:=(hl x (by rw[jZ];exact B4 ..)).2
    have:decide (y=x)=false:=decide_eq_false (fun e=>this (e.symm.trans e1))
    simp[this]
  ·by_cases e2:y=p7
   ·have:decide (f.get! 0=35)=true:=decide_eq_true (i35.2 e2)
    rw[this]
    simp only[Bool.or_true,N4,J7]
    cases jZ:levels n with
    |nil=>rfl
    |cons x l=>
     have:=(hl x (by rw[jZ];exact B4 ..)).1
     have:decide (y=x)=false:=decide_eq_false (fun e=>this (e.symm.trans e2))
     simp[this]
   ·have d1:decide (f.get! 0=43)=false:=decide_eq_false (fun e=>e1 (uO.1 e))
    have d2:decide (f.get! 0=35)=false:=decide_eq_false (fun e=>e2 (i35.1 e))
    rw[d1,d2,if_neg e2]
    simp only[Bool.or_false,S6,G4]
    cases jZ:levels n with
    |nil=>rfl
    |cons x l=>
     have ih:=A8W r l hg.2 fun z hz=>hl z (by rw[jZ];exact C3 _ hz)
     by_cases e3:y=x
     ·simp[e3,ih]
     ·simp[e1,e3]
variable {h h0:Heap} {R:List Asn}
theorem C0G{rb:Nat}{N:Nds}{L:List Ent}(hT:A0m rb N)(hA:A1a N L)(hk:QOK N){n:B38}(hn:Z6 n=true):
  (A2f N [] (levels n) (decide (n.get! 0=36))).Perm (L.filter fun x=>Y1 x.2.1 n):=by
 refine(P7 (B9j hT hA hk _ _ _ (B30 hn)) (hA.dF.nodup.filter _)).2 fun e=>?_
 rw[A5g hT hA hk,D9]
 constructor
 ·rintro⟨r,hr,h1,h2⟩
  rw[F0] at h2
  subst h2
  refine⟨h1,?_⟩
  rw[←B31 (hA.bQ _ h1) hn]
  exact hr
 ·rintro⟨h1,h2⟩
  refine⟨levels e.2.1,?_,h1,rfl⟩
  rw[B31 (hA.bQ _ h1) hn]
  exact h2
theorem C08{M:Nds}(hn:(M.map (·.1)).Nodup)(h1:∀q∈M,(A09 q.1 q.2.q).Nodup∧∀e∈A09 q.1 q.2.q,levels e.2.1=q.1):(A1f M).Nodup:=by
 induction M with
 |nil=>exact R4
 |cons q M ih=>
  rw[B6,F4] at hn
  unfold A1f
  rw[D7,G1]
  refine⟨(h1 q (B4 ..)).1,ih hn.2 (fun q' dZ=>h1 q' (C3 _ dZ)),fun a ha b hb e=>?_⟩
  subst e
  obtain⟨q',dZ,hm⟩:=S7.1 hb
  have e1:=(h1 q (B4 ..)).2 a ha
  have e2:=(h1 q' (C3 _ dZ)).2 a hm
  exact hn.1 (E4.2 ⟨q',dZ,by rw[←e2,e1]⟩)
theorem B2i{rb:Nat}{N:Nds}{L:List Ent}(hT:A0m rb N)(hA:A1a N L)(hk:QOK N):(A1f N).Perm L:=by
 have vU:∀q∈N,A4m N q.1=A09 q.1 q.2.q:=fun q hq=>B6m (A2Y hT.keys hq)
 have au:(A1f N).Nodup:=C08 hT.keys fun q hq=>by
  rw[←vU q hq]
  exact⟨A51 hk _,fun e he=>((A2p hA hk _ _).1 he).2⟩
 refine(P7 au hA.dF.nodup).2 fun e=>?_
 unfold A1f
 rw[S7]
 constructor
 ·rintro⟨q,hq,he⟩
  rw[←vU q hq] at he
  exact((A2p hA hk _ _).1 he).1
 ·intro he
  have h1:=(A2p hA hk (levels e.2.1) e).2 ⟨he,rfl⟩
  unfold A4m at h1
  cases hp:W4 N (levels e.2.1) with
  |none=>rw[hp] at h1;simp at h1
  |some nd=>
   rw[hp] at h1
   exact⟨(levels e.2.1,nd),A4f hp,h1⟩
theorem B63{ys L:List Ent}{c:Ent→Bool}(ha:Asc L)(hp:ys.Perm (L.filter c))(hs:ys.Pairwise fun a b=>¬ltK (b8 b) (b8 a)):ys=L.filter c:=C1p hp (ha.filter _) hs
theorem B80:∀{h':Heap},Z8 eS 1 h' ⟨none,0,0⟩ []:=fun{h'}=>⟨rfl,D8 _,fun i x hx=>by simp at hx⟩
theorem B92{t:Nat}{L:List Ent}(ht:TP h0){n:B38}(hsz:n.size≤9223372036854775807)(hl:L.length≤10000)(hs:sat h (j8 t L::old h0::R)){Q:Value→Heap→Prop}
  (hq:∀(s:Slc) h',sat h' (U6 Z9 3 s (L.filter fun x=>Y1 x.2.1 n)::j8 t L::old h0::R)→Q (.slice s.a s.len s.cap) h'):
  V4 prog 80 #[at9 t,.string n] h Q:=by
 refine A8t (some ⟨t,0,none⟩) n h Q ?_
 delta A8c bn cc cu cx ie kp nn pu rq vs vz
 refine V5 (fun x h'=>sat h' (old h0::j8 t L::R)∧x.1= !(Z6 n)) ?_ ?_
 ·rw[U9,if_neg (by simp)]
  refine U7 (A3C hs.p1 ht hsz fun h1 aa=>⟨A2X n,rfl,aa,?_⟩)
  unfold A2X
  cases Z6 n<;>rfl
 clear hs
 rintro⟨x,⟨⟩⟩ h1 ⟨aa,hx⟩
 simp only at hx
 subst hx
 rw[U9]
 by_cases hn:Z6 n=true
 case neg=>
  rw[if_pos (by simpa using hn)]
  have e:(L.filter fun x=>Y1 x.2.1 n)=[]:=by
   rw[J0]
   intro x _ hx
   unfold Y1 at hx
   simp only[E9] at hx
   exact hn hx.1.1.2
  rw[e] at hq
  exact hq ⟨none,0,0⟩ h1 (Z5 aa.p1)
 rw[if_neg (by simp[hn])]
 obtain⟨N,C,hA,hC,ae⟩:=y9.1 aa.p1
 obtain⟨bU,qG⟩:=B4S ae
 have hk:QOK N:=fun p nd hp=>(qG p nd hp).1
 obtain⟨rb,cm,hT,bt⟩:=A1I.1 ae
 have aj:sat h1 (cells t (trC rb cm)::old h0::o8 N::mapA A03 A1u cm C::R):=bt.re [0,3,1,2]
 clear bt ae aa
 have kV:=A05.1 (A4L hn)
 refine⟨_,rfl,some ⟨rb,0,none⟩,by rw[U4];exact aj.cell 0,?_⟩
 (try dsimp only);rw[U2]
 refine⟨n.get! 0,S8 _,A3x (by omega),?_⟩
 refine U7 (A4t aj.p1 ht kV.2.2.1 fun sl h2 bh=>⟨sl,rfl,?_⟩)
 have ak:sat h2 (cells t (trC rb cm)::o8 N::U6 eS 1 sl (levels n)::old h0::mapA A03 A1u cm C::R):=bh.re [2,3,0,1,4]
 clear bh aj
 refine⟨some ⟨rb,0,none⟩,by rw[U4];exact ak.cell 0,rfl,?_⟩
 obtain⟨r,fc,ck⟩:=hT.root
 have ep:(some ⟨rb,0,none⟩:D0s)=(W4 N []).bind fun nd=>l7 nd:=by rw[fc];show _=l7 r;unfold l7;rw[ck]
 have eb:(((n.get! 0).toNat:Int)==36)=decide (n.get! 0=36):=A71 _ 36
 have dC:=C0G hT hA hk hn
 have hlen:(A2f N [] (levels n) (decide (n.get! 0=36))).length≤10000:=by
  rw[dC.length_eq]
  exact C7 (D3 _ _) hl
 rw[ep,eb]
 refine U7 (C2h hT (hA.eZ hk) _ (levels n) [] rfl (A:=U6 eS 1 sl (levels n)) (s1:=⟨none,0,0⟩) (out:=⟨none,0,0⟩) (es:=[]) (by simp only[G7];omega) (fun _=>B80) (fun af=>af.aO A1L) ((Z5 (ak.re [1,2,0,3,4])).p1) (by simp only[G7];omega) fun o l h3 hp ai=>⟨o,rfl,?_⟩)
 rw[F0] at ai
 refine u0 (B68 ai.p1 (by have:=hp.length_eq;omega) fun ys h4 gh fJ aw=>⟨(),rfl,?_⟩)
 have e:=B63 hA.dF (gh.trans (hp.trans dC)) fJ
 subst e
 refine hq o h4 ?_
 have aF:sat h4 (cells t (trC rb cm)::o8 N::mapA A03 A1u cm C::U6 Z9 3 o (L.filter fun x=>Y1 x.2.1 n)::old h0::R):=(aw.re [2,3,1,5,0,4]).drop
 exact(y9.2 ⟨N,C,hA,hC,A1I.2 ⟨rb,cm,hT,aF⟩⟩).p1
abbrev A6i(id:Int)(L:List Ent):List Ent:=L.filter fun x=>decide (x.1=id)
def C2s(x1 x2:Nat)(id:Int)(l:List Ent):Asn:=star (cells x1 #[.int .i64 id]) (exA fun s:Slc=>star (cells x2 #[.slice s.a s.len s.cap]) (U6 Z9 3 s (A6i id l)))
theorem A85{x1 x2:Nat}{id:Int}{l:List Ent}:sat h (C2s x1 x2 id l::R)↔∃s:Slc,sat h (cells x2 #[.slice s.a s.len s.cap]::U6 Z9 3 s (A6i id l)::cells x1 #[.int .i64 id]::R):=by
 unfold C2s
 rw[sat.aI]
 constructor
 ·intro hs
  obtain⟨s,aa⟩:=sat.bA.1 hs.p1
  exact⟨s,sat.aI.1 aa⟩
 ·rintro⟨s,hs⟩
  exact(sat.bA.2 ⟨s,sat.aI.2 hs⟩).p1
theorem C5d{x1 x2:Nat}{id:Int}{l:List Ent}{e:Ent}(hl:l.length≤100000)(hs:sat h (C2s x1 x2 id l::R)){Q:Value→Heap→Prop}(hq:∀h',sat h' (C2s x1 x2 id (l++[e])::R)→Q (.tuple #[]) h'):
  V4 prog 168 #[.agg #[.int .i64 e.1,.string e.2.1,.int .i64 e.2.2],.pointer (some ⟨x1,0,none⟩),.pointer (some ⟨x2,0,none⟩)] h Q:=by
 refine A7i (e.1,e.2.1,e.2.2,()) ⟨x1,0,none⟩ ⟨x2,0,none⟩ h Q ?_
 delta A6z az bn ie ji lc li nw pu sx ve vi vs
 obtain⟨s,aa⟩:=A85.1 hs
 refine V6 aa fun x h1 ae=>?_
 refine⟨e.1,by rw[U4];exact ae.cell 0,id,ae.p3.cell 0,?_⟩
 have cq:(A6i id l).length≤100000:=C7 (D3 _ _) hl
 refine V5 (fun _ h'=>sat h' (C2s x1 x2 id (l++[e])::R)) ?_ ?_
 ·(try dsimp only);rw[U9]
  by_cases hid:e.1=id
  ·rw[if_pos (by simpa using hid)]
   refine⟨s,ae.p1.cell 0,?_⟩
   refine Y8 (ts:=[.int .i64,.str,.int .i64]) (e.1,e.2.1,e.2.2,()) ae rfl ?_
   refine V6 ae fun y h2 aj=>?_
   (try dsimp only);rw[U2]
   refine A0k (enc:=Z9) (ys:=[e]) A0W A35 rfl aj.p3 rfl ?_ (by decide) (by decide) (by omega) fun s' h3 ak=>?_
   ·simp only[V9,N0,D7,I1,C2]
    exact aj.reads rfl
   (try dsimp only);rw[U2]
   refine W7 ak.p3 (by simp) rfl fun h4 ai=>?_
   have e1:A6i id (l++[e])=A6i id l++[e]:=by simp[A6i,F2,hid]
   refine A85.2 ⟨s',?_⟩
   rw[e1]
   exact(ai.re [2,3,0,1,4]).drop.drop
  ·rw[if_neg (by simpa using hid)]
   have e1:A6i id (l++[e])=A6i id l:=by simp[A6i,F2,hid]
   refine A85.2 ⟨s,?_⟩
   rw[e1]
   exact ae.drop
 rintro⟨⟩ h2 ae
 exact hq h2 ae
theorem C32{t:Nat}{L:List Ent}{id:Int}(hl:L.length≤10000)(hs:sat h (j8 t L::R)){Q:Value→Heap→Prop}
  (hq:∀(s:Slc) h',sat h' (U6 Z9 3 s (A6i id L)::j8 t L::R)→Q (.slice s.a s.len s.cap) h'):
  V4 prog 116 #[at9 t,.int .i64 id] h Q:=by
 refine A9F (some ⟨t,0,none⟩) id h Q ?_
 delta A90 az cx ie kp lc nn nw pu vi vs vz
 refine V6 hs fun x1 h1 aa=>?_
 (try dsimp only);rw[U9,if_neg (by simp)]
 refine V6 aa fun x2 h2 ae=>?_
 obtain⟨N,C,hA,hC,aj⟩:=y9.1 ae.p2
 obtain⟨bU,qG⟩:=B4S aj
 have hk:QOK N:=fun p nd hp=>(qG p nd hp).1
 obtain⟨rb,cm,hT,bh⟩:=A1I.1 aj
 have ak:sat h2 (cells t (trC rb cm)::o8 N::mapA A03 A1u cm C::cells x2 #[.slice none 0 0]::cells x1 #[.int .i64 id]::R):=bh
 clear bh aj ae aa hs
 have hp:=B2i hT hA hk
 obtain⟨r,fc,ck⟩:=hT.root
 refine⟨_,rfl,some ⟨rb,0,none⟩,by rw[U4];exact ak.cell 0,?_⟩
 have ep:(Value.pointer (some ⟨rb,0,none⟩))=.pointer (l7 r):=by unfold l7;rw[ck]
 (try dsimp only);rw[ep]
 have hJ:sat h2 (C2s x1 x2 id []::cells t (trC rb cm)::o8 N::mapA A03 A1u cm C::R):=by
  refine A85.2 ⟨⟨none,0,0⟩,?_⟩
  have:=Z5 (enc:=Z9) (size:=3) (ak.re [3,4,0,1,2])
  exact this.p1
 refine u0 (C1t hT (hA.eZ hk) (yv:=.func (.func 168) #[] #[.pointer (some ⟨x1,0,none⟩),.pointer (some ⟨x2,0,none⟩)]) (J:=C2s x1 x2 id)
  (fun l e h R Q gM af dZ=>⟨_,_,_,rfl,call168,C5d gM af fun h' jG=>⟨(),rfl,dZ h' jG⟩⟩)
  _ [] r rfl fc (A:=cells t (trC rb cm)) (s:=⟨none,0,0⟩) (l:=[]) (fun _=>B80) (by rw[A31];exact hJ.re [2,0,1,3]) (by rw[A31,hp.length_eq];simp;omega) fun l' h3 gq ai=>⟨(),rfl,?_⟩)
 rw[A31] at gq ai
 rw[F0] at ai
 obtain⟨s,aw⟩:=A85.1 ai.p1
 clear ai ak hJ
 refine⟨s,aw.cell 0,?_⟩
 have xC:l'.length≤10000:=by rw[gq.length_eq,hp.length_eq];exact hl
 refine u0 (B68 aw.p1 (C7 (D3 _ _) (by omega)) fun ys h4 gh fJ aF=>⟨(),rfl,?_⟩)
 have e:=B63 hA.dF (gh.trans ((gq.trans hp).filter _)) fJ
 subst e
 refine⟨s,aF.p1.cell 0,?_⟩
 refine hq s h4 ?_
 have bq:sat h4 (cells t (trC rb cm)::o8 N::mapA A03 A1u cm C::U6 Z9 3 s (A6i id L)::R):=(aF.re [1,2,4,3,5,0]).drop.drop
 exact(y9.2 ⟨N,C,hA,hC,A1I.2 ⟨rb,cm,hT,bq⟩⟩).p1
end
section
open Go.H Go.Proofs
variable {h h0:Heap} {R:List Asn}
theorem A4X{t:Nat}{L:List Ent}(hs:sat h (j8 t L::R)):(∀x∈L,X6 x.2.1=true)∧Asc L:=by
 obtain⟨N,C,hA,-,-⟩:=y9.1 hs
 exact⟨hA.bQ,hA.dF⟩
def C0y(D:List Ent)(x:Ent):Bool:= !(D.any fun y=>decide (y=x))
theorem B5M{D:List Ent}{x:Ent}:C0y D x=true↔x∉D:=by
 unfold C0y
 rw[O0,List.any_eq_false]
 constructor
 ·intro h hx
  have:=h x hx
  simp at this
 ·intro h y hy e
  rw[decide_eq_true_eq] at e
  exact h (e▸hy)
abbrev A1l(id:Int)(L:List Ent):List Ent:=L.filter fun x=> !decide (x.1=id)
theorem C1J{t:Nat}{L:List Ent}(ht:TP h0){id:Int}(hl:L.length≤10000)(hs:sat h (j8 t L::old h0::R)){Q:Value→Heap→Prop}
  (hq:∀h',sat h' (j8 t (A1l id L)::old h0::R)→Q (.int .i64 ((A6i id L).length:Nat)) h'):
  V4 prog 71 #[at9 t,.int .i64 id] h Q:=by
 refine A8E (some ⟨t,0,none⟩) id h Q ?_
 delta A8F bn cb cc ie ix jt nw pu sn ve vi wi
 obtain⟨bC,fz⟩:=A4X hs
 refine U7 (C32 hl hs fun s h1 aa=>⟨s,rfl,?_⟩)
 have hlen:=aa.aW
 have yP:(A6i id L).length≤L.length:=D3 _ _
 have hD:∀e,e∈A6i id L↔e∈L∧e.1=id:=fun e=>by rw[D9,decide_eq_true_eq]
 have ca:(L.filter fun x=>C0y (A6i id L) x)=A1l id L:=by
  refine K8 fun x hx=>?_
  apply Bool.eq_iff_iff.2
  rw[B5M,hD,O0,decide_eq_false_iff_not]
  constructor
  ·exact fun h e=>h ⟨hx,e⟩
  ·exact fun h e=>h e.2
 generalize yQ:A6i id L=D at*
 (try dsimp only);rw[U2]
 refine o0 (γ:=Nat) (hb:=fun s=>by
   repeat' with_reducible first
    |refine @A0z _ _ _ _ ?_ (fun _=>?_)
    |refine @A07 _ _ _ _ ?_ ?_
    |refine @A2d _ _ _ ?_
   all_goals infer_instance)
  (fun g x h'=>g≤D.length∧x.1=(g:Int)∧sat h' (U6 Z9 3 s D::j8 t (L.filter fun x=>C0y (D.take g) x)::old h0::R)) (fun g=>D.length-g) 0
  ⟨D1 _,rfl,by
   have e0:(L.filter fun x=>C0y (D.take 0) x)=L:=H4.2 fun x _=>rfl
   rw[e0];exact aa⟩ ?_
 clear aa hs
 rintro i ⟨ci,⟨⟩⟩ h2 ⟨hi,bO,ae⟩
 simp only at hi bO ae
 subst bO
 have next:IntKind.wrap .i64 ((i:Int)+1)=((i+1:Nat):Int):=by rw[V8 (by omega) (by omega)];rfl
 simp only[U9,decide_eq_true_eq]
 by_cases ah:i<D.length
 ·rw[if_pos (by omega),U2]
  have hx:=B0 ah
  generalize D[i]=e at hx
  have xR:=F3 hx
  obtain⟨vP,qU⟩:=(hD e).1 xR
  refine X9 (ae.aO A0W) hx fun a ha=>?_
  refine A0v (ts:=[.int .i64,.str,.int .i64]) (e.1,e.2.1,e.2.2,()) (fun j v hv=>ha j v hv) ?_
  refine V6 ae fun x6 h3 aj=>?_
  (try dsimp only);rw[U2]
  refine l6 aj rfl rfl fun h4 bh=>?_
  have ak:sat h4 (j8 t (L.filter fun x=>C0y (D.take i) x)::old h0::U6 Z9 3 s D::cells x6 #[.int .i64 e.1,.string e.2.1,.int .i64 e.2.2]::R):=bh.re [2,3,1,0]
  clear bh aj ae
  refine⟨e.2.1,by rw[U4];exact ak.p3.cell 1,?_⟩
  have yM:=A2k (u4 (bC e vP))
  refine U7 (B1b ht (by omega) (C7 (D3 _ _) (by omega)) ak fun h5 ai=>⟨_,rfl,?_⟩)
  have dQ:A1R (L.filter fun x=>C0y (D.take i) x) id e.2.1=L.filter fun x=>C0y (D.take (i+1)) x:=by
   unfold A1R
   rw[R7]
   refine K8 fun x wW=>?_
   have pZ:D.take (i+1)=D.take i++[e]:=by rw[I0,hx];rfl
   rw[pZ]
   have fT:b8 x=(id,e.2.1)↔x=e:=by
    constructor
    ·intro hk
     exact fz.key wW vP (hk.trans (by rw[←qU]))
    ·rintro rfl
     rw[←qU]
   apply Bool.eq_iff_iff.2
   rw[E9,decide_eq_true_eq,B5M,B5M,C9,B8]
   constructor
   ·rintro⟨h1,h2⟩ (h3|h3)
    ·exact h2 h3
    ·exact h1 (fT.2 h3)
   ·exact fun h1=>⟨fun h2=>h1 (.inr (fT.1 h2)),fun h2=>h1 (.inl h2)⟩
  rw[dQ] at ai
  simp only[D5,E7,V2]
  exact .mk (i+1) (by omega) ⟨by omega,next,(ai.re [3,2,0,1]).drop⟩
 ·rw[if_neg (by omega)]
  have:i=D.length:=by omega
  subst this
  rw[F5,ca] at ae
  simp only[D5,E7,V2]
  rw[hlen]
  exact hq h2 ae.drop
def A0J(r:Nat)(L:List Ent):Asn:=exA fun s:Slc=>star (cells r #[.slice s.a s.len s.cap]) (U6 Z9 3 s L)
theorem A1A{r:Nat}{L:List Ent}:sat h (A0J r L::R)↔∃s:Slc,sat h (cells r #[.slice s.a s.len s.cap]::U6 Z9 3 s L::R):=by
 unfold A0J
 rw[sat.bA]
 constructor
 ·rintro⟨s,hs⟩;exact⟨s,sat.aI.1 hs⟩
 ·rintro⟨s,hs⟩;exact⟨s,sat.aI.2 hs⟩
theorem A3L{α:Type}{L:List α}{i:Nat}{x:α}(hx:L[i]? =some x)(c:α→Bool):(L.take (i+1)).filter c=(L.take i).filter c++(if c x=true then[x] else[]):=by
 rw[I0,hx,F2]
 simp only[Option.toList_some,H8,J5]
theorem B86{r:Nat}{L:List Ent}{id:Int}{f:B38}(hl:L.length≤10000)(hs:sat h (A0J r L::R)){Q:Value→Heap→Prop}
  (hq:∀h',sat h' (A0J r (A1R L id f)::R)→Q (.bool (decide ((A1R L id f).length<L.length))) h'):
  V4 prog 198 #[at9 r,.int .i64 id,.string f] h Q:=by
 refine B0J (some ⟨r,0,none⟩) id f h Q ?_
 delta B1v az bn ie ix kc ki kt nn nw pu sx ve vi vs wi
 obtain⟨s,aa⟩:=A1A.1 hs
 have hlen:=aa.p1.aW
 rw[U2]
 refine o0 (γ:=Nat) (hb:=fun s=>by
   repeat' with_reducible first
    |refine @A0z _ _ _ _ ?_ (fun _=>?_)
    |refine @A07 _ _ _ _ ?_ ?_
    |refine @A2d _ _ _ ?_
   all_goals infer_instance)
  (fun g x h'=>g≤L.length∧x.2.1=(g:Int)∧sat h' (cells r #[.slice s.a s.len s.cap]::U6 Z9 3 s L::U6 Z9 3 x.1 (A1R (L.take g) id f)::R)) (fun g=>L.length-g) 0
  ⟨D1 _,rfl,by simpa[A1R] using(Z5 (enc:=Z9) (size:=3) aa).re [1,2,0]⟩ ?_
 clear aa hs
 rintro i ⟨o,ci,⟨⟩⟩ h2 ⟨hi,bO,ae⟩
 simp only at hi bO ae
 subst bO
 have next:IntKind.wrap .i64 ((i:Int)+1)=((i+1:Nat):Int):=by rw[V8 (by omega) (by omega)];rfl
 have cr:∀{h':Heap} {R':List Asn},sat h' (cells r #[.slice s.a s.len s.cap]::R')→W3 h' ⟨r,0,none⟩=some (.slice s.a s.len s.cap):=fun af=>af.cell 0
 refine⟨_,rfl,s,by rw[U4];exact cr ae,?_⟩
 (try dsimp only);rw[U9]
 by_cases ah:i<L.length
 ·rw[if_pos (by simp only[decide_eq_true_eq];omega)]
  have hx:=B0 ah
  generalize L[i]=e at hx
  refine V5 (fun x h'=>h'=h2∧x.1=decide (b8 e≠(id,f))) ?_ ?_
  ·refine⟨_,rfl,s,by rw[U4];exact cr ae,?_⟩
   (try dsimp only);rw[U2]
   refine X9 (ae.p1.aO A0W) hx fun a ha=>?_
   refine⟨e.1,ha 0 _ rfl,?_⟩
   (try dsimp only);rw[U9]
   by_cases h1:e.1=id
   ·rw[if_neg (by simp[h1])]
    refine⟨_,rfl,s,by rw[U4];exact cr ae,?_⟩
    (try dsimp only);rw[U2]
    refine X9 (ae.p1.aO A0W) hx fun a ha=>?_
    refine⟨e.2.1,ha 1 _ rfl,rfl,?_⟩
    simp[h1]
   ·rw[if_pos (by simp[h1])]
    exact⟨rfl,by simp[h1]⟩
  rintro⟨x,⟨⟩⟩ h3 ⟨rfl,uR⟩
  simp only at uR
  subst uR
  have fa:=A3L hx (fun x:Ent=>decide (b8 x≠(id,f)))
  have oU:(A1R (L.take i) id f).length≤10000:=C7 (D3 _ _) (by rw[E6];omega)
  refine V5 (fun z h'=>sat h' (cells r #[.slice s.a s.len s.cap]::U6 Z9 3 s L::U6 Z9 3 z.1 (A1R (L.take (i+1)) id f)::R)) ?_ ?_
  ·(try dsimp only);rw[U9]
   unfold A1R at oU ae⊢
   rw[fa]
   by_cases hk:decide (b8 e≠(id,f))=true
   ·rw[if_pos hk,if_pos hk]
    refine⟨_,rfl,s,by rw[U4];exact cr ae,?_⟩
    (try dsimp only);rw[U2]
    refine X9 (ae.p1.aO A0W) hx fun a ha=>?_
    refine A0v (ts:=[.int .i64,.str,.int .i64]) (e.1,e.2.1,e.2.2,()) (fun j v hv=>ha j v hv) ?_
    refine V6 ae fun y h4 aj=>?_
    (try dsimp only);rw[U2]
    refine A0k (enc:=Z9) (ys:=[e]) A0W A35 rfl aj.p3 rfl ?_ (by decide) (by decide) (by omega) fun s' h5 ak=>?_
    ·simp only[V9,N0,D7,I1,C2]
     exact aj.reads rfl
    exact(ak.re [1,2,3,0]).drop
   ·rw[if_neg hk,if_neg hk,C2]
    exact ae
  rintro⟨o',⟨⟩⟩ h4 ak
  simp only[D5,E7,V2]
  exact .mk (i+1) (by omega) ⟨by omega,next,ak⟩
 ·rw[if_neg (by simp only[decide_eq_true_eq];omega)]
  have:i=L.length:=by omega
  subst this
  rw[F5] at ae
  simp only[D5,E7,V2]
  have gB:=ae.p2.aW
  refine⟨_,rfl,s,by rw[U4];exact cr ae,_,rfl,?_⟩
  (try dsimp only);rw[U2,U4]
  refine W7 ae (by simp) rfl fun h5 ai=>?_
  have:=hq h5 (A1A.2 ⟨o,(ai.re [1,0,2]).drop⟩)
  have e1:decide (((o.len:Nat):Int)<((s.len:Nat):Int))=decide ((A1R L id f).length<L.length):=by
   rw[G0,gB,hlen];omega
  rw[←e1] at this
  exact this
theorem C14{r:Nat}{L:List Ent}{id:Int}(hl:L.length≤10000)(hs:sat h (A0J r L::R)){Q:Value→Heap→Prop}
  (hq:∀h',sat h' (A0J r (A1l id L)::R)→Q (.int .i64 ((A6i id L).length:Nat)) h'):
  V4 prog 134 #[at9 r,.int .i64 id] h Q:=by
 refine B2Z (some ⟨r,0,none⟩) id h Q ?_
 delta B5C az bn ie ix kc ki nn nw pu sx ve vi vs wi
 obtain⟨s,aa⟩:=A1A.1 hs
 have hlen:=aa.p1.aW
 rw[U2]
 refine o0 (γ:=Nat) (hb:=fun s=>by
   repeat' with_reducible first
    |refine @A0z _ _ _ _ ?_ (fun _=>?_)
    |refine @A07 _ _ _ _ ?_ ?_
    |refine @A2d _ _ _ ?_
   all_goals infer_instance)
  (fun g x h'=>g≤L.length∧x.2.1=(g:Int)∧sat h' (cells r #[.slice s.a s.len s.cap]::U6 Z9 3 s L::U6 Z9 3 x.1 (A1l id (L.take g))::R)) (fun g=>L.length-g) 0
  ⟨D1 _,rfl,by simpa[A1l] using(Z5 (enc:=Z9) (size:=3) aa).re [1,2,0]⟩ ?_
 clear aa hs
 rintro i ⟨o,ci,⟨⟩⟩ h2 ⟨hi,bO,ae⟩
 simp only at hi bO ae
 subst bO
 have next:IntKind.wrap .i64 ((i:Int)+1)=((i+1:Nat):Int):=by rw[V8 (by omega) (by omega)];rfl
 have cr:∀{h':Heap} {R':List Asn},sat h' (cells r #[.slice s.a s.len s.cap]::R')→W3 h' ⟨r,0,none⟩=some (.slice s.a s.len s.cap):=fun af=>af.cell 0
 refine⟨_,rfl,s,by rw[U4];exact cr ae,?_⟩
 (try dsimp only);rw[U9]
 by_cases ah:i<L.length
 ·rw[if_pos (by simp only[decide_eq_true_eq];omega)]
  have hx:=B0 ah
  generalize L[i]=e at hx
  refine⟨_,rfl,s,by rw[U4];exact cr ae,?_⟩
  (try dsimp only);rw[U2]
  refine X9 (ae.p1.aO A0W) hx fun a ha=>?_
  refine⟨e.1,ha 0 _ rfl,?_⟩
  have fa:=A3L hx (fun x:Ent=> !decide (x.1=id))
  have oU:(A1l id (L.take i)).length≤10000:=C7 (D3 _ _) (by rw[E6];omega)
  refine V5 (fun z h'=>sat h' (cells r #[.slice s.a s.len s.cap]::U6 Z9 3 s L::U6 Z9 3 z.1 (A1l id (L.take (i+1)))::R)) ?_ ?_
  ·(try dsimp only);rw[U9]
   unfold A1l at oU ae⊢
   rw[fa]
   have eb:(!(e.1==id))=(!decide (e.1=id)):=rfl
   by_cases hk:(!decide (e.1=id))=true
   ·rw[if_pos (by rw[eb];exact hk),if_pos hk]
    refine⟨_,rfl,s,by rw[U4];exact cr ae,?_⟩
    (try dsimp only);rw[U2]
    refine X9 (ae.p1.aO A0W) hx fun a ha=>?_
    refine A0v (ts:=[.int .i64,.str,.int .i64]) (e.1,e.2.1,e.2.2,()) (fun j v hv=>ha j v hv) ?_
    refine V6 ae fun y h4 aj=>?_
    (try dsimp only);rw[U2]
    refine A0k (enc:=Z9) (ys:=[e]) A0W A35 rfl aj.p3 rfl ?_ (by decide) (by decide) (by omega) fun s' h5 ak=>?_
    ·simp only[V9,N0,D7,I1,C2]
     exact aj.reads rfl
    exact(ak.re [1,2,3,0]).drop
   ·rw[if_neg (by rw[eb];exact hk),if_neg hk,C2]
    exact ae
  rintro⟨o',⟨⟩⟩ h4 ak
  simp only[D5,E7,V2]
  exact .mk (i+1) (by omega) ⟨by omega,next,ak⟩
 ·rw[if_neg (by simp only[decide_eq_true_eq];omega)]
  have:i=L.length:=by omega
  subst this
  rw[F5] at ae
  simp only[D5,E7,V2]
  have gB:=ae.p2.aW
  refine⟨_,rfl,s,by rw[U4];exact cr ae,_,rfl,?_⟩
  (try dsimp only);rw[U2,U4]
  refine W7 ae (by simp) rfl fun h5 ai=>?_
  have:=hq h5 (A1A.2 ⟨o,(ai.re [1,0,2]).drop⟩)
  have ti:(A6i id L).length+(A1l id L).length=L.length:=by
   have:=(List.filter_append_perm (fun x:Ent=>decide (x.1=id)) L).length_eq
   rw[B5] at this
   exact this
  have e1:IntKind.wrap .i64 (((s.len:Nat):Int)-((o.len:Nat):Int))=(((A6i id L).length:Nat):Int):=by
   rw[gB,hlen,V8 (by omega) (by omega)];omega
  (try dsimp only)
  rw[e1]
  exact this
theorem B87{r:Nat}{L:List Ent}{n:B38}(hg:∀x∈L,x.2.1.size≤9223372036854775800)(hsz:n.size≤9223372036854775800)(hl:L.length≤10000)(hs:sat h (A0J r L::R)){Q:Value→Heap→Prop}
  (hq:∀(o:Slc) h',sat h' (U6 Z9 3 o (L.filter fun x=>Y1 x.2.1 n)::A0J r L::R)→Q (.slice o.a o.len o.cap) h'):
  V4 prog 137 #[at9 r,.string n] h Q:=by
 refine B1x (some ⟨r,0,none⟩) n h Q ?_
 delta B3S az bn cb ie ix kc kt nn nw pu ve vi wi
 obtain⟨s,aa⟩:=A1A.1 hs
 have hlen:=aa.p1.aW
 rw[U2]
 refine o0 (γ:=Nat) (hb:=fun s=>by
   repeat' with_reducible first
    |refine @A0z _ _ _ _ ?_ (fun _=>?_)
    |refine @A07 _ _ _ _ ?_ ?_
    |refine @A2d _ _ _ ?_
   all_goals infer_instance)
  (fun g x h'=>g≤L.length∧x.2.1=(g:Int)∧sat h' (cells r #[.slice s.a s.len s.cap]::U6 Z9 3 s L::U6 Z9 3 x.1 ((L.take g).filter fun x=>Y1 x.2.1 n)::R)) (fun g=>L.length-g) 0
  ⟨D1 _,rfl,by simpa using(Z5 (enc:=Z9) (size:=3) aa).re [1,2,0]⟩ ?_
 clear aa hs
 rintro i ⟨o,ci,⟨⟩⟩ h2 ⟨hi,bO,ae⟩
 simp only at hi bO ae
 subst bO
 have next:IntKind.wrap .i64 ((i:Int)+1)=((i+1:Nat):Int):=by rw[V8 (by omega) (by omega)];rfl
 have cr:∀{h':Heap} {R':List Asn},sat h' (cells r #[.slice s.a s.len s.cap]::R')→W3 h' ⟨r,0,none⟩=some (.slice s.a s.len s.cap):=fun af=>af.cell 0
 refine⟨_,rfl,s,by rw[U4];exact cr ae,?_⟩
 (try dsimp only);rw[U9]
 by_cases ah:i<L.length
 ·rw[if_pos (by simp only[decide_eq_true_eq];omega)]
  have hx:=B0 ah
  generalize L[i]=e at hx
  refine⟨_,rfl,s,by rw[U4];exact cr ae,?_⟩
  (try dsimp only);rw[U2]
  refine X9 (ae.p1.aO A0W) hx fun a ha=>?_
  refine⟨e.2.1,ha 1 _ rfl,?_⟩
  refine U7 (B3W ae (hg e (F3 hx)) hsz fun h3 aj=>⟨Y1 e.2.1 n,rfl,?_⟩)
  have fa:=A3L hx (fun x:Ent=>Y1 x.2.1 n)
  have oU:((L.take i).filter fun x=>Y1 x.2.1 n).length≤10000:=C7 (D3 _ _) (by rw[E6];omega)
  refine V5 (fun z h'=>sat h' (cells r #[.slice s.a s.len s.cap]::U6 Z9 3 s L::U6 Z9 3 z.1 ((L.take (i+1)).filter fun x=>Y1 x.2.1 n)::R)) ?_ ?_
  ·(try dsimp only);rw[U9,fa]
   by_cases hk:Y1 e.2.1 n=true
   ·rw[if_pos hk,if_pos hk]
    refine⟨_,rfl,s,by rw[U4];exact cr aj,?_⟩
    (try dsimp only);rw[U2]
    refine X9 (aj.p1.aO A0W) hx fun a ha=>?_
    refine A0v (ts:=[.int .i64,.str,.int .i64]) (e.1,e.2.1,e.2.2,()) (fun j v hv=>ha j v hv) ?_
    refine V6 aj fun y h4 ak=>?_
    (try dsimp only);rw[U2]
    refine A0k (enc:=Z9) (ys:=[e]) A0W A35 rfl ak.p3 rfl ?_ (by decide) (by decide) (by omega) fun s' h5 ai=>?_
    ·simp only[V9,N0,D7,I1,C2]
     exact ak.reads rfl
    exact(ai.re [1,2,3,0]).drop
   ·rw[if_neg hk,if_neg hk,C2]
    exact aj
  rintro⟨o',⟨⟩⟩ h4 ak
  simp only[D5,E7,V2]
  exact .mk (i+1) (by omega) ⟨by omega,next,ak⟩
 ·rw[if_neg (by simp only[decide_eq_true_eq];omega)]
  have:i=L.length:=by omega
  subst this
  rw[F5] at ae
  simp only[D5,E7,V2]
  refine hq o h2 ?_
  exact(A1A.2 ⟨s,ae.re [0,1,2]⟩).p1
end
section
open Go.H Go.Proofs
variable {h h0:Heap} {R:List Asn}
theorem C2Y(hs:sat h R){a b:Ent}{Q:Value→Heap→Prop}(hq:∀h',sat h' R→Q (.bool (decide (ltK (b8 a) (b8 b)))) h'):
  V4 prog 247 #[.agg #[.int .i64 a.1,.string a.2.1,.int .i64 a.2.2],.agg #[.int .i64 b.1,.string b.2.1,.int .i64 b.2.2]] h Q:=by
 refine B1u (a.1,a.2.1,a.2.2,()) (b.1,b.2.1,b.2.2,()) h Q ?_
 delta B3R bn ie ji jt nw pu vi
 refine V6 hs fun x1 h1 aa=>?_
 refine V6 aa fun x2 h2 ae=>?_
 refine V5 (fun z h'=>h'=h2∧z.1=decide (ltK (b8 a) (b8 b))) ?_ ?_
 ·refine⟨a.1,by rw[U4];exact ae.p1.cell 0,b.1,by rw[U4];exact ae.cell 0,?_⟩
  (try dsimp only);rw[U9]
  by_cases h1:a.1<b.1
  ·rw[if_pos (by simpa using h1)]
   exact⟨rfl,(decide_eq_true (.inl h1)).symm⟩
  ·rw[if_neg (by simpa using h1)]
   refine⟨a.1,by rw[U4];exact ae.p1.cell 0,b.1,by rw[U4];exact ae.cell 0,?_⟩
   (try dsimp only);rw[U9]
   by_cases h2:a.1=b.1
   ·rw[if_pos (by simpa using h2)]
    refine⟨a.2.1,by rw[U4];exact ae.p1.cell 1,b.2.1,by rw[U4];exact ae.cell 1,rfl,?_⟩
    apply Bool.eq_iff_iff.2
    rw[C0I,decide_eq_true_eq,decide_eq_true_eq]
    constructor
    ·intro h3;exact .inr ⟨h2,h3⟩
    ·rintro(h3|h3)
     ·exact absurd h3 h1
     ·exact h3.2
   ·rw[if_neg (by simpa using h2)]
    refine⟨rfl,(decide_eq_false ?_).symm⟩
    rintro(h3|h3)
    ·exact h1 h3
    ·exact h2 h3.1
 rintro⟨z,⟨⟩⟩ h3 ⟨rfl,hz⟩
 simp only at hz
 subst hz
 exact hq h3 ae.drop.drop
theorem C6A{L:List Ent}{i:Nat}{x:Ent}(hx:L[i]? =some x)(k:Int):A1e (L.take (i+1)) k=A1e (L.take i) k+if x.1=k then 1 else 0:=by
 unfold A1e
 rw[I0,hx,C0,List.count_append]
 simp[List.count_cons]
theorem C4o{r:Nat}{L:List Ent}{id q:Int}{f:B38}(hsz:f.size≤9223372036854775800)(hl:L.length≤10000)(hs:sat h (A0J r L::R)){Q:Value→Heap→Prop}
  (an:X6 f=false→∀h',sat h' (A0J r L::R)→Q (.int .i64 143) h')
  (ft:X6 f=true→(q<0∨2<q)→∀h',sat h' (A0J r L::R)→Q (.int .i64 155) h')
  (cR:X6 f=true→0≤q→q≤2→∀i x,L[i]? =some x→b8 x=(id,f)→(∀y∈L.take i,b8 y≠(id,f))→∀h',sat h' (A0J r (L.set i (id,f,q))::R)→Q (.int .i64 0) h')
  (ax:X6 f=true→0≤q→q≤2→(∀x∈L,b8 x≠(id,f))→64≤A1e L id→∀h',sat h' (A0J r L::R)→Q (.int .i64 151) h')
  (iZ:X6 f=true→0≤q→q≤2→(∀x∈L,b8 x≠(id,f))→A1e L id<64→∀h',sat h' (A0J r (A2y ltK b8 (id,f,q) L)::R)→Q (.int .i64 0) h'):
  V4 prog 196 #[at9 r,C5i id f q] h Q:=by
 refine B4A (some ⟨r,0,none⟩) (id,f,q,()) h Q ?_
 delta B70 az bn cb ci ie ix ji jt kc ki kt nn nw pu sx ve vi vs wi
 refine V6 hs fun x1 h1 aa=>?_
 have hE:∀{h':Heap} {R':List Asn},sat h' (cells x1 #[.int .i64 id,.string f,.int .i64 q]::R')→W3 h' ⟨x1,0,none⟩=some (.int .i64 id)∧W3 h' ⟨x1,1,none⟩=some (.string f)∧W3 h' ⟨x1,2,none⟩=some (.int .i64 q):=fun af=>⟨af.cell 0,af.cell 1,af.cell 2⟩
 refine⟨f,by rw[U4];exact(hE aa).2.1,?_⟩
 refine U7 (A5N aa hsz fun h2 ae=>⟨B0i f,rfl,?_⟩)
 clear aa hs
 (try dsimp only);rw[U9]
 unfold B0i
 by_cases hf:X6 f=true
 case neg=>
  rw[if_neg hf,if_pos (by decide)]
  exact an (by simpa using hf) h2 ae.drop
 rw[if_pos hf,if_neg (by decide)]
 clear an
 refine V5 (fun x h'=>h'=h2∧(x.1=true↔(q<0∨2<q))) ?_ ?_
 ·refine⟨q,by rw[U4];exact(hE ae).2.2,?_⟩
  (try dsimp only);rw[U9]
  by_cases g1:q<0
  ·rw[if_pos (by simpa using g1)]
   exact⟨rfl,by simp[g1]⟩
  ·rw[if_neg (by simpa using g1)]
   exact⟨q,by rw[U4];exact(hE ae).2.2,rfl,by simp[g1]⟩
 rintro⟨x,⟨⟩⟩ h3 ⟨rfl,hx⟩
 simp only at hx
 rw[U9]
 by_cases g:q<0∨2<q
 ·rw[if_pos (hx.2 g)]
  exact ft hf g h3 ae.drop
 rw[if_neg (fun e=>g (hx.1 e))]
 clear hx ft
 have iQ:0≤q:=by omega
 have fe:q≤2:=by omega
 clear g
 obtain⟨s,bt⟩:=A1A.1 ae.p1
 have aj:sat h3 (cells r #[.slice s.a s.len s.cap]::U6 Z9 3 s L::cells x1 #[.int .i64 id,.string f,.int .i64 q]::R):=bt
 clear bt ae
 have hlen:=aj.p1.aW
 have cr:∀{h':Heap} {R':List Asn},sat h' (cells r #[.slice s.a s.len s.cap]::R')→W3 h' ⟨r,0,none⟩=some (.slice s.a s.len s.cap):=fun af=>af.cell 0
 have cntb:∀g,A1e (L.take g) id≤10000:=fun g=>C7 (B6S _ _) (by rw[E6];omega)
 rw[U2]
 refine o0 (γ:=Nat) (hb:=fun s=>by
   repeat' with_reducible first
    |refine @A0z _ _ _ _ ?_ (fun _=>?_)
    |refine @A07 _ _ _ _ ?_ ?_
    |refine @A2d _ _ _ ?_
    |refine @C4w _ _ _ _ _ _ (fun _=>?_) (fun _=>?_)
   all_goals infer_instance)
  (fun g x h'=>g≤L.length∧x.2.1=(g:Int)∧x.1=(A1e (L.take g) id:Int)∧(∀y∈L.take g,b8 y≠(id,f))∧
   sat h' (cells r #[.slice s.a s.len s.cap]::U6 Z9 3 s L::cells x1 #[.int .i64 id,.string f,.int .i64 q]::R)) (fun g=>L.length-g) 0
  ⟨D1 _,rfl,by simp[A1e],by simp,aj⟩ ?_
 clear aj
 rintro i ⟨n,ci,⟨⟩⟩ h4 ⟨hi,bO,bU,ay,ak⟩
 simp only at hi bO bU ay ak
 subst bO
 have next:IntKind.wrap .i64 ((i:Int)+1)=((i+1:Nat):Int):=by rw[V8 (by omega) (by omega)];rfl
 refine⟨_,rfl,s,by rw[U4];exact cr ak,?_⟩
 (try dsimp only);rw[U9]
 by_cases ah:i<L.length
 ·rw[if_pos (by simp only[decide_eq_true_eq];omega)]
  have hx:=B0 ah
  generalize L[i]=e at hx
  have fx:=C6A hx id
  have yN:=cntb i
  have nokey:b8 e≠(id,f)→∀y∈L.take (i+1),b8 y≠(id,f):=by
   intro he y hy
   rw[I0,hx] at hy
   rcases C9.1 hy with hy|hy
   ·exact ay y hy
   ·simp at hy;subst hy;exact he
  refine V5 (fun z h'=>(∃m,z=.inl (m,())∧m=(A1e (L.take (i+1)) id:Int)∧b8 e≠(id,f)∧sat h' (cells r #[.slice s.a s.len s.cap]::U6 Z9 3 s L::cells x1 #[.int .i64 id,.string f,.int .i64 q]::R))∨
   (z=.inr (.inr (.inr (0,())))∧b8 e=(id,f)∧sat h' (cells r #[.slice s.a s.len s.cap]::U6 Z9 3 s (L.set i (id,f,q))::cells x1 #[.int .i64 id,.string f,.int .i64 q]::R))) ?_ ?_
  ·refine⟨_,rfl,s,by rw[U4];exact cr ak,?_⟩
   (try dsimp only);rw[U2]
   refine X9 (ak.p1.aO A0W) hx fun a ha=>?_
   refine⟨e.1,ha 0 _ rfl,id,by rw[U4];exact(hE ak.p2).1,?_⟩
   (try dsimp only);rw[U9]
   by_cases h1:e.1=id
   ·rw[if_neg (by simp[h1])]
    rw[if_pos h1] at fx
    refine⟨_,rfl,s,by rw[U4];exact cr ak,?_⟩
    (try dsimp only);rw[U2]
    refine X9 (ak.p1.aO A0W) hx fun a ha=>?_
    refine⟨e.2.1,ha 1 _ rfl,f,by rw[U4];exact(hE ak.p2).2.1,?_⟩
    (try dsimp only);rw[U9]
    by_cases h2:e.2.1=f
    ·rw[if_pos (by simpa using h2)]
     refine⟨_,rfl,s,by rw[U4];exact cr ak,q,by rw[U4];exact(hE ak.p2).2.2,?_⟩
     (try dsimp only);rw[U2]
     refine B9r A0W ak.p1 hx fun p hp bL=>?_
     (try dsimp only);rw[U2]
     refine bL 2 _ (id,f,q) _ (by decide) (by simp[h1,h2]) rfl fun h5 ai=>?_
     exact .inr ⟨rfl,by rw[←h1,←h2],ai.p1⟩
    ·rw[if_neg (by simpa using h2)]
     refine .inl ⟨_,rfl,?_,fun hk=>h2 (congrArg Prod.snd hk),ak⟩
     rw[bU,V8 (by omega) (by omega),fx]
     rfl
   ·rw[if_pos (by simp[h1])]
    rw[if_neg h1] at fx
    exact .inl ⟨_,rfl,by rw[bU,fx];rfl,fun hk=>h1 (congrArg Prod.fst hk),ak⟩
  rintro z h5 (⟨m,rfl,hm,hk,ai⟩|⟨rfl,hk,ai⟩)
  ·simp only[D5,E7,V2]
   exact .mk (i+1) (by omega) ⟨by omega,next,hm,nokey hk,ai⟩
  ·simp only[D5,E7,V2]
   exact cR hf iQ fe i e hx hk ay h5 (A1A.2 ⟨s,(ai.re [2,0,1]).drop⟩)
 rw[if_neg (by simp only[decide_eq_true_eq];omega)]
 have:i=L.length:=by omega
 subst this
 rw[F5] at bU ay
 simp only[D5,E7,V2]
 clear cR next ah hi
 rw[U9]
 by_cases cq:64≤A1e L id
 ·rw[if_pos (by rw[bU];simp only[decide_eq_true_eq];omega)]
  exact ax hf iQ fe ay cq h4 (A1A.2 ⟨s,(ak.re [2,0,1]).drop⟩)
 rw[if_neg (by rw[bU];simp only[decide_eq_true_eq];omega)]
 clear ax
 refine V5 (fun x h'=>(if x.1=true then ∃out,out=A2y ltK b8 (id,f,q) L∧sat h' (U6 Z9 3 x.2.1 out::cells r #[.slice s.a s.len s.cap]::U6 Z9 3 s L::cells x1 #[.int .i64 id,.string f,.int .i64 q]::R)
   else ∃out,out++[(id,f,q)]=A2y ltK b8 (id,f,q) L∧sat h' (U6 Z9 3 x.2.1 out::cells r #[.slice s.a s.len s.cap]::U6 Z9 3 s L::cells x1 #[.int .i64 id,.string f,.int .i64 q]::R))) ?_ ?_
 ·refine o0 (γ:=Nat×List Ent) (hb:=fun s=>by
    repeat' with_reducible first
     |refine @A0z _ _ _ _ ?_ (fun _=>?_)
     |refine @A07 _ _ _ _ ?_ ?_
     |refine @A2d _ _ _ ?_
    all_goals infer_instance)
   (fun g x h'=>g.1≤L.length∧x.2.2.1=(g.1:Int)∧g.2.length≤2*g.1∧(if x.1=true then g.2++L.drop g.1=A2y ltK b8 (id,f,q) L else g.2++A2y ltK b8 (id,f,q) (L.drop g.1)=A2y ltK b8 (id,f,q) L)∧
    sat h' (U6 Z9 3 x.2.1 g.2::cells r #[.slice s.a s.len s.cap]::U6 Z9 3 s L::cells x1 #[.int .i64 id,.string f,.int .i64 q]::R)) (fun g=>L.length-g.1) (0,[])
   ⟨D1 _,rfl,by simp,by simp,Z5 ak⟩ ?_
  clear ak
  rintro⟨i,out⟩ ⟨put,o,ci,⟨⟩⟩ h5 ⟨hi,bO,gB,hJ,ai⟩
  simp only at hi bO gB hJ ai
  subst bO
  have next:IntKind.wrap .i64 ((i:Int)+1)=((i+1:Nat):Int):=by rw[V8 (by omega) (by omega)];rfl
  refine⟨_,rfl,s,by rw[U4];exact cr ai.p1,?_⟩
  (try dsimp only);rw[U9]
  by_cases ah:i<L.length
  ·rw[if_pos (by simp only[decide_eq_true_eq];omega)]
   have gC:=E1 ah
   have hx:=B0 ah
   generalize L[i]=e at hx gC
   refine Y8 (ts:=[.int .i64,.str,.int .i64]) (id,f,q,()) ai.p3 rfl ?_
   refine⟨_,rfl,s,by rw[U4];exact cr ai.p1,?_⟩
   (try dsimp only);rw[U2]
   refine X9 (ai.p2.aO A0W) hx fun a ha=>?_
   refine A0v (ts:=[.int .i64,.str,.int .i64]) (e.1,e.2.1,e.2.2,()) (fun j v hv=>ha j v hv) ?_
   refine U7 (C2Y (a:=(id,f,q)) (b:=e) ai fun h6 aw=>⟨_,rfl,?_⟩)
   refine V5 (fun z h'=>h'=h6∧z.1=(decide (ltK (id,f) (b8 e))&& !put)) ?_ ?_
   ·(try dsimp only);rw[U9]
    by_cases h1:ltK (id,f) (b8 e)
    ·rw[if_pos (by simpa using h1)];exact⟨rfl,by simp[h1]⟩
    ·rw[if_neg (by simpa using h1)];exact⟨rfl,by simp[h1]⟩
   rintro⟨z,⟨⟩⟩ h7 ⟨rfl,hz⟩
   simp only at hz
   subst hz
   refine V5 (fun z h'=>∃out',out'.length≤out.length+1∧(if z.2.1=true then out'++e::L.drop (i+1)=A2y ltK b8 (id,f,q) L else out'++e::A2y ltK b8 (id,f,q) (L.drop (i+1))=A2y ltK b8 (id,f,q) L)∧
    sat h' (U6 Z9 3 z.1 out'::cells r #[.slice s.a s.len s.cap]::U6 Z9 3 s L::cells x1 #[.int .i64 id,.string f,.int .i64 q]::R)) ?_ ?_
   ·(try dsimp only);rw[U9]
    rw[gC] at hJ
    by_cases hc:(decide (ltK (id,f) (b8 e))&& !put)=true
    ·rw[if_pos hc]
     rw[E9,decide_eq_true_eq,O0] at hc
     obtain⟨bk,rfl⟩:=hc
     refine Y8 (ts:=[.int .i64,.str,.int .i64]) (id,f,q,()) aw.p3 rfl ?_
     refine V6 aw fun y h8 bq=>?_
     (try dsimp only);rw[U2]
     refine A0k (enc:=Z9) (ys:=[(id,f,q)]) A0W A35 rfl bq.p1 rfl ?_ (by decide) (by decide) (by omega) fun s' h9 ew=>?_
     ·simp only[V9,N0,D7,I1,C2]
      exact bq.reads rfl
     refine⟨out++[(id,f,q)],by simp,?_,(ew.re [1,0,2,3,4]).drop⟩
     rw[if_neg (by simp)] at hJ
     rw[if_pos rfl,←hJ,A2y,if_pos bk,D6]
     rfl
    ·rw[if_neg hc]
     refine⟨out,by omega,?_,aw⟩
     (try dsimp only)
     cases put with
     |true=>exact hJ
     |false=>
      rw[if_neg (by simp)] at hJ⊢
      rw[A2y,if_neg (by simpa using hc)] at hJ
      exact hJ
   rintro⟨o',put',⟨⟩⟩ h8 ⟨out',xt,oY,bq⟩
   simp only at oY bq
   refine⟨_,rfl,s,by rw[U4];exact cr bq.p1,?_⟩
   (try dsimp only);rw[U2]
   refine X9 (bq.p2.aO A0W) hx fun a ha=>?_
   refine A0v (ts:=[.int .i64,.str,.int .i64]) (e.1,e.2.1,e.2.2,()) (fun j v hv=>ha j v hv) ?_
   refine V6 bq fun y h9 ew=>?_
   (try dsimp only);rw[U2]
   refine A0k (enc:=Z9) (ys:=[e]) A0W A35 rfl ew.p1 rfl ?_ (by decide) (by decide) (by omega) fun s' fZ gk=>?_
   ·simp only[V9,N0,D7,I1,C2]
    exact ew.reads rfl
   simp only[D5,E7,V2]
   refine .mk (i+1,out'++[e]) (by simp only[];omega) ⟨by simp only[];omega,next,by simp only[B5,B7,G7];omega,?_,(gk.re [1,0,2,3,4]).drop⟩
   simp only[D6,List.singleton_append]
   exact oY
  ·rw[if_neg (by simp only[decide_eq_true_eq];omega)]
   have:i=L.length:=by omega
   subst this
   rw[J8] at hJ
   simp only[D5,E7,V2]
   cases put with
   |true=>
    rw[if_pos rfl] at hJ⊢
    rw[C2] at hJ
    exact⟨out,hJ,ai⟩
   |false=>
    rw[if_neg (by simp)] at hJ⊢
    exact⟨out,hJ,ai⟩
 clear ak
 rintro⟨put,o,ci,⟨⟩⟩ h5 ai
 simp only at ai
 have cn:(A2y ltK b8 (id,f,q) L).length=L.length+1:=(A1S ltK b8 _ L).length_eq
 refine V5 (fun z h'=>sat h' (U6 Z9 3 z.1 (A2y ltK b8 (id,f,q) L)::cells r #[.slice s.a s.len s.cap]::U6 Z9 3 s L::R)) ?_ ?_
 ·(try dsimp only);rw[U9]
  cases put with
  |true=>
   rw[if_neg (by simp)]
   rw[if_pos rfl] at ai
   obtain⟨out,rfl,aw⟩:=ai
   exact(aw.re [3,0,1,2]).drop
  |false=>
   rw[if_pos (by simp)]
   rw[if_neg (by simp)] at ai
   obtain⟨out,ho,aw⟩:=ai
   have gB:out.length≤20000:=by
    have:=congrArg List.length ho
    rw[B5,cn] at this
    simp at this
    omega
   refine Y8 (ts:=[.int .i64,.str,.int .i64]) (id,f,q,()) aw.p3 rfl ?_
   refine V6 aw fun y h8 bq=>?_
   (try dsimp only);rw[U2]
   refine A0k (enc:=Z9) (ys:=[(id,f,q)]) A0W A35 rfl bq.p1 rfl ?_ (by decide) (by decide) (by omega) fun s' h9 ew=>?_
   ·simp only[V9,N0,D7,I1,C2]
    exact bq.reads rfl
   rw[ho] at ew
   exact(ew.re [1,4,0,2,3]).drop.drop
 rintro⟨o',⟨⟩⟩ h6 aw
 simp only at aw
 refine⟨_,rfl,?_⟩
 (try dsimp only);rw[U2,U4]
 refine W7 aw.p1 (by simp) rfl fun h7 aF=>?_
 exact iZ hf iQ fe ay (by omega) h7 (A1A.2 ⟨o',(aF.re [2,0,1]).drop⟩)
end
section
open Go.H Go.Proofs
structure Y6 where
 c:Int
 aD:Int
 bE:Bool
 aX:MsT
structure Z0 where
 last:Int
 aD:List V7
 aH:List Ent
 kept:List l3
 aB:List Y6
structure r8 where
 conn:Int
 pk:PkO
 close:Bool
structure V0 where
 b:Z0
 outs:List r8
 aT:List MsT
structure PkI where
 kind:Int
 cZ:Bool
 dY:Int
 id:Int
 bX:B38
 cK:B38
 code:Int
 props:List q9
 aC:B38
 clean:Bool
 bE:Bool
 aX:MsT
 aH:List (B38×Int×Bool×Bool×Int)
 bM:List B38
abbrev A0S(k id:Int)(cs:List Int):PkO:=⟨k,false,false,0,id,e0S,e0S,0,[],cs,false⟩
abbrev A2a(s:Bool):PkO:=⟨2,false,false,0,0,e0S,e0S,0,[],[],s⟩
abbrev B4k(E:List Ent)(B:Z0):Z0:=⟨B.last,B.aD,E,B.kept,B.aB⟩
abbrev A5s(C:List Y6)(B:Z0):Z0:=⟨B.last,B.aD,B.aH,B.kept,C⟩
abbrev tB(B:Z0)(T:V0):V0:=⟨B,T.outs,T.aT⟩
abbrev A0E(A:List V7)(T:V0):V0:=⟨⟨T.b.last,A,T.b.aH,T.b.kept,T.b.aB⟩,T.outs,T.aT⟩
abbrev B93(K:List l3)(T:V0):V0:=⟨⟨T.b.last,T.b.aD,T.b.aH,K,T.b.aB⟩,T.outs,T.aT⟩
abbrev A1i(E:List Ent)(T:V0):V0:=⟨⟨T.b.last,T.b.aD,E,T.b.kept,T.b.aB⟩,T.outs,T.aT⟩
def X7(k:Int)(f:V7→V7)(A:List V7):List V7:=A.map fun s=>if s.id=k then f s else s
def A4N(k:Int)(A:List V7):Option V7:=A.find? fun s=>decide (s.id=k)
def ofS(c:B38)(A:List V7):Option V7:=A.find? fun s=>decide (s.aC=c)
def A1E(c:Int)(l:List Y6):Option Y6:=l.find? fun x=>decide (x.c=c)
abbrev A0A(o:r8)(t:V0):V0:={t with outs:=t.outs++[o]}
def A1U(l:List Y6)(id:Int)(ps:List PkO):List r8:=(l.filter fun x=>decide (x.aD=id)).flatMap fun x=>ps.map fun p=>⟨x.c,p,false⟩
abbrev q7(id:Int)(ps:List PkO)(t:V0):V0:={t with outs:=t.outs++A1U t.b.aB id ps}
abbrev Y9(o:Z2)(s:V7):V7:={s with out:=o}
abbrev j1(p:u6)(s:V7):V7:={s with aZ:=p}
def A0F(id:Int)(f:Z2→Z2×List PkO)(t:V0):V0:=match A4N id t.b.aD with
 |none=>t
 |some s=>q7 id (f s.out).2 (A0E (X7 id (Y9 (f s.out).1) t.b.aD) t)
def A3v:Option Int→List Ent→List Int
 |_,[]=>[]
 |p,e::l=>if p=some e.1 then A3v p l else e.1::A3v (some e.1) l
def A2u(l:List Ent)(id:Int):Int:=(l.filter fun e=>decide (e.1=id)).foldl (fun q e=>max q e.2.2) 0
noncomputable def A0b(m:MsT)(l:List Ent)(t:V0)(id:Int):V0:=A0F id (fun o=>(Y0 o (m.1,m.2.1,min m.2.2.1 (A2u l id),false,e0S)).1) t
def A1k(m:MsT)(t:V0):V0:=if m.2.2.2.1=true then B93 (B0x 64 t.b.kept (m.1,m.2.1,m.2.2.1,())).2 t else t
noncomputable def A0p(m:MsT)(t:V0):V0:=
 (A3v none (t.b.aH.filter fun x=>Y1 x.2.1 m.1)).foldl (A0b m (t.b.aH.filter fun x=>Y1 x.2.1 m.1)) (A1k m t)
noncomputable def A3n(m:MsT)(t:V0):V0:={A0p m t with aT:=(A0p m t).aT++[m]}
def A8y(s:V7):V7:={s with on:=false,out:={s.out with on:=false}}
def A6m(k:Int)(b:Z0):Z0:=match A4N k b.aD with
 |none=>b
 |some s=>if s.on=false then b
  else if s.aN=true then{b with aD:=X7 k A8y b.aD}
  else{b with aD:=b.aD.filter (fun x=>decide (x.id≠k)),aH:=A1l k b.aH}
noncomputable def A4n(full:Bool)(c:Int)(aX:Bool)(t:V0):V0:=match A1E c t.b.aB with
 |none=>t
 |some x=>
  let t1:V0:=tB (A6m x.aD (A5s (t.b.aB.filter fun y=>decide (y.c≠c)) t.b)) t
  if aX=true∧x.bE=true∧full=false then A3n x.aX t1 else t1
noncomputable def A0C(full:Bool)(c code:Int)(t:V0):V0:=A4n full c true (A0A ⟨c,j9 14 0 code,true⟩ t)
instance(c:B38):Decidable (b6 c):=by unfold b6;infer_instance
def A6t(p:PkI)(b:Z0):Int:=
 if p.bE=true∧Z6 p.aX.1=false then 144
 else if 64≤b.aB.length then 151
 else if ¬b6 p.aC then 133
 else if ofS p.aC b.aD=none∧32≤b.aD.length then 151
 else 0
def A0Z(id:Int)(l:List q9):Option q9:=l.find? fun p=>decide (p.1=id)
noncomputable def A28(full:Bool)(s:V7)(t:V0):V0:=match t.b.aB.find? fun x=>decide (x.aD=s.id) with
 |none=>t
 |some x=>A0C full x.c 142 t
def b9(aC:B38)(clean aN:Bool)(b:Z0):(Int×Bool)×Z0:=match ofS aC b.aD with
 |some s=>if clean=false then((s.id,true),{b with aD:=X7 s.id (fun s=>{s with on:=true,aN:=aN}) b.aD})
  else((b.last+1,false),{b with last:=b.last+1,aD:=b.aD.filter (fun x=>decide (x.id≠s.id))++[A2v (b.last+1) aC aN]})
 |none=>((b.last+1,false),{b with last:=b.last+1,aD:=b.aD++[A2v (b.last+1) aC aN]})
def A1X(l:List q9):Int:=match A0Z 33 l with
 |some p=>p.2.1
 |none=>64
def A0c(l:List q9):Bool:=match A0Z 17 l with
 |some p=>decide (0<p.2.1)
 |none=>false
noncomputable def C2m(full:Bool)(c:Int)(p:PkI)(t:V0):V0:=
 let old:=ofS p.aC t.b.aD
 let t1:=match old with|some s=>A28 full s t|none=>t
 let r:=b9 p.aC p.clean (A0c p.props) t1.b
 let b2:=match old with|some s=>if s.id≠r.1.1 then B4k (A1l s.id r.2.aH) r.2 else r.2|none=>r.2
 let b3:=A5s (b2.aB++[⟨c,r.1.1,p.bE,(p.aX.1,p.aX.2.1,p.aX.2.2.1,p.aX.2.2.2.1,e0S)⟩]) b2
 A0F r.1.1 (fun o=>A0s o (A1X p.props)) (A0A ⟨c,A2a r.1.2,false⟩ (tB b3 t1))
noncomputable def A1m(full:Bool)(c:Int)(p:PkI)(t:V0):V0:=
 if A6t p t.b≠0 then A0A ⟨c,j9 2 0 (A6t p t.b),true⟩ t else C2m full c p t
def A3E(a:Option (Int×Int))(id:Int):List PkO:=match a with
 |some (k,c)=>[j9 k id c]
 |none=>[]
noncomputable def A5F(full:Bool)(x:Y6)(p:PkI)(t:V0):V0:=
 if p.kind=3∧Z6 p.bX=false then A0C full x.c 144 t
 else match A4N x.aD t.b.aD with
  |none=>t
  |some s=>
   let r:=l9 s.aZ p.kind p.dY p.id (if full=true then 151 else 0)
   let t1:V0:=A0E (X7 x.aD (j1 ⟨s.aZ.most,s.aZ.taken,r.2.2.2⟩) t.b.aD) t
   if r.2.2.1≠0 then A0C full x.c r.2.2.1 t1
   else
    let t2:=q7 x.aD (A3E r.2.1 p.id) t1
    if r.1=true∧full=false then A3n (p.bX,p.cK,p.dY,p.cZ,e0S) t2 else t2
noncomputable def A2I(full:Bool)(x:Y6)(p:PkI)(t:V0):V0:=match A4N x.aD t.b.aD with
 |none=>t
 |some s=>if(A0R s.out p.kind p.id p.code).2≠0 then A0C full x.c (A0R s.out p.kind p.id p.code).2 t
  else A0F x.aD (fun o=>(A0R o p.kind p.id p.code).1) t
def A2P(L:List Ent)(id:Int)(f:B38)(q:Int):Int×List Ent:=
 if X6 f=false then(143,L)
 else if q<0∨2<q then(155,L)
 else match L.findIdx? (fun x=>decide (b8 x=(id,f))) with
  |some i=>(0,L.set i (id,f,q))
  |none=>if 64≤A1e L id then(151,L) else(0,A2y ltK b8 (id,f,q) L)
abbrev A0G:=B38×Int×Bool×Bool×Int
def j6(id:Int):List A0G→List Ent→List Ent×List Int
 |[],L=>(L,[])
 |s::l,L=>
  let r:=A2P L id s.1 s.2.1
  let z:=j6 id l r.2
  (z.1,(if r.1=0 then s.2.1 else r.1)::z.2)
def added(id:Int):List A0G→List Ent→List A0G
 |[],_=>[]
 |s::l,L=>(if(A2P L id s.1 s.2.1).1=0 then[s] else[])++added id l (A2P L id s.1 s.2.1).2
noncomputable def A0U(id:Int)(s:A0G)(t:V0)(m:l3):V0:=A0F id (fun o=>(Y0 o (m.1,m.2.1,min m.2.2.1 s.2.1,true,e0S)).1) t
noncomputable def j3(id:Int)(t:V0)(s:A0G):V0:=if s.2.2.2.2=2 then t else(A6k t.b.kept s.1).foldl (A0U id s) t
noncomputable def A04(x:Y6)(p:PkI)(t:V0):V0:=
 (added x.aD p.aH t.b.aH).foldl (j3 x.aD)
  (A0A ⟨x.c,A0S 9 p.id (j6 x.aD p.aH t.b.aH).2,false⟩ (A1i (j6 x.aD p.aH t.b.aH).1 t))
def A0X(id:Int):List B38→List Ent→List Ent×List Int
 |[],L=>(L,[])
 |f::l,L=>
  let z:=A0X id l (A1R L id f)
  (z.1,(if(A1R L id f).length<L.length then 0 else 17)::z.2)
def A1H(x:Y6)(p:PkI)(t:V0):V0:=
 A0A ⟨x.c,A0S 11 p.id (A0X x.aD p.bM t.b.aH).2,false⟩ (A1i (A0X x.aD p.bM t.b.aH).1 t)
noncomputable def A8T(full:Bool)(x:Y6)(p:PkI)(t:V0):V0:=
 if p.kind=3∨p.kind=6 then A5F full x p t
 else if p.kind=4∨p.kind=5∨p.kind=7 then A2I full x p t
 else if p.kind=8∧1≤p.id∧p.id≤65535∧p.aH≠[] then A04 x p t
 else if p.kind=10∧1≤p.id∧p.id≤65535∧p.bM≠[] then A1H x p t
 else if p.kind=12 then A0A ⟨x.c,j9 13 0 0,false⟩ t
 else if p.kind=14 then A4n full x.c (decide (p.code=4)) t
 else A0C full x.c 130 t
noncomputable def i6(full:Bool)(c:Int)(p:PkI)(b:Z0):V0:=match A1E c b.aB with
 |some x=>A8T full x p ⟨b,[],[]⟩
 |none=>if p.kind=1 then A1m full c p ⟨b,[],[]⟩ else⟨b,[⟨c,j9 14 0 130,true⟩],[]⟩
noncomputable def A8j(full:Bool)(c:Int)(b:Z0):V0:=A4n full c true ⟨b,[],[]⟩
noncomputable def z8(m:MsT)(b:Z0):V0:=A0p m ⟨b,[],[]⟩
def A1Q(b:Z0):Z0:=(b.aB.map (·.c)).foldl (fun b c=>match A1E c b.aB with
 |none=>b
 |some x=>A6m x.aD (A5s (b.aB.filter fun y=>decide (y.c≠c)) b)) b
variable {h h0:Heap} {L L' L1 L2 R:List Asn} {Q:Value→Heap→Prop}
abbrev OuT:=Int×Pk×Bool
abbrev A0P(k:IntKind)(x:OuT):D0u:=.int .i64 x.1::(W9 k x.2.1++[.bool x.2.2])
instance(k:IntKind):Enc (A0P k) 28:=⟨fun _=>rfl,fun x v hv=>by
 have:(A0P k x).all (fun v=>v.oneCell')=true:=rfl
 exact I8.1 this v hv,by decide⟩
abbrev ouF(t:Slc×Slc×r8):OuT:=(t.2.2.conn,pkT t.2.2.pk t.1 t.2.1,t.2.2.close)
def ouB(k:IntKind)(t:Slc×Slc×r8):Asn:=pkB k (t.1,t.2.1,t.2.2.pk)
def W0(k:IntKind)(s:Slc)(os:List r8):Asn:=exA fun T:List (Slc×Slc×r8)=>star (pr (T.map (·.2.2)=os)) (star (U6 (A0P k) 28 s (T.map ouF)) (a7 (ouB k) T))
theorem A2C{k:IntKind}{s:Slc}{os:List r8}:sat h (W0 k s os::R)↔∃T:List (Slc×Slc×r8),T.map (·.2.2)=os∧sat h (U6 (A0P k) 28 s (T.map ouF)::a7 (ouB k) T::R):=by
 unfold W0
 rw[sat.bA]
 simp only[sat.aI,sat.bB]
theorem B1L{k:IntKind}(hs:sat h R):sat h (W0 k ⟨none,0,0⟩ []::R):=A2C.2 ⟨[],rfl,Z5 (A2D.2 hs)⟩
theorem C9c{β:Type}{k:IntKind}{s:Slc}{os:List r8}{o:r8}{c p:Slc}{elem:TypeId}{bytes b:Nat}{cs:D0t}{zero:D0t}{f:Slc→HM β}{Q':β→Heap→Prop}{L3:List Asn}
  (hw:∀s',W (W0 k s' (os++[o])::L3) (f s') Q')(hb:(os.length+1)*bytes≤140737488355328)(hx:Has L (W0 k s os) L1:=by repeat first|with_reducible exact V1|apply V3)(hy:Has L1 (pkB k (c,p,o.pk)) L2:=by repeat first|with_reducible exact V1|apply V3)(hc:Has L2 (cells b cs) L3:=by repeat first|with_reducible exact V1|apply V3)
  (he:cs=(A0P k (o.conn,pkT o.pk c p,o.close)).toArray:=by rfl)(hz:zero.size=28:=by rfl)(gQ:0<bytes:=by decide):
  W L (HM.bind (HM.append elem 28 bytes zero s 1 (V9 28 ⟨some ⟨b,0,none⟩,1,1⟩)) f) Q':=fun h hs=>by
 obtain⟨X,rfl,h1⟩:=A2C.1 ((hx.cU hy hc).s hs)
 have hlen:(X.map ouF).length=(X.map (·.2.2)).length:=by simp
 refine A9Z (L:=U6 (A0P k) 28 s (X.map ouF)::cells b cs::a7 (ouB k) X::pkB k (c,p,o.pk)::L3) (xs:=X.map ouF) (enc:=A0P k) ((o.conn,pkT o.pk c p,o.close):OuT) (fun s'=>?_) (by rw[hlen];exact hb) V1 V1 he hz gQ h (h1.re [0,3,1,2])
 intro h' af
 refine hw s' h' (A2C.2 ⟨X++[(c,p,o)],by simp,?_⟩)
 rw[C0]
 exact(A5r.2 (((A30 (f:=ouB k) (x:=(c,p,o))).2 (af.re [2,0,1])).re [2,0,1])).p1
abbrev tC:List Tag:=[.int .i64,.bool,.str,.str,.int .i64,.bool,.str]
abbrev B8A(x:Y6):Tup tC:=(x.aD,x.bE,x.aX.1,x.aX.2.1,x.aX.2.2.1,x.aX.2.2.2.1,x.aX.2.2.2.2,())
abbrev A0j(x:Y6):Int×Tup tC:=(x.c,B8A x)
abbrev eVC:Tup tC→Value:=Kind.val (.agg tC)
def A1x(b:Nat)(K:List l3):Asn:=exA fun l:List (B38×l3)=>star (pr (Sto 64 l K)) (B7k b 64 l)
def A1q(b:Nat)(last:Int)(A:List V7):Asn:=exA fun L:List (Nat×V7)=>star (pr (L.map (·.2)=A)) (A1N b last L)
theorem A0e{b:Nat}{last:Int}{A:List V7}:sat h (A1q b last A::R)↔∃L:List (Nat×V7),L.map (·.2)=A∧sat h (A1N b last L::R):=by
 unfold A1q
 rw[sat.bA]
 simp only[sat.aI,sat.bB]
theorem A3V{b:Nat}{K:List l3}:sat h (A1x b K::R)↔∃l:List (B38×l3),Sto 64 l K∧sat h (B7k b 64 l::R):=by
 unfold A1x
 rw[sat.bA]
 simp only[sat.aI,sat.bB]
structure C27 where
 tb:Nat
 sb:Nat
 kb:Nat
 cm:Nat
abbrev A75(p:C27):D0t:=#[at0 p.tb,at9 p.sb,B1H p.kb,.map (some p.cm)]
def A0Q(b:Nat)(B:Z0):Asn:=exA fun p:C27=>A0Y [cells b (A75 p),A1q p.tb B.last B.aD,j8 p.sb B.aH,A1x p.kb B.kept,mapA eKI eVC p.cm (B.aB.map A0j)]
theorem A1n{b:Nat}{B:Z0}:sat h (A0Q b B::R)↔∃p:C27,sat h (cells b (A75 p)::A1q p.tb B.last B.aD::j8 p.sb B.aH::A1x p.kb B.kept::mapA eKI eVC p.cm (B.aB.map A0j)::R):=by
 unfold A0Q
 rw[sat.bA]
 simp only[sat.bV]
 rfl
def thA(t b:Nat)(full:Bool)(os:List r8)(ps:List MsT):Asn:=exA fun x:Slc×Slc=>A0Y [cells t #[at0 b,.bool full,.slice x.1.a x.1.len x.1.cap,.slice x.2.a x.2.len x.2.cap],W0 .u8 x.1 os,U6 Z7 5 x.2 ps]
theorem A2G{t b:Nat}{full:Bool}{os:List r8}{ps:List MsT}:sat h (thA t b full os ps::R)↔∃(so sp:Slc),sat h (cells t #[at0 b,.bool full,.slice so.a so.len so.cap,.slice sp.a sp.len sp.cap]::W0 .u8 so os::U6 Z7 5 sp ps::R):=by
 unfold thA
 rw[sat.bA]
 simp only[sat.bV]
 exact⟨fun⟨x,hh⟩=>⟨x.1,x.2,hh⟩,fun⟨a,b,hh⟩=>⟨(a,b),hh⟩⟩
def X8(t b:Nat)(full:Bool)(T:V0):Asn:=star (thA t b full T.outs T.aT) (A0Q b T.b)
theorem A00{t b:Nat}{full:Bool}{T:V0}:sat h (X8 t b full T::R)↔sat h (thA t b full T.outs T.aT::A0Q b T.b::R):=sat.aI
theorem p6{t b:Nat}{full:Bool}{T:V0}(hs:sat h (X8 t b full T::R)):∃(so sp:Slc) (p:C27),sat h (cells t #[at0 b,.bool full,.slice so.a so.len so.cap,.slice sp.a sp.len sp.cap]::W0 .u8 so T.outs::U6 Z7 5 sp T.aT::
   cells b (A75 p)::A1q p.tb T.b.last T.b.aD::j8 p.sb T.b.aH::A1x p.kb T.b.kept::mapA eKI eVC p.cm (T.b.aB.map A0j)::R):=by
 obtain⟨so,sp,h1⟩:=A2G.1 (A00.1 hs)
 obtain⟨p,h2⟩:=A1n.1 (h1.re [3,0,1,2])
 exact⟨so,sp,p,h2.re [5,6,7,0,1,2,3,4]⟩
theorem B44{t b:Nat}{full:Bool}{T:V0}{so sp:Slc}{p:C27}(hs:sat h (cells t #[at0 b,.bool full,.slice so.a so.len so.cap,.slice sp.a sp.len sp.cap]::W0 .u8 so T.outs::U6 Z7 5 sp T.aT::
   cells b (A75 p)::A1q p.tb T.b.last T.b.aD::j8 p.sb T.b.aH::A1x p.kb T.b.kept::mapA eKI eVC p.cm (T.b.aB.map A0j)::R)):sat h (X8 t b full T::R):=by
 have h1:=A1n.2 ⟨p,hs.re [3,4,5,6,7,0,1,2]⟩
 exact A00.2 (A2G.2 ⟨so,sp,h1.re [1,2,3,0]⟩)
theorem W.bI{α:Type}{m:HM α}{Q':α→Heap→Prop}{t b:Nat}{full:Bool}{M1 M2 M3 M4 M5 M6 M7 M8:List Asn}(T:V0)(so sp:Slc)(p:C27)(hw:W (X8 t b full T::M8) m Q')
  (h1:Has L (cells t #[at0 b,.bool full,.slice so.a so.len so.cap,.slice sp.a sp.len sp.cap]) M1:=by repeat first|with_reducible exact V1|apply V3)(h2:Has M1 (W0 .u8 so T.outs) M2:=by repeat first|with_reducible exact V1|apply V3)(h3:Has M2 (U6 Z7 5 sp T.aT) M3:=by repeat first|with_reducible exact V1|apply V3)(h4:Has M3 (cells b (A75 p)) M4:=by repeat first|with_reducible exact V1|apply V3)(h5:Has M4 (A1q p.tb T.b.last T.b.aD) M5:=by repeat first|with_reducible exact V1|apply V3)(h6:Has M5 (j8 p.sb T.b.aH) M6:=by repeat first|with_reducible exact V1|apply V3)(h7:Has M6 (A1x p.kb T.b.kept) M7:=by repeat first|with_reducible exact V1|apply V3)(h8:Has M7 (mapA eKI eVC p.cm (T.b.aB.map A0j)) M8:=by repeat first|with_reducible exact V1|apply V3):W L m Q':=fun h hs=>hw h (B44 ((Sub.cons h1 (Sub.cons h2 (Sub.cons h3 (Sub.cons h4 (Sub.cons h5 (Sub.cons h6 (Sub.cons h7 (Sub.cons h8 Sub.rfl)))))))).s hs))
theorem At.bI{q:Heap→Prop}{t b:Nat}{full:Bool}{M1 M2 M3 M4 M5 M6 M7 M8:List Asn}(T:V0)(so sp:Slc)(p:C27)(hw:At (X8 t b full T::M8) q)
  (h1:Has L (cells t #[at0 b,.bool full,.slice so.a so.len so.cap,.slice sp.a sp.len sp.cap]) M1:=by repeat first|with_reducible exact V1|apply V3)(h2:Has M1 (W0 .u8 so T.outs) M2:=by repeat first|with_reducible exact V1|apply V3)(h3:Has M2 (U6 Z7 5 sp T.aT) M3:=by repeat first|with_reducible exact V1|apply V3)(h4:Has M3 (cells b (A75 p)) M4:=by repeat first|with_reducible exact V1|apply V3)(h5:Has M4 (A1q p.tb T.b.last T.b.aD) M5:=by repeat first|with_reducible exact V1|apply V3)(h6:Has M5 (j8 p.sb T.b.aH) M6:=by repeat first|with_reducible exact V1|apply V3)(h7:Has M6 (A1x p.kb T.b.kept) M7:=by repeat first|with_reducible exact V1|apply V3)(h8:Has M7 (mapA eKI eVC p.cm (T.b.aB.map A0j)) M8:=by repeat first|with_reducible exact V1|apply V3):At L q:=fun h hs=>hw h (B44 ((Sub.cons h1 (Sub.cons h2 (Sub.cons h3 (Sub.cons h4 (Sub.cons h5 (Sub.cons h6 (Sub.cons h7 (Sub.cons h8 Sub.rfl)))))))).s hs))
theorem C3f{t b:Nat}{full:Bool}{os:List r8}{ps:List MsT}{c:Int}{o:PkO}{ci pi:Slc}(hb:os.length≤100000000)(hq:At (thA t b full (os++[⟨c,o,false⟩]) ps::L2) (Q (.tuple #[])))
  (hx:Has L (thA t b full os ps) L1:=by repeat first|with_reducible exact V1|apply V3)(hy:Has L1 (pkB .u8 (ci,pi,o)) L2:=by repeat first|with_reducible exact V1|apply V3):FW prog 67 #[at0 t,.int .i64 c,A2z .u8 (pkT o ci pi)] L Q:=by
 refine fun h hs=>A73 (some ⟨t,0,none⟩) c (pkT o ci pi) h Q ((?_:W (thA t b full os ps::pkB .u8 (ci,pi,o)::L2) _ _) h ((hx.then hy).s hs))
 clear hs h hx hy
 have dx:(os.length+1)*344≤140737488355328:=by omega
 delta A7b az bn A02 kc nn nw pu rq sx vi vs w10 w11 w12 w13 w14 w15 w16 w17 w18 w19 w20 w21 w22 w23 w24 w25 w5 w6 w7 w8 w9
 refine Y2 fun x1=>?_
 refine W5 ?_
 refine A9f (fun h R=>A2G.1) fun so sp=>?_
 refine j4 (v:=so) ?_
 refine s7 (v:=pkT o ci pi) ?_
 refine Y2 fun x5=>?_
 refine j4 (v:=so) ?_
 refine A1p ?_ rfl
 refine C9c (k:=.u8) (s:=so) (os:=os) (o:=⟨c,o,false⟩) (c:=ci) (p:=pi) (fun s'=>?_) dx
 refine W5 ?_
 refine A4r (cs':=#[at0 b,.bool full,.slice s'.a s'.len s'.cap,.slice sp.a sp.len sp.cap]) ?_
 refine B2x (A:=thA t b full (os++[⟨c,o,false⟩]) ps) (fun h hs=>A2G.2 ⟨s',sp,hs⟩) ?_
 exact U3 hq.sub
theorem B8V{t b:Nat}{full:Bool}{T:V0}{c:Int}{o:PkO}{ci pi:Slc}(hb:T.outs.length≤100000000)(hq:At (X8 t b full (A0A ⟨c,o,false⟩ T)::L2) (Q (.tuple #[])))
  (hx:Has L (X8 t b full T) L1:=by repeat first|with_reducible exact V1|apply V3)(hy:Has L1 (pkB .u8 (ci,pi,o)) L2:=by repeat first|with_reducible exact V1|apply V3):FW prog 67 #[at0 t,.int .i64 c,A2z .u8 (pkT o ci pi)] L Q:=fun h hs=>by
 have h1:=(hx.then hy).s hs
 exact C3f (L:=thA t b full T.outs T.aT::A0Q b T.b::pkB .u8 (ci,pi,o)::L2) hb (fun h' af=>hq h' (A00.2 af)) V1 (V3 V1) h (A00.1 h1)
theorem C6C{t b:Nat}{full:Bool}{os:List r8}{ps:List MsT}{c:Int}{o:PkO}{ci pi:Slc}(hb:os.length≤100000000)(hq:At (thA t b full (os++[⟨c,o,true⟩]) ps::L2) (Q (.tuple #[])))
  (hx:Has L (thA t b full os ps) L1:=by repeat first|with_reducible exact V1|apply V3)(hy:Has L1 (pkB .u8 (ci,pi,o)) L2:=by repeat first|with_reducible exact V1|apply V3):FW prog 34 #[at0 t,.int .i64 c,A2z .u8 (pkT o ci pi)] L Q:=by
 refine fun h hs=>A7d (some ⟨t,0,none⟩) c (pkT o ci pi) h Q ((?_:W (thA t b full os ps::pkB .u8 (ci,pi,o)::L2) _ _) h ((hx.then hy).s hs))
 clear hs h hx hy
 have dx:(os.length+1)*344≤140737488355328:=by omega
 delta A57 az bn A02 kc nn nw pu rq sx vi vs w10 w11 w12 w13 w14 w15 w16 w17 w18 w19 w20 w21 w22 w23 w24 w25 w5 w6 w7 w8 w9
 refine Y2 fun x1=>?_
 refine W5 ?_
 refine A9f (fun h R=>A2G.1) fun so sp=>?_
 refine j4 (v:=so) ?_
 refine s7 (v:=pkT o ci pi) ?_
 refine Y2 fun x5=>?_
 refine j4 (v:=so) ?_
 refine A1p ?_ rfl
 refine C9c (k:=.u8) (s:=so) (os:=os) (o:=⟨c,o,true⟩) (c:=ci) (p:=pi) (fun s'=>?_) dx
 refine W5 ?_
 refine A4r (cs':=#[at0 b,.bool full,.slice s'.a s'.len s'.cap,.slice sp.a sp.len sp.cap]) ?_
 refine B2x (A:=thA t b full (os++[⟨c,o,true⟩]) ps) (fun h hs=>A2G.2 ⟨s',sp,hs⟩) ?_
 exact U3 hq.sub
theorem B9O{t b:Nat}{full:Bool}{T:V0}{c:Int}{o:PkO}{ci pi:Slc}(hb:T.outs.length≤100000000)(hq:At (X8 t b full (A0A ⟨c,o,true⟩ T)::L2) (Q (.tuple #[])))
  (hx:Has L (X8 t b full T) L1:=by repeat first|with_reducible exact V1|apply V3)(hy:Has L1 (pkB .u8 (ci,pi,o)) L2:=by repeat first|with_reducible exact V1|apply V3):FW prog 34 #[at0 t,.int .i64 c,A2z .u8 (pkT o ci pi)] L Q:=fun h hs=>by
 have h1:=(hx.then hy).s hs
 exact C6C (L:=thA t b full T.outs T.aT::A0Q b T.b::pkB .u8 (ci,pi,o)::L2) hb (fun h' af=>hq h' (A00.2 af)) V1 (V3 V1) h (A00.1 h1)
end
section
open Go.H Go.Proofs
structure j7(B:Z0):Prop where
 aH:B.aH.length≤10000
 bP:∀s∈B.aD,X0 s.out
 live:∀e∈B.aH,∃s∈B.aD,s.id=e.1
 one:∀id:Int,(B.aB.filter fun x=>decide (x.aD=id)).length≤1
 nd:(B.aD.map (·.id)).Nodup
 cl:∀x∈B.aB,∃s∈B.aD,s.id=x.aD
 dR:∀x∈B.aB,∀s∈B.aD,s.id=x.aD→s.on=true
 wl:∀x∈B.aB,x.aX.1.size≤9223372036854775807∧ -9223372036854775808≤x.c∧x.c≤9223372036854775807
theorem B2a{k:Int}{A:List V7}{s:V7}(h:A4N k A=some s):s∈A∧s.id=k:=⟨H2 h,by simpa using M0 h⟩
theorem A3y{k:Int}{A:List V7}{s:V7}(hn:(A.map (·.id)).Nodup)(hs:s∈A)(hk:s.id=k):A4N k A=some s:=by
 unfold A4N
 obtain⟨l1,l2,rfl⟩:=H0 hs
 rw[C0,B6,G1] at hn
 rw[P4,R6 (by simpa using hk),E8.2,Option.none_or]
 intro x hx
 have:=hn.2.2 _ (B3 (f:=(·.id)) hx) _ (B4 ..)
 rw[hk] at this
 simpa using this
theorem A6H{k:Int}{f:V7→V7}(hf:∀s,(f s).id=s.id)(A:List V7):(X7 k f A).map (·.id)=A.map (·.id):=by
 unfold X7
 rw[F1]
 refine I2 fun s _=>?_
 simp only[Function.comp]
 split
 ·exact hf s
 ·rfl
theorem A3i{k:Int}{f:V7→V7}{A:List V7}{x:V7}(h:x∈X7 k f A):x∈A∨∃s∈A,s.id=k∧x=f s:=by
 unfold X7 at h
 obtain⟨s,hs,rfl⟩:=E4.1 h
 split
 ·exact .inr ⟨s,hs,by assumption,rfl⟩
 ·exact .inl hs
theorem A3j{k:Int}{f:V7→V7}(hf:∀s,(f s).id=s.id){A:List V7}{i:Int}(h:∃s∈A,s.id=i):∃s∈X7 k f A,s.id=i:=by
 obtain⟨s,hs,rfl⟩:=h
 refine⟨if s.id=k then f s else s,B3 hs,?_⟩
 split
 ·exact hf s
 ·rfl
theorem A9h{l:List Y6}{id:Int}(ps:List PkO)(h:(l.filter fun x=>decide (x.aD=id)).length≤1):(A1U l id ps).length≤ps.length:=by
 unfold A1U
 generalize l.filter (fun x=>decide (x.aD=id))=k at h
 match k,h with
 |[],_=>simp
 |[x],_=>simp
theorem j7.set{B:Z0}(h:j7 B){k:Int}{o:Z2}(ho:X0 o):j7 {B with aD:=X7 k (Y9 o) B.aD} where
 aH:=h.aH
 bP:=fun s hs=>by
  rcases A3i hs with hs|⟨s',_,_,rfl⟩
  ·exact h.bP s hs
  ·exact ho
 live:=fun e he=>A3j (f:=Y9 o) (fun _=>rfl) (h.live e he)
 one:=h.one
 nd:=by
  show((X7 k (Y9 o) B.aD).map (·.id)).Nodup
  rw[A6H (f:=Y9 o) fun _=>rfl];exact h.nd
 cl:=fun x hx=>A3j (f:=Y9 o) (fun _=>rfl) (h.cl x hx)
 dR:=fun x hx s hs e=>by
  rcases A3i hs with hs|⟨s',af,_,rfl⟩
  ·exact h.dR x hx s hs e
  ·exact h.dR x hx s' af e
 wl:=h.wl
theorem j7.fF{B:Z0}(h:j7 B){k:Int}{i:u6}:j7 {B with aD:=X7 k (j1 i) B.aD} where
 aH:=h.aH
 bP:=fun s hs=>by
  rcases A3i hs with hs|⟨s',af,_,rfl⟩
  ·exact h.bP s hs
  ·exact h.bP s' af
 live:=fun e he=>A3j (f:=j1 i) (fun _=>rfl) (h.live e he)
 one:=h.one
 nd:=by
  show((X7 k (j1 i) B.aD).map (·.id)).Nodup
  rw[A6H (f:=j1 i) fun _=>rfl];exact h.nd
 cl:=fun x hx=>A3j (f:=j1 i) (fun _=>rfl) (h.cl x hx)
 dR:=fun x hx s hs e=>by
  rcases A3i hs with hs|⟨s',af,_,rfl⟩
  ·exact h.dR x hx s hs e
  ·exact h.dR x hx s' af e
 wl:=h.wl
theorem j7.aN{B:Z0}(h:j7 B)(K:List l3):j7 {B with kept:=K}:=⟨h.aH,h.bP,h.live,h.one,h.nd,h.cl,h.dR,h.wl⟩
structure A0H(T T':V0)(n:Nat):Prop where
 ok:j7 T'.b
 outs:T'.outs.length≤T.outs.length+n
 aT:T'.aT.length≤T.aT.length+n
 aH:T'.b.aH=T.b.aH
 aB:T'.b.aB=T.b.aB
 last:T'.b.last=T.b.last
theorem A0H.trans{T T' T'':V0}{n n':Nat}(h:A0H T T' n)(h':A0H T' T'' n'):A0H T T'' (n+n'):=⟨h'.ok,by have:=h.outs;have:=h'.outs;omega,by have:=h.aT;have:=h'.aT;omega,h'.aH.trans h.aH,h'.aB.trans h.aB,h'.last.trans h.last⟩
theorem A0H.mono{T T':V0}{n n':Nat}(h:A0H T T' n)(hn:n≤n'):A0H T T' n':=⟨h.ok,by have:=h.outs;omega,by have:=h.aT;omega,h.aH,h.aB,h.last⟩
theorem A0H.refl{T:V0}(h:j7 T.b):A0H T T 0:=⟨h,D8 _,D8 _,rfl,rfl,rfl⟩
theorem B5K{id:Int}{f:Z2→Z2×List PkO}{T:V0}(h:j7 T.b)(hf:∀o,X0 o→X0 (f o).1∧(f o).2.length≤320):A0H T (A0F id f T) 320:=by
 unfold A0F
 cases hg:A4N id T.b.aD with
 |none=>exact(A0H.refl h).mono (by decide)
 |some s=>
  have dc:=hf _ (h.bP s (B2a hg).1)
  refine⟨h.set dc.1,?_,J9 _ _,rfl,rfl,rfl⟩
  show(T.outs++A1U T.b.aB id (f s.out).2).length≤_
  rw[B5]
  have:=A9h (f s.out).2 (h.one id)
  omega
theorem B9t{α:Type}{g:V0→α→V0}{n:Nat}(hg:∀T x,j7 T.b→A0H T (g T x) n):∀(l:List α) {T:V0},j7 T.b→A0H T (l.foldl g T) (l.length*n)
 |[],T,h=>(A0H.refl h).mono (by simp)
 |x::l,T,h=>((hg T x h).trans (B9t hg l (hg T x h).ok)).mono (by rw[B7,J2];omega)
def B9h(l:List Ent):Int:=l.foldl (fun q e=>max q e.2.2) 0
theorem B6a:∀(p:Option Int) (l:List Ent),(A3v p l).length≤l.length
 |_,[]=>D8 _
 |p,e::l=>by
  unfold A3v
  split
  ·exact Nat.le_succ_of_le (B6a p l)
  ·exact Nat.succ_le_succ (B6a _ l)
theorem B8m{i:Int}:∀{tk rs:List Ent},(∀y∈tk,y.1=i)→(∀y∈rs.head?,y.1≠i)→A3v (some i) (tk++rs)=A3v none rs
 |[],[],_,_=>rfl
 |[],y::rs,_,h=>by
  have:=h y (by simp)
  simp only[F0,A3v,F6,reduceCtorEq,if_false]
  rw[if_neg (fun e=>this e.symm)]
 |y::tk,rs,h1,h2=>by
  have:=h1 y (B4 ..)
  rw[G3,A3v,if_pos (by rw[this])]
  exact B8m (fun z hz=>h1 z (C3 _ hz)) h2
theorem C2q{i:Int}{e:Ent}{rest tk rs:List Ent}(he:e.1=i)(hz:tk++rs=e::rest)(h1:∀y∈tk,y.1=i)(h2:∀y∈rs.head?,y.1≠i):A3v none (e::rest)=i::A3v none rs:=by
 rw[A3v,if_neg (by simp),he]
 congr 1
 cases tk with
 |nil=>
  rw[F0] at hz
  subst hz
  exact absurd he (h2 e (by simp))
 |cons y tk=>
  rw[G3] at hz
  cases hz
  exact B8m (fun z hz=>h1 z (C3 _ hz)) h2
theorem C4p{i:Int}{done tk rs:List Ent}(h0:∀y∈done,y.1≠i)(h1:∀y∈tk,y.1=i)(h2:∀y∈rs,y.1≠i):A2u (done++(tk++rs)) i=B9h tk:=by
 unfold A2u B9h
 rw[F2,F2,J0.2 (fun y hy=>by simpa using h0 y hy),H4.2 (fun y hy=>by simpa using h1 y hy),J0.2 (fun y hy=>by simpa using h2 y hy),C2,F0]
theorem C6I{L:List Ent}(h:Asc L):L.Pairwise fun a b=>a.1≤b.1:=h.imp fun{a b} db=>by
 rcases db with h|⟨h,_⟩
 ·exact Int.le_of_lt h
 ·exact Int.le_of_eq h
theorem B12{m:MsT}{T:V0}(h:j7 T.b):A0H T (A1k m T) 0:=by
 unfold A1k
 split
 ·exact⟨h.aN _,D8 _,D8 _,rfl,rfl,rfl⟩
 ·exact A0H.refl h
theorem A7M{m:MsT}{l:List Ent}(T:V0)(id:Int)(h:j7 T.b):A0H T (A0b m l T id) 320:=B5K h fun o ho=>⟨(A4a ho _).1,by have:=(A4a ho (m.1,m.2.1,min m.2.2.1 (A2u l id),false,e0S)).2;omega⟩
theorem B6c{m:MsT}{T:V0}(h:j7 T.b):A0H T (A0p m T) 3200000:=by
 have h1:=B12 (m:=m) h
 have h2:=B9t (A7M (m:=m) (l:=T.b.aH.filter fun x=>Y1 x.2.1 m.1)) (A3v none (T.b.aH.filter fun x=>Y1 x.2.1 m.1)) h1.ok
 refine(h1.trans h2).mono ?_
 have a:=B6a none (T.b.aH.filter fun x=>Y1 x.2.1 m.1)
 have b:=D3 (fun x=>Y1 x.2.1 m.1) T.b.aH
 have c:=h.aH
 omega
theorem C19{id:Int}{f:Z2→Z2×List PkO}{T:V0}:(A0F id f T).aT=T.aT:=by
 unfold A0F;split<;>rfl
theorem B8q{α:Type}{g:V0→α→V0}(hg:∀T x,(g T x).aT=T.aT):∀(l:List α) {T:V0},(l.foldl g T).aT=T.aT
 |[],_=>rfl
 |x::l,T=>(B8q hg l).trans (hg T x)
theorem A7N{m:MsT}{T:V0}:(A0p m T).aT=T.aT:=by
 unfold A0p
 rw[B8q (g:=A0b m (T.b.aH.filter fun x=>Y1 x.2.1 m.1)) fun T x=>C19]
 unfold A1k;split<;>rfl
theorem A8P{m:MsT}{T:V0}(h:j7 T.b):A0H T (A3n m T) 3200000:=let r:=B6c (m:=m) h;⟨r.ok,r.outs,by
 show((A0p m T).aT++[m]).length≤_
 rw[B5,A7N];simp only[B7,G7];omega,r.aH,r.aB,r.last⟩
theorem A1T{c:Int}{l:List Y6}{x:Y6}(h:A1E c l=some x):x∈l∧x.c=c:=⟨H2 h,by simpa using M0 h⟩
def A4O(k:Int)(A:List V7):Bool×List V7:=match A4N k A with
 |none=>(false,A)
 |some s=>if s.on=false then(false,A) else if s.aN=true then(false,X7 k A8y A) else(true,A.filter fun x=>decide (x.id≠k))
theorem B4Y{k:Int}{B:Z0}:A6m k B=⟨B.last,(A4O k B.aD).2,if(A4O k B.aD).1=true then A1l k B.aH else B.aH,B.kept,B.aB⟩:=by
 unfold A6m A4O
 cases A4N k B.aD with
 |none=>rfl
 |some s=>
  simp only
  by_cases h1:s.on=false
  ·simp[h1]
  ·by_cases h2:s.aN=true
   ·simp[h1,h2]
   ·simp[h1,h2]
theorem j7.conn{B:Z0}(h:j7 B)(p:Y6→Bool):j7 (A5s (B.aB.filter p) B) where
 aH:=h.aH
 bP:=h.bP
 live:=h.live
 one:=fun id=>by
  refine C7 ?_ (h.one id)
  exact(List.Sublist.filter _ I4).length_le
 nd:=h.nd
 cl:=fun x hx=>h.cl x (D9.1 hx).1
 dR:=fun x hx=>h.dR x (D9.1 hx).1
 wl:=fun x hx=>h.wl x (D9.1 hx).1
theorem j7.other{B:Z0}(h:j7 B){x y:Y6}(hx:x∈B.aB)(hy:y∈B.aB)(bF:y.c≠x.c):y.aD≠x.aD:=fun e=>by
 have h1:=h.one x.aD
 have m1:x∈B.aB.filter (fun z=>decide (z.aD=x.aD)):=D9.2 ⟨hx,by simp⟩
 have m2:y∈B.aB.filter (fun z=>decide (z.aD=x.aD)):=D9.2 ⟨hy,by simp[e]⟩
 generalize B.aB.filter (fun z=>decide (z.aD=x.aD))=k at h1 m1 m2
 match k,h1 with
 |[],_=>cases m1
 |[z],_=>
  rw[B8.1 m1,B8.1 m2] at bF
  exact bF rfl
theorem B9z{k:Int}{B:Z0}(h:j7 B)(hc:∀y∈B.aB,y.aD≠k):j7 (A6m k B)∧(A6m k B).aB=B.aB∧(A6m k B).last=B.last∧(A6m k B).kept=B.kept:=by
 unfold A6m
 split
 ·exact⟨h,rfl,rfl,rfl⟩
 ·rename_i s hg
  split
  ·exact⟨h,rfl,rfl,rfl⟩
  ·split
   ·refine⟨⟨h.aH,fun x hx=>?_,fun e he=>A3j (f:=A8y) (fun _=>rfl) (h.live e he),h.one,?_,fun x hx=>A3j (f:=A8y) (fun _=>rfl) (h.cl x hx),fun x hx s hs e=>?_,h.wl⟩,rfl,rfl,rfl⟩
    ·rcases A3i hx with hx|⟨y,hy,_,rfl⟩
     ·exact h.bP x hx
     ·exact(h.bP y hy).off false
    ·show((X7 k A8y B.aD).map (·.id)).Nodup
     rw[A6H (f:=A8y) fun _=>rfl];exact h.nd
    ·rcases A3i hs with hs|⟨s',af,hk,rfl⟩
     ·exact h.dR x hx s hs e
     ·exact absurd (e.symm.trans hk) (hc x hx)
   ·refine⟨⟨C7 (D3 _ _) h.aH,fun x hx=>h.bP x (D9.1 hx).1,fun e he=>?_,h.one,?_,fun x hx=>?_,fun x hx s hs=>h.dR x hx s (D9.1 hs).1,h.wl⟩,rfl,rfl,rfl⟩
    ·obtain⟨df,cN⟩:=D9.1 he
     obtain⟨y,hy,pS⟩:=h.live e df
     refine⟨y,D9.2 ⟨hy,?_⟩,pS⟩
     rw[pS]
     simpa using cN
    ·exact h.nd.sublist (List.Sublist.map _ I4)
    ·obtain⟨y,hy,pS⟩:=h.cl x hx
     refine⟨y,D9.2 ⟨hy,?_⟩,pS⟩
     rw[pS]
     simpa using hc x hx
theorem j7.gone{B:Z0}(h:j7 B){c:Int}{x:Y6}(hg:A1E c B.aB=some x):∀y∈B.aB.filter (fun y=>decide (y.c≠c)),y.aD≠x.aD:=fun y hy=>by
 obtain⟨h1,h2⟩:=D9.1 hy
 obtain⟨h3,h4⟩:=A1T hg
 exact h.other h3 h1 (by rw[h4];simpa using h2)
theorem B9B{full:Bool}{c:Int}{w:Bool}{T:V0}(h:j7 T.b):j7 (A4n full c w T).b∧(A4n full c w T).outs.length≤T.outs.length+3200000∧(A4n full c w T).aT.length≤T.aT.length+3200000∧(A4n full c w T).b.aB=T.b.aB.filter (fun y=>decide (y.c≠c))∧(A4n full c w T).b.last=T.b.last:=by
 unfold A4n
 cases hg:A1E c T.b.aB with
 |none=>
  have hf:T.b.aB.filter (fun y=>decide (y.c≠c))=T.b.aB:=H4.2 fun y hy=>by
   have:=E8.1 hg y hy
   simpa using this
  exact⟨h,J9 _ _,J9 _ _,hf.symm,rfl⟩
 |some x=>
  have h1:=B9z (k:=x.aD) (h.conn fun y=>decide (y.c≠c)) (h.gone hg)
  simp only
  split
  ·have h2:=A8P (m:=x.aX) (T:=tB (A6m x.aD (A5s (T.b.aB.filter fun y=>decide (y.c≠c)) T.b)) T) h1.1
   exact⟨h2.ok,h2.outs,h2.aT,h2.aB.trans h1.2.1,h2.last.trans h1.2.2.1⟩
  ·exact⟨h1.1,J9 _ _,J9 _ _,h1.2.1,h1.2.2.1⟩
theorem B0C{full:Bool}{c code:Int}{T:V0}(h:j7 T.b):j7 (A0C full c code T).b∧(A0C full c code T).outs.length≤T.outs.length+3200001∧(A0C full c code T).aT.length≤T.aT.length+3200001∧(A0C full c code T).b.aB=T.b.aB.filter (fun y=>decide (y.c≠c))∧(A0C full c code T).b.last=T.b.last:=by
 have h1:=B9B (full:=full) (c:=c) (w:=true) (T:=A0A ⟨c,j9 14 0 code,true⟩ T) h
 refine⟨h1.1,?_,?_,h1.2.2.2.1,h1.2.2.2.2⟩
 ·refine C7 h1.2.1 ?_
  have e:(A0A ⟨c,j9 14 0 code,true⟩ T).outs.length=T.outs.length+1:=by rw[B5];rfl
  omega
 ·have e:(A0A ⟨c,j9 14 0 code,true⟩ T).aT.length=T.aT.length:=rfl
  have:=h1.2.2.1
  unfold A0C
  omega
open Go.H Go.Proofs Go.Shelf
def A9r:Go.Shelf.Ren:=⟨fun n=>match n with|7=>78|10=>124|n=>n,fun n=>match n with|23=>170|26=>3|3=>198|28=>123|0=>0|27=>122|33=>196|4=>4|n=>n,fun n=>n⟩
theorem C73:SlLaysZI.n7 prog A9r where
 mixed:=by kernel_rfl
 f7:=⟨f78.name,by kernel_rfl,func78.trans (congrArg some (by kernel_rfl))⟩
 f10:=⟨f124.name,by kernel_rfl,func124.trans (congrArg some (by kernel_rfl))⟩
 t0:=underlying0
 a0:=isAgg0
 z0:=sizeOf0
 v0:=zeroValue0
 t4:=underlying4
 a4:=isAgg4
 z4:=sizeOf4
 v4:=zeroValue4
 t23:=underlying170
 a23:=isAgg170
 z23:=sizeOf170
 v23:=zeroValue170
 t26:=underlying3
 a26:=isAgg3
 z26:=sizeOf3
 v26:=zeroValue3
 t27:=underlying122
 a27:=isAgg122
 z27:=sizeOf122
 v27:=zeroValue122
 t28:=underlying123
 a28:=isAgg123
 z28:=sizeOf123
 v28:=zeroValue123
 t33:=underlying196
 a33:=isAgg196
 z33:=sizeOf196
 v33:=zeroValue196
abbrev InT:=Int×B38×Bool×Bool
abbrev C2F(x:InT):D0u:=[.int .i64 x.1,.string x.2.1,.bool x.2.2.1,.bool x.2.2.2]
def A08(s:V7):InT:=(s.id,s.aC,s.aN,s.on)
theorem B1R{α β:Type}(f:α→β){l:List α}(hn:(l.map f).Nodup):l.Nodup:=
 List.Pairwise.of_map f (fun a b bF db=>bF (congrArg f db)) hn
def C91(xs ys:List InT):Prop:=∀x∈xs,x∈ys
theorem C6u(x:InT):(C2F x).length=4:=rfl
theorem C3I(x:InT):∀v∈C2F x,v.oneCell'=true:=by
 intro v hv;simp at hv;rcases hv with rfl|rfl|rfl|rfl<;>rfl
theorem B89{α β:Type}{f:α→β}{l1 l2:List α}(hm:(l1.map f).Perm (l2.map f))(hn:(l2.map f).Nodup)(hs:∀x∈l1,x∈l2):l1.Perm l2:=by
 have gW:(l1.map f).Nodup:=hm.nodup_iff.2 hn
 refine(P7 (B1R f gW) (B1R f hn)).2 fun y=>⟨hs y,fun hy=>?_⟩
 obtain⟨x,hx,he⟩:=E4.1 (hm.mem_iff.2 (B3 hy))
 have lD:=hs x hx
 have:x=y:=by
  obtain⟨a,b,rfl⟩:=H0 hy
  rw[C0,B6,G1] at hn
  rcases C9.1 lD with h|h
  ·exact absurd he (hn.2.2 _ (B3 h) _ (B4 ..))
  ·rcases D2.1 h with h|h
   ·exact h
   ·have h3:=(F4.1 hn.2.1).1
    rw[←he] at h3
    exact absurd (B3 h) h3
 exact this▸hx
theorem C5c{h:Heap}{R:List Asn}{b:Nat}{last:Int}{L:List (Nat×V7)}(hs:sat h (A1N b last L::R))(ff:last<4611686018427387904)(hid:∀p∈L,0≤p.2.id∧p.2.id≤last)(hlen:L.length≤32){Q:Value→Heap→Prop}
  (hq:∀(sl:Slc) (xs:List InT) h',xs.map (·.1)=Z4 (L.map (·.2.id))→xs.Perm (L.map fun p=>A08 p.2)→sat h' (U6 C2F 4 sl xs::A1N b last L::R)→Q (.slice sl.a sl.len sl.cap) h'):
  V4 prog 42 #[at0 b] h Q:=by
 refine A6d _ h Q ?_
 obtain⟨m,hs⟩:=s6.1 hs
 have c1:W3 h ⟨b,1,none⟩=some (.map (some m)):=hs.cell 1
 have tX:(L.map (·.2.id)).Nodup:=by
  have:=hs.p1.bJ
  rw[F1] at this
  exact this
 delta A46 az bn cc g9 ie ix km li nn nw pu vi wi
 simp[c1]
 refine B0O (ρk:=A9r) C73 (some m) ?_
 simp only[C5j]
 have ae:=(hs.bG (T:=A9r.t 23) (cs:=#[.map (some m)]))
 refine A7k (ρk:=A9r) (ρs:=A5H) (ρt:=A7l) C73 B8Q C1Q rfl (enters_of func76 (by kernel_rfl) rfl) (enters_of func124 (by kernel_rfl) rfl) ae.p2
  (fun p hp=>?_) ?_ (ae.cell 0) fun sl h' aj=>?_
 ·obtain⟨q,dZ,rfl⟩:=E4.1 hp
  have:=hid q dZ
  simp[Lit.wf,IntKind.min,IntKind.max,IntKind.bits,IntKind.signed,p9]
  omega
 ·simp;omega
 ·have e0:(L.map p9).map (·.1)=L.map (·.2.id):=by rw[F1];rfl
  rw[e0] at aj
  simp only[C1C]
  have ak:=(aj.re [2,0,1]).drop
  clear ae aj
  have iq:(Z4 (L.map (·.2.id))).length=L.length:=by simp[Z4,O7]
  have cH:=ak.aW
  rw[iq] at cH
  refine o0 (γ:=Nat×List InT) (hb:=fun s=>by
   repeat' with_reducible first
    |refine @A0z _ _ _ _ ?_ (fun _=>?_)
    |refine @A07 _ _ _ _ ?_ ?_
   all_goals infer_instance)
   (fun g c aR=>c.2.1=(g.1:Int)∧g.1≤L.length∧g.2.map (·.1)=(Z4 (L.map (·.2.id))).take g.1∧C91 g.2 (L.map fun p=>A08 p.2)∧
    sat aR (U6 C2F 4 c.1 g.2::U6 eI 1 sl (Z4 (L.map (·.2.id)))::mapA eKI eVP m (L.map p9)::cells b #[.int .i64 last,.map (some m)]::a7 (fun p=>A3N p.1 p.2) L::R))
   (fun g=>L.length-g.1) (0,[]) ⟨rfl,D1 _,rfl,fun x hx=>(by simp at hx),Z5 ak⟩ ?_
  rintro⟨i,xs⟩ ⟨out,c,⟨⟩⟩ h1 ⟨hc,hi,gA,lD,ai⟩
  simp only at hc hi gA lD ai
  subst hc
  have next:IntKind.wrap .i64 ((i:Int)+1)=((i+1:Nat):Int):=by rw[V8 (by omega) (by omega)];rfl
  simp
  by_cases ah:i<L.length
  ·rw[if_pos (by omega)]
   have bk:i<(Z4 (L.map (·.2.id))).length:=by omega
   refine X9 (ai.p1.aO (by intro x;rfl)) (B0 bk) fun a ha=>?_
   generalize hk:(Z4 (L.map (·.2.id)))[i]=k at ha
   have e1:W3 h1 a=some (.int .i64 k):=by simpa[Go.H.add_zero] using ha 0 _ rfl
   have d1:W3 h1 ⟨b,1,none⟩=some (.map (some m)):=by rw[(ai.re [3,0,1,2]).cell];rfl
   have rU:k∈L.map (·.2.id):=by
    have:=G8 bk
    rw[hk] at this
    exact(R0 _ _).mem_iff.1 this
   obtain⟨p,hp,dB⟩:=E4.1 rU
   simp[e1,d1]
   refine y7 kI (kind:=.one .ptr) (z:=none) rfl (ai.re [2,0,1]) ?_
   have hg:W4 (L.map p9) k=some (some ⟨p.1,0,none⟩):=by
    obtain⟨l1,l2,rfl⟩:=H0 hp
    cases vL:W4 ((l1++p::l2).map p9) k with
    |none=>
     have:=(A1t _ _).1 vL
     exact absurd (by rw[F1];exact rU) this
    |some v=>
     obtain⟨q,dZ,e⟩:=E4.1 (A4f vL)
     have e2:q.2.id=k:=congrArg Prod.fst e
     have e3:some ⟨q.1,0,none⟩=v:=congrArg Prod.snd e
     have xg:p9 q=p9 p:=by
      have au:=(ai.re [2,0,1]).bJ
      have hA:p9 q∈(l1++p::l2).map p9:=B3 dZ
      have hB:p9 p∈(l1++p::l2).map p9:=B3 hp
      obtain⟨u1,u2,hu⟩:=H0 hB
      rw[hu] at hA au
      rw[C0,B6,G1] at au
      have fY:(p9 q).1=(p9 p).1:=e2.trans dB.symm
      rcases C9.1 hA with h|h
      ·exact absurd fY (au.2.2 _ (B3 h) _ (B4 ..))
      ·rcases D2.1 h with h|h
       ·exact h
       ·have h3:=(F4.1 au.2.1).1
        rw[←fY] at h3
        exact absurd (B3 h) h3
     have:=congrArg Prod.snd xg
     rw[←e3]
     exact congrArg some this
   rw[hg]
   simp
   obtain⟨R',aw⟩:=A9c hp (ai.re [4,0,1,2,3])
   obtain⟨ob,ib,aF⟩:=A1O.1 aw
   refine A0v (ts:=[.int .i64,.str,.bool,.bool]) (p.2.id,p.2.aC,p.2.aN,p.2.on,()) (fun j v hv=>?_) ?_
   ·rw[U4,aF.cell]
    match j,hv with
    |0,hv=>exact hv
    |1,hv=>exact hv
    |2,hv=>exact hv
    |3,hv=>exact hv
    |j+4,hv=>cases(show(none:Option Value)=some v from hv)
   ·try simp only[U2]
    refine A1c (x:=A08 p.2) C6u C3I rfl ai (by decide) (by decide) ?_ fun fk h2 bq=>?_
    ·have:xs.length=i:=by
      have:=congrArg List.length gA
      simp at this
      omega
     omega
    ·refine .mk (i+1,xs++[A08 p.2]) (by simp only[];omega) ⟨next,by simp only[];omega,?_,fun x hx=>?_,bq⟩
     ·simp only[C0,B6,I3,gA]
      rw[C4 bk,hk,←dB]
      rfl
     ·rcases C9.1 hx with h|h
      ·exact lD x h
      ·rw[B8.1 h]
       exact B3 hp
  ·rw[if_neg (by omega)]
   rw[D4 (by omega)] at gA
   refine hq out xs h1 gA (B89 (f:=(·.1)) ?_ ?_ lD) ?_
   ·rw[gA,F1]
    exact R0 _ _
   ·rw[F1]
    exact tX
   ·exact((s6.2 ⟨m,ai.re [3,2,4,0,1]⟩).re [2,1,0]).drop
theorem C6d{h:Heap}{R:List Asn}(hs:sat h R){Q:Value→Heap→Prop}(hq:∀h',sat h' R→Q (.tuple #[.agg #[.int .i64 0,.string (ByteArray.mk #[]),.bool false,.bool false],.bool false]) h'):V4 prog 97 #[.pointer none] h Q:=by
 refine A45 none h Q ?_
 delta A7o az g9 ie nn nw pu sn ve vi
 refine V6 hs fun b h1 aa=>?_
 simp only[U9,Option.isNone_none,if_true]
 refine l6 aa rfl rfl fun h2 ae=>?_
 refine Y8 (ts:=[.int .i64,.str,.bool,.bool]) (0,ByteArray.mk #[],false,false,()) ae rfl ?_
 exact hq h2 ae.drop
variable {h:Heap} {R:List Asn}
theorem C2A{α β:Type}{f:α→β}{xs ys:List α}(hp:xs.Perm ys)(hn:(ys.map f).Nodup)(he:xs.map f=ys.map f):xs=ys:=by
 refine List.ext_getElem hp.length_eq fun i h1 h2=>?_
 have hm:xs[i]∈ys:=hp.mem_iff.1 (G8 h1)
 have hk:f xs[i]=f ys[i]:=by
  have:=List.getElem_of_eq he (i:=i) (by simpa using h1)
  simpa using this
 obtain⟨j,hj,oO⟩:=List.getElem_of_mem hm
 have nS:j=i:=by
  refine(List.getElem_inj (xs:=ys.map f) (i:=j) (j:=i) (h₀:=by simpa using hj) (h₁:=by simpa using h2) hn).1 ?_
  simp only[List.getElem_map]
  rw[oO,hk]
 subst nS
 exact oO.symm
theorem B8R{l:List Int}(hr:l.Pairwise (·< ·)):Z4 l=l:=
 List.mergeSort_of_pairwise (hr.imp fun{a b} db=>by simpa using(show a≤b by omega))
theorem B81{l:List Int}(hr:l.Pairwise (·< ·)):l.Nodup:=hr.imp fun{a b} db=>by omega
theorem C7x{L:List (Nat×V7)}{xs:List InT}(hr:(L.map (·.2.id)).Pairwise (·< ·))(h1:xs.map (·.1)=Z4 (L.map (·.2.id)))(h2:xs.Perm (L.map fun p=>A08 p.2)):xs=L.map fun p=>A08 p.2:=by
 have e:(L.map fun p=>A08 p.2).map (·.1)=L.map (·.2.id):=by rw[F1];rfl
 refine C2A h2 (f:=(·.1)) ?_ ?_
 ·rw[e];exact B81 hr
 ·rw[e,h1,B8R hr]
def A4i:Option InT→(Int×B38×Bool×Bool×Unit)×Bool×Unit
 |some x=>((x.1,x.2.1,x.2.2.1,x.2.2.2,()),true,())
 |none=>((0,ByteArray.mk #[],false,false,()),false,())
abbrev B8k(o:Option InT):Value:=.tuple (r9.cC [.agg [.int .i64,.str,.bool,.bool],.one .bool] (A4i o)).toArray
theorem C4E{b:Nat}{s:V7}{ob ib:Nat}(hs:sat h (cells b (B8U s ob ib)::R)){Q:Value→Heap→Prop}(hq:∀h',sat h' (cells b (B8U s ob ib)::R)→Q (B8k (some (A08 s))) h'):
  V4 prog 97 #[at0 b] h Q:=by
 refine A45 (some ⟨b,0,none⟩) h Q ?_
 delta A7o az g9 ie nn nw pu sn ve vi
 refine V6 hs fun x1 h1 aa=>?_
 (try dsimp only);rw[U9,if_neg (by simp)]
 refine⟨_,rfl,?_⟩
 refine A0v (ts:=[.int .i64,.str,.bool,.bool]) (s.id,s.aC,s.aN,s.on,()) (fun j v hv=>?_) ?_
 ·rw[U4,U4,(aa.p1).cell]
  match j,hv with
  |0,hv=>exact hv
  |1,hv=>exact hv
  |2,hv=>exact hv
  |3,hv=>exact hv
  |j+4,hv=>cases(show(none:Option Value)=some v from hv)
 refine l6 aa rfl rfl fun h2 ae=>?_
 refine Y8 (ts:=[.int .i64,.str,.bool,.bool]) (s.id,s.aC,s.aN,s.on,()) ae rfl ?_
 exact hq h2 ae.drop
theorem C7A{b:Nat}{last:Int}{L:List (Nat×V7)}{p:Nat×V7}(hp:p∈L)(hs:sat h (A1N b last L::R)){Q:Value→Heap→Prop}(hq:∀h',sat h' (A1N b last L::R)→Q (B8k (some (A08 p.2))) h'):
  V4 prog 97 #[at0 p.1] h Q:=by
 obtain⟨l1,l2,rfl⟩:=H0 hp
 obtain⟨m,ob,ib,aa⟩:=B91 hs
 refine C4E (s:=p.2) (aa.re [2,0,1]) fun h' ae=>hq h' ?_
 exact B90 (o:=p.2.out) (ae.re [1,2,0])
theorem C5e{b:Nat}{last:Int}{L:List (Nat×V7)}{c:B38}(hs:sat h (A1N b last L::R)){Q:Value→Heap→Prop}
  (ay:(∀p∈L,p.2.aC≠c)→∀h',sat h' (A1N b last L::R)→Q (B8k none) h')(cO:∀p∈L,p.2.aC=c→∀h',sat h' (A1N b last L::R)→Q (B8k (some (A08 p.2))) h'):
  V4 prog 55 #[at0 b,.string c] h Q:=by
 refine A6e _ c h Q ?_
 delta A47 az bn cp g9 nw pu sn
 refine V6 hs fun x1 h1 aa=>?_
 have fin:∀{o:Option InT} {h':Heap},(∀h',sat h' (A1N b last L::R)→Q (B8k o) h')→sat h' (A1N b last L::cells x1 #[.int .i64 0,.string (ByteArray.mk #[]),.bool false,.bool false]::R)→
   (HM.bind (α:=Unit) (B0n ⟨x1,0,none⟩ [.int .i64 (A4i o).1.1,.string (A4i o).1.2.1,.bool (A4i o).1.2.2.1,.bool (A4i o).1.2.2.2.1]) fun(_:Unit)=>
    HM.bind (α:=Int×B38×Bool×Bool×Unit) (o6 [.int .i64,.str,.bool,.bool] ⟨x1,0,none⟩) fun(x4:Int×B38×Bool×Bool×Unit)=>
    X2 ((x4.1,x4.2.1,x4.2.2.1,x4.2.2.2.1,()),(A4i o).2.1,())) h' fun x h'=>Q (.tuple #[.agg #[.int .i64 x.1.1,.string x.1.2.1,.bool x.1.2.2.1,.bool x.1.2.2.2.1],.bool x.2.1]) h':=fun dZ af=>by
  refine l6 af.p1 rfl rfl fun h3 aj=>?_
  refine Y8 (ts:=[.int .i64,.str,.bool,.bool]) (A4i _).1 aj rfl ?_
  exact dZ h3 aj.drop
 refine V5 (fun x h'=>(x=none∧(∀p∈L,p.2.aC≠c)∧sat h' (A1N b last L::cells x1 #[.int .i64 0,.string (ByteArray.mk #[]),.bool false,.bool false]::R))∨
  (∃p,p∈L∧x=some ⟨p.1,0,none⟩∧p.2.aC=c∧sat h' (A1N b last L::cells x1 #[.int .i64 0,.string (ByteArray.mk #[]),.bool false,.bool false]::R))) ?_ ?_
 ·exact C3t aa.p1 (fun hn h' af=>⟨none,rfl,.inl ⟨rfl,hn,af⟩⟩) (fun p hp hc h' af=>⟨some ⟨p.1,0,none⟩,rfl,.inr ⟨p,hp,rfl,hc,af⟩⟩)
 rintro x h2 (⟨rfl,hn,ae⟩|⟨p,hp,rfl,hc,ae⟩)
 ·refine u0 (C6d ae fun h3 aj=>⟨A4i none,rfl,?_⟩)
  exact fin (o:=none) (ay hn) aj
 ·refine u0 (C7A hp ae fun h3 aj=>⟨A4i (some (A08 p.2)),rfl,?_⟩)
  exact fin (o:=some (A08 p.2)) (cO p hp hc) aj
end
section
open Go.H Go.Proofs
variable {h:Heap} {R:List Asn}
theorem C2b{b:Nat}{o:Z2}{m:MsT}(hs:sat h (A0u b o::R))(ag:X0 o){Q:Value→Heap→Prop}
  (hq:∀S h',sat h' (A0u b (Y0 o m).1.1::q8 .u8 S (Y0 o m).1.2::R)→Q (.tuple #[.slice S.a S.len S.cap,.int .u8 (Y0 o m).2]) h'):
  V4 prog 81 #[at0 b,vMs m] h Q:=by
 refine A6X (some ⟨b,0,none⟩) (toU m) h Q ?_
 obtain⟨pb,fl,wt,dS⟩:=A0t.1 hs
 have eX:wt.len=o.waiting.length:=(dS.re [3,0,1,2]).aW
 delta A5Q az bn cc g7 ie ji kb kc nn nw pu rq sx vs vz
 refine V6 dS fun mb h1 bz=>?_
 have aa:sat h1 (cells mb (Z7 m).toArray::cells b #[at0 pb,.int .i64 o.most,.bool o.on,.slice fl.a fl.len fl.cap,.slice wt.a wt.len wt.cap]::A1w pb o.aU::U6 A0V 7 fl o.aG::U6 Z7 5 wt o.waiting::R):=bz
 clear bz dS hs
 have hM:W3 h1 ⟨mb,2,none⟩=some (.int .i64 m.2.2.1):=aa.cell 2
 have stay:∀{c:Int},Y0 o m=((o,[]),c)→Q (.tuple #[.slice none 0 0,.int .u8 c]) h1:=fun{c} he=>by
  have:=hq ⟨none,0,0⟩ h1
  rw[he] at this
  exact this ((A1W (A0t.2 ⟨pb,fl,wt,aa.drop⟩)).p1)
 (try dsimp only);rw[U9,if_neg (by simp)]
 refine cut (fun x h'=>h'=h1∧x.1=decide (m.2.2.1<0∨2<m.2.2.1)) ?_ ?_
 ·intro K hK
  refine⟨m.2.2.1,by rw[U4];exact hM,?_⟩
  (try dsimp only);rw[U9]
  by_cases h0:m.2.2.1<0
  ·rw[if_pos (by simpa using h0)]
   exact hK _ _ ⟨rfl,by simp[h0]⟩
  ·rw[if_neg (by simpa using h0)]
   exact⟨m.2.2.1,by rw[U4];exact hM,hK _ _ ⟨rfl,by simp[h0]⟩⟩
 rintro⟨x,⟨⟩⟩ h2 ⟨rfl,hx⟩
 simp only at hx
 subst hx
 (try dsimp only);rw[U9]
 by_cases an:m.2.2.1<0∨2<m.2.2.1
 ·rw[if_pos (by simpa using an)]
  exact stay (by unfold Y0;rw[if_pos an])
 rw[if_neg (by simpa using an)]
 refine cut (fun x h'=>h'=h2∧x.1=decide (m.2.2.1=0∧o.on=false)) ?_ ?_
 ·intro K hK
  refine⟨m.2.2.1,by rw[U4];exact hM,?_⟩
  (try dsimp only);rw[U9]
  by_cases h0:m.2.2.1=0
  ·rw[if_pos (by simpa using h0)]
   refine⟨_,rfl,o.on,by rw[U4];exact aa.p1.cell 2,hK _ _ ⟨rfl,?_⟩⟩
   cases o.on<;>simp[h0]
  ·rw[if_neg (by simpa using h0)]
   exact hK _ _ ⟨rfl,by simp[h0]⟩
 rintro⟨x,⟨⟩⟩ h3 ⟨rfl,hx⟩
 simp only at hx
 subst hx
 (try dsimp only);rw[U9]
 by_cases dH:m.2.2.1=0∧o.on=false
 ·rw[if_pos (by simpa using dH)]
  exact stay (by unfold Y0;rw[if_neg an,if_pos dH])
 rw[if_neg (by simpa using dH)]
 refine⟨_,rfl,wt,by rw[U4];exact aa.p1.cell 4,?_⟩
 (try dsimp only);rw[U9]
 by_cases ax:256≤o.waiting.length
 ·rw[if_pos (by rw[eX];simp only[decide_eq_true_eq];omega)]
  exact stay (by unfold Y0;rw[if_neg an,if_neg dH,if_pos ax])
 rw[if_neg (by rw[eX];simp only[decide_eq_true_eq];omega)]
 refine⟨_,rfl,wt,by rw[U4];exact aa.p1.cell 4,?_⟩
 refine Y8 (ts:=[.str,.str,.int .i64,.bool,.str]) (toU m) aa rfl ?_
 refine V6 aa fun pA h4 aQ=>?_
 have ae:sat h4 (cells pA (Z7 m).toArray::cells mb (Z7 m).toArray::cells b #[at0 pb,.int .i64 o.most,.bool o.on,.slice fl.a fl.len fl.cap,.slice wt.a wt.len wt.cap]::A1w pb o.aU::U6 A0V 7 fl o.aG::U6 Z7 5 wt o.waiting::R):=aQ
 clear aQ
 refine⟨wt,by rw[U4];exact ae.p2.cell 4,rfl,?_⟩
 (try dsimp only);rw[U2]
 refine A0k (enc:=Z7) (ys:=[m]) A7V B6s rfl ae.p5 rfl ?_ (by decide) (by decide) (by omega) fun wt' h5 aj=>?_
 ·simp only[V9,N0,D7,I1,C2]
  exact ae.reads rfl
 refine⟨_,rfl,?_⟩
 (try dsimp only);rw[U2,U4]
 refine W7 aj.p3 (by simp) rfl fun h6 ak=>?_
 have ai:sat h6 (A0u b {o with waiting:=o.waiting++[m]}::q8 .u8 ⟨none,0,0⟩ []::R):=by
  refine(A1W (A0t.2 ⟨pb,fl,wt',?_⟩)).p1
  exact(ak.re [0,4,5,1,2,3]).p4.p5.drop.drop
 have hw:=ag.wait (m:=m) ⟨by omega,by omega⟩ ax
 have he:Y0 o m=(Y7 {o with waiting:=o.waiting++[m]},0):=by unfold Y0;rw[if_neg an,if_neg dH,if_neg ax]
 rw[he] at hq
 refine U7 (B3i ai hw (by simp) fun h7 S aw=>⟨S,rfl,?_⟩)
 exact hq S h7 aw
theorem C2U{n:Int}{Q:Value→Heap→Prop}(hq:Q (.int .i64 (max 1 (min n 64))) h):V4 prog 117 #[.int .i64 n] h Q:=by
 refine A3G n h Q ?_
 delta A8i pu
 have e:(if 1<(if 64<n then(64:Int) else n) then(if 64<n then 64 else n) else 1)=max 1 (min n 64):=by
  split<;>split<;>omega
 rw[e]
 exact hq
abbrev FlU:=Int×B38×B38×Int×Bool×B38×Bool×Unit
abbrev C3Z(f:FlT):FlU:=(f.1,f.2.1.1,f.2.1.2.1,f.2.1.2.2.1,f.2.1.2.2.2.1,f.2.1.2.2.2.2,f.2.2,())
theorem C0x{b:Nat}{o:Z2}{most:Int}(hs:sat h (A0u b o::R))(ag:X0 o){Q:Value→Heap→Prop}
  (hq:∀S h',sat h' (A0u b (A0s o most).1::q8 .u8 S (A0s o most).2::R)→Q (.slice S.a S.len S.cap) h'):
  V4 prog 73 #[at0 b,.int .i64 most] h Q:=by
 refine A6h (some ⟨b,0,none⟩) most h Q ?_
 obtain⟨pb,fl,wt,dS⟩:=A0t.1 hs
 delta A5f ad az bn cc ci g5 g7 ie ix jb ji kc nn nw pu sn sx ve vi vs vz wi
 (try dsimp only);rw[U9,if_neg (by simp)]
 refine U7 (C2U ⟨_,rfl,?_⟩)
 refine⟨_,rfl,?_⟩
 (try dsimp only);rw[U2,U4]
 refine W7 dS (by simp) rfl fun h1 aa=>?_
 refine⟨_,rfl,?_⟩
 (try dsimp only);rw[U2,U4]
 refine W7 aa (by simp) rfl fun h2 aQ=>?_
 have ae:sat h2 (cells b #[at0 pb,.int .i64 (max 1 (min most 64)),.bool true,.slice fl.a fl.len fl.cap,.slice wt.a wt.len wt.cap]::A1w pb o.aU::U6 A0V 7 fl o.aG::U6 Z7 5 wt o.waiting::R):=aQ
 clear aQ aa dS hs
 refine⟨_,rfl,fl,by rw[U4];exact ae.cell 3,?_⟩
 have cq:fl.len=o.aG.length:=ae.p2.aW
 have iu:=ag.f64
 (try dsimp only);rw[U2]
 refine B5X o.aG.length (fun i x h'=>x.2.1=(i:Int)∧sat h' (cells b #[at0 pb,.int .i64 (max 1 (min most 64)),.bool true,.slice fl.a fl.len fl.cap,.slice wt.a wt.len wt.cap]::A1w pb o.aU::U6 A0V 7 fl o.aG::U6 Z7 5 wt o.waiting::q8 .u8 x.1 ((o.aG.take i).map A1C)::R))
  ⟨rfl,by simpa using(A1W (k:=.u8) ae).re [1,2,3,4,0]⟩ (fun i x h hi hJ=>by rw[hJ.1,cq];exact G0.2 (by omega)) (fun x h hJ K hd=>?_) (fun i x h ah hJ K bu hd=>?_)
 ·obtain⟨hx,aj⟩:=hJ
  rw[F5] at aj
  refine hd _ _ ?_
  have ak:sat h (A0u b {o with on:=true,most:=max 1 (min most 64)}::q8 .u8 x.1 (o.aG.map A1C)::R):=A0t.2 ⟨pb,fl,wt,aj⟩
  have h1:X0 {o with on:=true,most:=max 1 (min most 64)}:=⟨ag.pm,ag.pk,by simp only;omega,by simp only;omega,ag.ids,ag.wl,ag.fq,ag.wq⟩
  refine U7 (B3i ak h1 (by rw[C1];omega) fun h7 S aw=>⟨S,rfl,?_⟩)
  exact hq S h7 aw
 ·obtain⟨out,ci,⟨⟩⟩:=x
  obtain⟨hx,aj⟩:=hJ
  simp only at hx aj
  subst hx
  have hy:=B0 ah
  have aV:(o.aG.take (i+1)).map A1C=(o.aG.take i).map A1C++[A1C o.aG[i]]:=by rw[I0,hy,C0];rfl
  generalize o.aG[i]=f at hy aV
  (try dsimp only);rw[U2]
  refine X9 (aj.p2.aO A2L) hy fun a ha=>?_
  refine A0v (ts:=[.int .i64,.str,.str,.int .i64,.bool,.str,.bool]) (C3Z f) ha ?_
  refine V6 aj fun ia h4 ak=>?_
  (try dsimp only);rw[U2]
  refine l6 ak rfl rfl fun h5 fp=>?_
  have ai:sat h5 (cells ia (A0V f).toArray::cells b #[at0 pb,.int .i64 (max 1 (min most 64)),.bool true,.slice fl.a fl.len fl.cap,.slice wt.a wt.len wt.cap]::A1w pb o.aU::U6 A0V 7 fl o.aG::U6 Z7 5 wt o.waiting::q8 .u8 out ((o.aG.take i).map A1C)::R):=fp
  clear fp ak
  refine⟨f.2.2,by rw[U4];exact ai.cell 6,?_⟩
  have oU:((o.aG.take i).map A1C).length≤64:=by rw[C1,E6];omega
  refine cut (fun z h'=>sat h' (q8 .u8 z.1 ((o.aG.take (i+1)).map A1C)::cells b #[at0 pb,.int .i64 (max 1 (min most 64)),.bool true,.slice fl.a fl.len fl.cap,.slice wt.a wt.len wt.cap]::A1w pb o.aU::U6 A0V 7 fl o.aG::U6 Z7 5 wt o.waiting::R)) ?_ ?_
  ·intro K2 bg
   rw[aV] at bg
   (try dsimp only);rw[U9]
   unfold A1C at bg
   by_cases hr:f.2.2=true
   ·rw[if_pos hr]
    rw[if_pos hr] at bg
    refine⟨f.1,by rw[U4];exact ai.cell 0,?_⟩
    have aw:=A3o (k:=.u8) (o:=j9 6 f.1 0) rfl rfl ai
    refine A5d (t:=(⟨none,0,0⟩,⟨none,0,0⟩,j9 6 f.1 0)) (aw.re [6,0,1,2,3,4,5]) rfl (by decide) (by omega) fun s' h6 aF=>?_
    exact bg _ _ aF.p1.drop
   ·rw[if_neg hr]
    rw[if_neg hr] at bg
    refine A0v (ts:=[.str,.str,.int .i64,.bool,.str]) (toU f.2.1) (fun j v hv=>?_) ?_
    ·rw[U4,Addr.bN,ai.cell]
     match j,hv with
     |0,hv=>exact hv
     |1,hv=>exact hv
     |2,hv=>exact hv
     |3,hv=>exact hv
     |4,hv=>exact hv
     |n+5,hv=>exact absurd hv (by show ¬(Z7 f.2.1)[n+5]? =some v;simp)
    refine⟨f.1,by rw[U4];exact ai.cell 0,?_⟩
    refine U7 (B77 (m:=f.2.1) (id:=f.1) (dup:=true) ai fun c p h6 aw=>⟨pkT (A0y f.2.1 f.1 true) c p,rfl,?_⟩)
    refine A5d (t:=(c,p,A0y f.2.1 f.1 true)) (aw.re [6,0,1,2,3,4,5]) rfl (by decide) (by omega) fun s' h7 aF=>?_
    exact bg _ _ aF.p1.drop
  rintro⟨out',⟨⟩⟩ h6 aw
  exact bu _ _ ⟨by rw[V8 (by omega) (by omega)];rfl,aw.re [1,2,3,4,0]⟩
end
end Go.Proofs.YtidlldnlphdhcaaGreatDoor
namespace Go.H
section
variable {α:Type} {enc:α→D0u} {size:Nat} {h:Heap} {s:Slc} {xs:List α} {R:List Asn}
def C9N(elem:TypeId)(size bytes:Nat)(zero:D0t)(p0:Slc)(p1:Int)(p2:Int):HM (Slc×Unit):=
 HM.bind (HM.slice p0 (some p1) (some p2) (some ((p0.len:Nat):Int)) size) fun x1=>
 A1v (p1==p2) (
 X2 (p0,())) (
 HM.bind (HM.slice p0 none (some p1) none size) fun x2=>
 HM.bind (HM.slice p0 (some p2) none none size) fun x3=>
 HM.bind (HM.append elem size bytes zero x2 x3.len (V9 size x3)) fun x4=>
 HM.bind (HM.slice x4 (some ((x4.len:Nat):Int)) (some ((p0.len:Nat):Int)) none size) fun x5=>
 HM.bind (B8G zero x5) fun _=>
 X2 (x4,()))
theorem B7I(ao:∀x,(enc x).length=size):∀(l:List α) (n:Nat),(l.flatMap enc).take (n*size)=(l.take n).flatMap enc∧(l.flatMap enc).drop (n*size)=(l.drop n).flatMap enc:=by
 intro l
 induction l with
 |nil=>intro n;simp
 |cons x l ih=>
  intro n
  cases n with
  |zero=>simp
  |succ n=>
   have hx:=ao x
   rw[D7,J2,List.take_succ_cons,List.drop_succ_cons,D7]
   refine⟨?_,?_⟩
   ·rw[List.take_append,hx,D4 (by omega),show n*size+size-size=n*size from by omega,(ih n).1]
   ·rw[List.drop_append,hx,L9 (by omega),show n*size+size-size=n*size from by omega,(ih n).2,F0]
theorem C2O(ao:∀x,(enc x).length=size)(dr:∀x,∀v∈enc x,v.oneCell'=true){elem:TypeId}{bytes:Nat}{zero:D0t}(hz:zero.size=size)(sU:zero.toList.all (fun v=>v.oneCell')=true)(hsz:0<size)
  {i:Nat}(hs:sat h (U6 enc size s xs::R))(hi:i<xs.length){Q:Slc×Unit→Heap→Prop}
  (hq:∀s' h',sat h' (U6 enc size s' (xs.eraseIdx i)::R)→Q (s',()) h'):C9N elem size bytes zero s (i:Int) ((i:Int)+1) h Q:=by
 have hl:=hs.aW
 have hc:=hs.eC
 have sU:∀v∈(Builtin.zeroCells zero 1).toList,v.oneCell'=true:=by
  intro v hv
  rw[Array.mem_toList_iff] at hv
  unfold Builtin.zeroCells at hv
  obtain⟨j,-,rfl⟩:=Array.mem_map.1 hv
  have hj:j % zero.size<zero.size:=Nat.mod_lt _ (by omega)
  rw[getElem!_pos zero _ hj]
  exact I8.1 sU _ (by rw[Array.mem_toList_iff];exact Array.getElem_mem hj)
 have sS:(Builtin.zeroCells zero 1).toList.length=size:=by simp[Builtin.zeroCells,hz]
 rcases A1K hs with⟨-,-,rfl,-⟩|⟨b,o,cs,ho,aa⟩
 ·simp at hi
 have vb:=ho.a
 have fx:=ho.dO
 unfold C9N
 refine⟨i,i+1,s.len,⟨rfl,hc⟩,⟨by omega,by omega⟩,⟨rfl,by omega⟩,?_⟩
 (try dsimp only);rw[U9,if_neg (by simp;omega)]
 refine⟨0,i,s.cap,rfl,⟨rfl,by omega⟩,rfl,?_⟩
 refine⟨i+1,s.len,s.cap,rfl,⟨rfl,rfl⟩,⟨by omega,by omega⟩,?_⟩
 have e2:l4 s 0 i s.cap size=⟨some ⟨b,o*size,none⟩,i,s.cap⟩:=by
  unfold l4
  rw[vb,if_neg (by omega)]
  simp[Addr.bN]
 have e3:(l4 s (i+1) s.len s.cap size).len=s.len-(i+1):=rfl
 have hmul:s.len*size=i*size+size+(s.len-(i+1))*size:=by
  rw[←J2,←J4];congr 1;omega
 have hle:(o+s.len)*size≤cs.size:=C7 (Q7 _ (by omega)) fx
 have vm:(o+s.len)*size=o*size+s.len*size:=J4 ..
 have cq:=z7 ao (xs.drop (i+1))
 rw[R2,←hl] at cq
 have gC:(xs.drop (i+1)).flatMap enc=(xs.flatMap enc).drop ((i+1)*size):=((B7I ao xs (i+1)).2).symm
 rw[e2]
 (try dsimp only);rw[U2,e3]
 refine⟨fun _=>?_,fun od=>absurd od (by simp only;omega)⟩
 refine⟨((xs.drop (i+1)).flatMap enc).toArray,?_,?_⟩
 ·unfold V9
  have ha:(l4 s (i+1) s.len s.cap size).a=some ⟨b,if s.cap=i+1 then o*size else o*size+(i+1)*size,none⟩:=by
   unfold l4
   simp only[vb]
   split<;>simp[Addr.bN]
  rw[ha,e3]
  refine⟨by simpa using cq,fun j v hv=>?_⟩
  have pY:((xs.drop (i+1)).flatMap enc)[j]? =some v:=by simpa using hv
  have hj:=(E0.1 pY).1
  rw[cq] at hj
  rw[if_neg (by intro e;rw[show s.len-(i+1)=0 by omega] at hj;omega)]
  rw[Addr.bN,aa.cell]
  rw[gC,←ho.front,N5,List.getElem?_take_of_lt (by rw[J2];omega),N5] at pY
  rw[show o*size+(i+1)*size+j=o*size+((i+1)*size+j) by omega]
  simpa using pY
 dsimp only
 rw[Addr.bN]
 have tW:o*size+i*size+((xs.drop (i+1)).flatMap enc).length≤cs.size:=by rw[cq];omega
 refine⟨by
  have:=A3A (o:=o*size+i*size) (vs:=(xs.drop (i+1)).flatMap enc) aa tW (fun v hv=>by
   obtain⟨x,_,hx⟩:=S7.1 hv
   exact dr x v hx)
  simpa using this,?_⟩
 obtain⟨lW,f1,f2,ae⟩:=sat.setCells ((xs.drop (i+1)).flatMap enc) cs (o*size+i*size) 0 aa (by omega)
 have e4:i+(s.len-(i+1))=s.len-1:=by omega
 rw[e4]
 refine⟨s.len-1,s.len,s.cap,rfl,⟨rfl,hc⟩,⟨rfl,by omega⟩,?_⟩
 have e5:l4 ⟨some ⟨b,o*size,none⟩,s.len-1,s.cap⟩ (s.len-1) s.len s.cap size=⟨some ⟨b,o*size+(s.len-1)*size,none⟩,1,s.cap-(s.len-1)⟩:=by
  unfold l4
  rw[if_neg (by omega)]
  simp only[R8,Addr.bN]
  congr 1
  omega
 rw[e5]
 (try dsimp only);rw[U2]
 unfold B8G
 dsimp only
 rw[if_neg (by decide)]
 have vy:s.len*size=(s.len-1)*size+size:=by
  rw[←J2];congr 1;omega
 have tV:o*size+(s.len-1)*size+(Builtin.zeroCells zero 1).toList.length≤lW.size:=by rw[sS,f1];omega
 refine⟨by
  have:=A3A (o:=o*size+(s.len-1)*size) (vs:=(Builtin.zeroCells zero 1).toList) ae tV sU
  simpa using this,?_⟩
 obtain⟨yt,g1,g2,aj⟩:=sat.setCells (Builtin.zeroCells zero 1).toList lW (o*size+(s.len-1)*size) 0 ae (by omega)
 refine hq _ _ (A1J (b:=b) (o:=o) (cs:=yt) ⟨rfl,by simp only;omega,?_,by rw[g1,f1];exact fx,?_⟩ aj)
 ·rw[List.length_eraseIdx_of_lt hi];simp only;omega
 rw[g2,O4,D6]
 have qW:lW.toList.length=cs.size:=by simp[f1]
 have bd:cs.toList.length=cs.size:=by simp
 have t1:((lW.toList.take (o*size+(s.len-1)*size)++((Builtin.zeroCells zero 1).toList++lW.toList.drop (o*size+(s.len-1)*size+(Builtin.zeroCells zero 1).toList.length))).drop (o*size)).take ((s.len-1)*size)
   =(lW.toList.drop (o*size)).take ((s.len-1)*size):=by
  rw[O9 (by rw[E6,qW];omega),P0 (by rw[R2,E6,qW];omega),List.drop_take,List.take_take]
  congr 1
  omega
 rw[t1,f2,O4,D6]
 rw[O9 (by rw[E6,bd];omega),List.drop_take,show o*size+i*size-o*size=i*size by omega]
 have t2:(cs.toList.drop (o*size)).take (i*size)=(xs.take i).flatMap enc:=by
  rw[←(B7I ao xs i).1,←ho.front,List.take_take]
  congr 1
  omega
 rw[t2,List.eraseIdx_eq_take_drop_succ,I6,←D6]
 rw[P0,D4]
 ·rw[B5,cq,z7 ao,E6,Nat.min_eq_left (by omega)];omega
 ·rw[B5,cq,z7 ao,E6,Nat.min_eq_left (by omega)];omega
end
end Go.H
namespace Go.Proofs.YtidlldnlphdhcaaGreatDoor
open Go.H
open Go.Proofs.Tryz
section
open Go.H Go.Proofs
variable {h:Heap} {R:List Asn}
theorem B2v(a:Addr)(m n:Nat):(a.add m).add n=a.add (m+n):=by
 unfold Addr.add
 by_cases hn:n=0
 ·subst hn;simp
 ·by_cases hm:m=0
  ·subst hm;simp
  ·rw[if_neg hn,if_neg hm,if_neg (by omega),Nat.add_assoc]
theorem B8v{xs:List FlT}(hn:(xs.map (·.1)).Nodup):∀{i:Nat} {f:FlT},xs[i]? =some f→xs.eraseIdx i=xs.filter fun g=>decide (g.1≠f.1):=by
 induction xs with
 |nil=>intro i f hf;simp at hf
 |cons x xs ih=>
  intro i f hf
  rw[B6,F4] at hn
  cases i with
  |zero=>
   rw[P1] at hf
   cases hf
   rw[List.eraseIdx_cons_zero,H8,if_neg (by simp)]
   refine(H4.2 fun g hg=>?_).symm
   simp only[decide_eq_true_eq]
   intro e
   exact hn.1 (e▸B3 hg)
  |succ i=>
   rw[P2] at hf
   have hx:x.1≠f.1:=fun e=>hn.1 (e▸B3 (F3 hf))
   rw[List.eraseIdx_cons_succ,H8,if_pos (by simpa using hx),ih hn.2 hf]
theorem C3e{xs:List FlT}(hn:(xs.map (·.1)).Nodup):∀{i:Nat} {f:FlT},xs[i]? =some f→xs.set i (f.1,f.2.1,true)=xs.map fun g=>if g.1=f.1 then(g.1,g.2.1,true) else g:=by
 induction xs with
 |nil=>intro i f hf;simp at hf
 |cons x xs ih=>
  intro i f hf
  rw[B6,F4] at hn
  cases i with
  |zero=>
   rw[P1] at hf
   cases hf
   rw[List.set_cons_zero,B6,if_pos rfl]
   congr 1
   conv=>lhs;rw[←T6 xs]
   refine I2 fun g hg=>?_
   rw[if_neg (fun e:g.1=x.1=>hn.1 (e▸B3 hg))]
   rfl
  |succ i=>
   rw[P2] at hf
   have hx:x.1≠f.1:=fun e=>hn.1 (e▸B3 (F3 hf))
   rw[List.set_cons_succ,B6,if_neg hx,ih hn.2 hf]
theorem C03{xs:List FlT}{id:Int}(hn:(xs.map (·.1)).Nodup){i:Nat}{f:FlT}(hf:xs[i]? =some f)(he:f.1=id):xs.find? (fun g=>decide (g.1=id))=some f:=by
 induction xs generalizing i with
 |nil=>simp at hf
 |cons x xs ih=>
  rw[B6,F4] at hn
  cases i with
  |zero=>
   rw[P1] at hf
   cases hf
   rw[R6 (by simpa using he)]
  |succ i=>
   rw[P2] at hf
   have hx:x.1≠id:=fun e=>hn.1 ((e.trans he.symm)▸B3 (F3 hf))
   rw[List.find?_cons_of_neg (by simpa using hx),ih hn.2 hf]
theorem B8u{xs:List FlT}{id:Int}(hn:∀f∈xs,f.1≠id):xs.find? (fun g=>decide (g.1=id))=none:=
 E8.2 fun f hf=>by simpa using hn f hf
theorem X0.nd{o:Z2}(h:X0 o):(o.aG.map (·.1)).Nodup:=by rw[h.ids];exact h.pk.nodup
theorem C6L{cb:Nat}{cs:D0t}{id:Int}{f:FlT}(hs:sat h (cells cb cs::R))(hc:cs[4]? =some (.int .i64 id)){Q:Value→Heap→Prop}(hq:∀h',sat h' (cells cb cs::R)→Q (.bool (f.1==id)) h'):
  V4 prog 162 #[.agg (A0V f).toArray,at0 cb] h Q:=by
 refine A4y (C3Z f) ⟨cb,0,none⟩ h Q ?_
 delta A3s ji ki nw pu
 refine V6 hs fun x1 h1 aa=>?_
 refine⟨f.1,by rw[U4];exact aa.cell 0,id,by rw[U4];exact(aa.p1.cell 4).trans hc,?_⟩
 exact hq h1 aa.drop
theorem C4F{cb:Nat}{cs:D0t}{id:Int}{s:Slc}{xs:List FlT}(hs:sat h (cells cb cs::U6 A0V 7 s xs::R))(hl:xs.length≤300)(hc:cs[4]? =some (.int .i64 id)){Q:Value→Heap→Prop}
  (ay:(∀f∈xs,f.1≠id)→∀h',sat h' (cells cb cs::U6 A0V 7 s xs::R)→Q (.int .i64 (-1)) h')
  (cO:∀(i:Nat) (f:FlT),xs[i]? =some f→f.1=id→∀h',sat h' (cells cb cs::U6 A0V 7 s xs::R)→Q (.int .i64 i) h'):
  V4 prog 161 #[.slice s.a s.len s.cap,.func (.func 162) #[] #[at0 cb]] h Q:=by
 refine A39 s _ h Q ?_
 delta A2U bn g5 ie ix pu wi
 (try dsimp only);rw[U2]
 have cH:s.len=xs.length:=hs.p1.aW
 refine B5X xs.length (fun i x h'=>x.1=(i:Int)∧(∀f∈xs.take i,f.1≠id)∧sat h' (cells cb cs::U6 A0V 7 s xs::R))
  ⟨rfl,by simp,hs⟩ (fun i x h hi hJ=>by rw[hJ.1,cH];exact G0.2 (by omega)) (fun x h hJ K hd=>?_) (fun i x h ah hJ K bu hd=>?_)
 ·obtain⟨hx,hn,aa⟩:=hJ
  rw[F5] at hn
  exact hd _ _ (ay hn _ aa)
 ·obtain⟨ci,⟨⟩⟩:=x
  obtain⟨hx,hn,aa⟩:=hJ
  simp only at hx
  subst hx
  have hy:=B0 ah
  have aV:xs.take (i+1)=xs.take i++[xs[i]]:=by rw[I0,hy];rfl
  generalize xs[i]=f at hy aV
  (try dsimp only);rw[U2]
  refine X9 (aa.p1.aO A2L) hy fun a ha=>?_
  refine A0v (ts:=[.int .i64,.str,.str,.int .i64,.bool,.str,.bool]) (C3Z f) ha ?_
  refine⟨_,_,_,rfl,call162,?_⟩
  refine C6L (f:=f) aa hc fun h2 ae=>⟨_,rfl,?_⟩
  (try dsimp only);rw[U9]
  by_cases e:f.1=id
  ·rw[if_pos (by simpa using e)]
   exact hd _ _ (cO i f hy e _ ae)
  ·rw[if_neg (by simpa using e)]
   refine bu _ _ ⟨by rw[V8 (by omega) (by omega)];rfl,fun g hg=>?_,ae⟩
   rw[aV] at hg
   rcases C9.1 hg with hg|hg
   ·exact hn g hg
   ·rw[B8.1 hg];exact e
theorem B9w{s:Slc}{xs:List FlT}{i:Nat}(hs:sat h (U6 A0V 7 s xs::R))(hi:i<xs.length){Q:Value→Heap→Prop}
  (hq:∀(s':Slc) h',sat h' (U6 A0V 7 s' (xs.eraseIdx i)::R)→Q (.slice s'.a s'.len s'.cap) h'):
  V4 prog 211 #[.slice s.a s.len s.cap,.int .i64 i,.int .i64 ((i:Int)+1)] h Q:=by
 refine A9H s i _ h Q ?_
 exact C2O (zero:=#[.int .i64 0,.string (ByteArray.mk #[]),.string (ByteArray.mk #[]),.int .i64 0,.bool false,.string (ByteArray.mk #[]),.bool false]) A2L B2j rfl rfl (by decide) hs hi fun s' h' af=>hq s' h' af
theorem C2c{b:Nat}{o:Z2}{i:Nat}{f:FlT}(hs:sat h (A0u b o::R))(ag:X0 o)(hf:o.aG[i]? =some f){Q:Value→Heap→Prop}
  (hq:∀h',sat h' (A0u b (A3q o f.1)::R)→Q (.tuple #[]) h'):V4 prog 163 #[at0 b,.int .i64 i] h Q:=by
 refine A6V (some ⟨b,0,none⟩) i h Q ?_
 obtain⟨pb,fl,wt,aa⟩:=A0t.1 hs
 delta A5O cb cc ix kc ki kp nn pu sx vi vs wi
 have cn:=(E0.1 hf).1
 have iu:=ag.f64
 refine⟨_,rfl,some ⟨pb,0,none⟩,by rw[U4];exact aa.cell 0,_,rfl,fl,by rw[U4];exact aa.cell 3,?_⟩
 (try dsimp only);rw[U2]
 refine X9 (aa.p2.aO A2L) hf fun a ha=>?_
 refine⟨f.1,ha 0 _ rfl,?_⟩
 refine U7 (B8I aa.p1 fun h2 ae=>⟨_,rfl,?_⟩)
 refine⟨_,rfl,fl,by rw[U4];exact ae.p1.cell 3,?_⟩
 have w:IntKind.wrap .i64 ((i:Int)+1)=(i:Int)+1:=V8 (by omega) (by omega)
 (try dsimp only);rw[w]
 refine U7 (B9w ae.p2 cn fun s' h3 aj=>⟨s',rfl,?_⟩)
 refine⟨_,rfl,?_⟩
 (try dsimp only);rw[U2,U4]
 refine W7 aj.p2 (by simp) rfl fun h4 ak=>?_
 refine hq h4 (A0t.2 ⟨pb,s',wt,?_⟩)
 rw[B8v ag.nd hf] at ak
 exact ak.re [0,2,1,3]
theorem C4s{b:Nat}{o:Z2}{p:Pk}(hs:sat h (A0u b o::R))(ag:X0 o){Q:Value→Heap→Prop}
  (hq:∀S h',sat h' (A0u b (A0R o p.1 p.2.2.2.2.1 p.2.2.2.2.2.2.2.1).1.1::q8 .u8 S (A0R o p.1 p.2.2.2.2.1 p.2.2.2.2.2.2.2.1).1.2::R)→Q (.tuple #[.slice S.a S.len S.cap,.int .u8 (A0R o p.1 p.2.2.2.2.1 p.2.2.2.2.2.2.2.1).2]) h'):
  V4 prog 108 #[at0 b,A2z .u8 p] h Q:=by
 refine A5w (some ⟨b,0,none⟩) p h Q ?_
 delta A4D az bn cc ci cx ie ix ji ju kb kc ki nn nw pu sx ve vi vs vz
 refine V6 hs fun cb h1 bz=>?_
 have aa:sat h1 (cells cb (W9 .u8 p).toArray::A0u b o::R):=bz
 clear bz hs
 have k0:∀{h':Heap} {R':List Asn},sat h' (cells cb (W9 .u8 p).toArray::R')→W3 h' ⟨cb,0,none⟩=some (.int .i64 p.1):=fun hs=>hs.cell 0
 have k4:∀{h':Heap} {R':List Asn},sat h' (cells cb (W9 .u8 p).toArray::R')→W3 h' ⟨cb,4,none⟩=some (.int .i64 p.2.2.2.2.1):=fun hs=>hs.cell 4
 have k7:∀{h':Heap} {R':List Asn},sat h' (cells cb (W9 .u8 p).toArray::R')→W3 h' ⟨cb,7,none⟩=some (.int .u8 p.2.2.2.2.2.2.2.1):=fun hs=>hs.cell 7
 have g4:(W9 .u8 p).toArray[4]? =some (.int .i64 p.2.2.2.2.1):=rfl
 generalize hk:p.1=k at*
 generalize hid:p.2.2.2.2.1=id at*
 generalize oT:p.2.2.2.2.2.2.2.1=c at*
 generalize(W9 .u8 p).toArray=cs at*
 have stay:∀{cc:Int} {h':Heap},sat h' (cells cb cs::A0u b o::R)→A0R o k id c=((o,[]),cc)→Q (.tuple #[.slice none 0 0,.int .u8 cc]) h':=fun{cc h'} hs he=>by
  have:=hq ⟨none,0,0⟩ h'
  rw[he] at this
  exact this ((A1W hs.drop).p1)
 (try dsimp only);rw[U9,if_neg (by simp)]
 refine cut (fun x h'=>h'=h1∧x.1=decide (o.on=false∨(k≠4∧k≠5∧k≠7))) ?_ ?_
 ·intro K hK
  obtain⟨pb,fl,wt,ae⟩:=A0t.1 aa.p1
  refine⟨_,rfl,o.on,by rw[U4];exact ae.cell 2,?_⟩
  (try dsimp only);rw[U9]
  cases aP:o.on with
  |false=>rw[if_pos (by rfl)];exact hK _ _ ⟨rfl,by simp[aP]⟩
  |true=>
   rw[if_neg (by simp)]
   refine⟨k,by rw[U4];exact k0 aa,?_⟩
   (try dsimp only);rw[U9]
   by_cases h4:k=4
   ·rw[if_neg (by simp[h4])];exact hK _ _ ⟨rfl,by simp[h4,aP]⟩
   ·rw[if_pos (by simp[h4])]
    refine⟨k,by rw[U4];exact k0 aa,?_⟩
    (try dsimp only);rw[U9]
    by_cases h5:k=5
    ·rw[if_neg (by simp[h5])];exact hK _ _ ⟨rfl,by simp[h5,aP]⟩
    ·rw[if_pos (by simp[h5])]
     refine⟨k,by rw[U4];exact k0 aa,hK _ _ ⟨rfl,?_⟩⟩
     by_cases h7:k=7<;>simp[h4,h5,h7,aP]
 rintro⟨x,⟨⟩⟩ h2 ⟨rfl,hx⟩
 simp only at hx
 subst hx
 (try dsimp only);rw[U9]
 by_cases an:o.on=false∨(k≠4∧k≠5∧k≠7)
 ·rw[if_pos (by simpa using an)]
  exact stay aa (by unfold A0R;rw[if_pos an])
 rw[if_neg (by simpa using an)]
 obtain⟨pb,fl,wt,ae⟩:=A0t.1 aa.p1
 refine⟨_,rfl,fl,by rw[U4];exact ae.cell 3,?_⟩
 have iu:=ag.f64
 refine U7 (C4F (ae.re [4,2,0,1,3]) (by omega) g4 (fun ay h3 aj=>⟨_,rfl,?_⟩) (fun i f hf he h3 bt=>⟨_,rfl,?_⟩))
 ·(try dsimp only);rw[U9,if_pos (by decide)]
  refine stay (sat.p1 (A0t.2 ⟨pb,fl,wt,aj.re [2,3,1,4,0]⟩)) ?_
  unfold A0R
  rw[if_neg an,B8u ay]
 have aj:sat h3 (cells b #[at0 pb,.int .i64 o.most,.bool o.on,.slice fl.a fl.len fl.cap,.slice wt.a wt.len wt.cap]::cells cb cs::A1w pb o.aU::U6 A0V 7 fl o.aG::U6 Z7 5 wt o.waiting::R):=bt.re [2,0,3,1,4]
 clear bt
 have bZ:sat h3 (cells cb cs::A0u b o::R):=sat.p1 (A0t.2 ⟨pb,fl,wt,aj.re [0,2,3,4,1]⟩)
 have gO:=C03 ag.nd hf he
 have lb:=F3 hf
 have aJ:A0R o k id c=(if k=4 then(if f.2.1.2.2.1≠1 then((o,[]),130) else(Y7 (A3q o id),0))
   else if k=5 then
    (if f.2.1.2.2.1≠2∨(128≤c∧f.2.2=true) then((o,[]),130)
    else if 128≤c then(Y7 (A3q o id),0)
    else(((Y7 (B2K o id)).1,j9 6 id 0::(Y7 (B2K o id)).2),0))
   else(if f.2.2=false then((o,[]),130) else(Y7 (A3q o id),0))):=by
  unfold A0R
  rw[if_neg an,gO]
 (try dsimp only);rw[U9,if_neg (by simp)]
 refine⟨_,rfl,fl,by rw[U4];exact aj.cell 3,?_⟩
 (try dsimp only);rw[U2]
 refine B9r A2L aj.p3 hf fun a ha bL=>?_
 have aq:W3 h3 ((a.add 1).add 2)=some (.int .i64 f.2.1.2.2.1):=by rw[B2v];exact ha 3 _ rfl
 have ar:W3 h3 (a.add 6)=some (.bool f.2.2):=ha 6 _ rfl
 refine⟨k,by rw[U4];exact k0 aj.p1,?_⟩
 refine cut (fun z h'=>match z with
  |.inl x=>∃(o':Z2) (os:List PkO),X0 o'∧os.length≤10∧A0R o k id c=(((Y7 o').1,os++(Y7 o').2),0)∧sat h' (A0u b o'::q8 .u8 x.1 os::R)
  |.inr y=>y.1=⟨none,0,0⟩∧A0R o k id c=((o,[]),y.2.1)∧sat h' (cells cb cs::A0u b o::R)) ?_ ?_
 ·intro K hK
  have bad:A0R o k id c=((o,[]),130)→K (.inr (⟨none,0,0⟩,130,())) h3:=fun e=>hK _ _ ⟨rfl,e,bZ⟩
  have bQ:∀{K2:r9 []→Heap→Prop},(∀h',sat h' (A0u b (A3q o id)::q8 .u8 ⟨none,0,0⟩ []::R)→K2 () h')→V4 prog 163 #[.pointer (some ⟨b,0,none⟩),.int .i64 i] h3 (r9.un [] K2):=fun bg=>
   C2c bZ.p1 ag hf fun h' af=>⟨(),rfl,bg h' (by rw[he] at af;exact(A1W af.p1.drop).p1)⟩
  have tF:=ag.over id
  (try dsimp only);rw[U9]
  by_cases h4:k=4
  ·rw[if_pos (by simp[h4])]
   rw[if_pos h4] at aJ
   refine⟨_,rfl,f.2.1.2.2.1,aq,?_⟩
   (try dsimp only);rw[U9]
   by_cases jg:f.2.1.2.2.1=1
   ·rw[if_neg (by simp[jg])]
    rw[if_neg (by simp[jg])] at aJ
    refine u0 (bQ fun h' af=>?_)
    exact hK _ _ ⟨A3q o id,[],tF,by simp,aJ,af⟩
   ·rw[if_pos (by simp[jg])]
    rw[if_pos jg] at aJ
    exact bad aJ
  rw[if_neg (by simp[h4])]
  rw[if_neg h4] at aJ
  refine cut (fun z h'=>match z with
   |.inl x=>∃(o':Z2) (os:List PkO),X0 o'∧os.length≤10∧A0R o k id c=(((Y7 o').1,os++(Y7 o').2),0)∧sat h' (A0u b o'::q8 .u8 x.1 os::R)
   |.inr (.inl x)=>False
   |.inr (.inr y)=>y.1=⟨none,0,0⟩∧A0R o k id c=((o,[]),y.2.1)∧sat h' (cells cb cs::A0u b o::R)) ?_ ?_
  ·intro K2 bg
   have bad:A0R o k id c=((o,[]),130)→K2 (.inr (.inr (⟨none,0,0⟩,130,()))) h3:=fun e=>bg _ _ ⟨rfl,e,bZ⟩
   (try dsimp only);rw[U9]
   by_cases h5:k=5
   ·rw[if_pos (by simp[h5])]
    rw[if_pos h5] at aJ
    refine⟨_,rfl,f.2.1.2.2.1,aq,?_⟩
    refine cut (fun z h'=>h'=h3∧z.1=decide (f.2.1.2.2.1≠2∨(128≤c∧f.2.2=true))) ?_ ?_
    ·intro K3 lS
     (try dsimp only);rw[U9]
     by_cases fe:f.2.1.2.2.1=2
     ·rw[if_neg (by simp[fe])]
      refine cut (fun z h'=>h'=h3∧z.1=decide (128≤c∧f.2.2=true)) ?_ ?_
      ·intro K4 gS
       refine⟨c,by rw[U4];exact k7 aj.p1,?_⟩
       (try dsimp only);rw[U9]
       by_cases fy:128≤c
       ·rw[if_pos (by simpa using fy)]
        refine⟨_,rfl,f.2.2,ar,gS _ _ ⟨rfl,?_⟩⟩
        simp[fy]
       ·rw[if_neg (by simpa using fy)]
        exact gS _ _ ⟨rfl,by simp[fy]⟩
      rintro⟨z,⟨⟩⟩ h4 ⟨rfl,hz⟩
      simp only at hz
      refine lS _ _ ⟨rfl,?_⟩
      simp only[hz]
      simp[fe]
     ·rw[if_pos (by simp[fe])]
      exact lS _ _ ⟨rfl,by simp[fe]⟩
    rintro⟨z,⟨⟩⟩ h4 ⟨rfl,hz⟩
    simp only at hz
    subst hz
    (try dsimp only);rw[U9]
    by_cases dx:f.2.1.2.2.1≠2∨(128≤c∧f.2.2=true)
    ·rw[if_pos (decide_eq_true dx)]
     rw[if_pos dx] at aJ
     exact bad aJ
    rw[if_neg (by rw[decide_eq_true_eq];exact dx)]
    rw[if_neg dx] at aJ
    refine⟨c,by rw[U4];exact k7 aj.p1,?_⟩
    refine cut (fun z h'=>∃(o':Z2) (os:List PkO),X0 o'∧os.length≤10∧A0R o k id c=(((Y7 o').1,os++(Y7 o').2),0)∧sat h' (A0u b o'::q8 .u8 z.1 os::R)) ?_ ?_
    ·intro K3 lS
     (try dsimp only);rw[U9]
     by_cases fy:128≤c
     ·rw[if_pos (by simpa using fy)]
      rw[if_pos fy] at aJ
      refine u0 (bQ fun h' af=>?_)
      exact lS _ _ ⟨A3q o id,[],tF,by simp,aJ,af⟩
     ·rw[if_neg (by simpa using fy)]
      rw[if_neg fy] at aJ
      refine⟨_,rfl,?_⟩
      (try dsimp only);rw[U2]
      refine bL 6 (.bool true) (f.1,f.2.1,true) _ (by decide) rfl rfl fun h5 ai=>?_
      rw[C3e ag.nd hf,he] at ai
      have aw:sat h5 (cells cb cs::A0u b (B2K o id)::R):=sat.p1 (A0t.2 ⟨pb,fl,wt,ai.re [1,3,0,4,2]⟩)
      refine⟨id,by rw[U4];exact k4 aw,?_⟩
      have aF:=A1W (k:=.u8) (A3o (k:=.u8) (o:=j9 6 id 0) rfl rfl aw)
      refine A5d (t:=(⟨none,0,0⟩,⟨none,0,0⟩,j9 6 id 0)) aF rfl (by decide) (by decide) fun s' h6 bq=>?_
      have fe:f.2.1.2.2.1=2:=Classical.not_not.1 fun e=>dx (.inl e)
      have hrel:X0 (B2K o id):=ag.rel fun g hg e=>by rw[ag.one hg lb (e.trans he.symm)];exact fe
      exact lS _ _ ⟨B2K o id,[j9 6 id 0],hrel,by simp,aJ,bq.p1.drop.re [1,0]⟩
    rintro⟨z,⟨⟩⟩ h4 ⟨o',os,g1,g2,g3,g4⟩
    exact bg _ _ ⟨o',os,g1,g2,g3,g4⟩
   ·rw[if_neg (by simp[h5])]
    rw[if_neg h5] at aJ
    refine⟨_,rfl,f.2.2,ar,?_⟩
    (try dsimp only);rw[U9]
    cases hr:f.2.2 with
    |false=>
     rw[if_pos (by rfl)]
     rw[if_pos hr] at aJ
     exact bad aJ
    |true=>
     rw[if_neg (by simp)]
     rw[if_neg (by simp[hr])] at aJ
     refine u0 (bQ fun h' af=>?_)
     exact bg _ _ ⟨A3q o id,[],tF,by simp,aJ,af⟩
  rintro z h4 hz
  match z,hz with
  |.inl (x,()),hz=>exact hK _ _ hz
  |.inr (.inr (y1,y2,())),hz=>exact hK _ _ hz
 rintro z h4 hz
 match z,hz with
 |.inl (x,()),⟨o',os,g1,g2,g3,g4⟩=>
  refine U7 (B3i g4 g1 (by omega) fun h7 S aw=>⟨S,rfl,?_⟩)
  have:=hq S h7
  rw[g3] at this
  exact this aw
 |.inr (y1,y2,()),⟨g1,g2,g3⟩=>
  simp only at g1 g2
  subst g1
  exact stay g3 g2
end
section
open Go.H Go.Proofs
variable {h h0:Heap} {L L' L1 L2 L3 R:List Asn} {Q:Value→Heap→Prop}
theorem B4V{b:Nat}{o:Z2}{m:MsT}(ag:X0 o)(hq:∀S:Slc,At (A0u b (Y0 o m).1.1::q8 .u8 S (Y0 o m).1.2::L1) (Q (.tuple #[.slice S.a S.len S.cap,.int .u8 (Y0 o m).2])))(hx:Has L (A0u b o) L1:=by repeat first|with_reducible exact V1|apply V3):
  FW prog 81 #[at0 b,vMs m] L Q:=fun h hs=>C2b (hx.s hs) ag fun S h' af=>hq S h' af
theorem C5V{b:Nat}{o:Z2}{most:Int}(ag:X0 o)(hq:∀S:Slc,At (A0u b (A0s o most).1::q8 .u8 S (A0s o most).2::L1) (Q (.slice S.a S.len S.cap)))(hx:Has L (A0u b o) L1:=by repeat first|with_reducible exact V1|apply V3):
  FW prog 73 #[at0 b,.int .i64 most] L Q:=fun h hs=>C0x (hx.s hs) ag fun S h' af=>hq S h' af
theorem C8y{b:Nat}{o:Z2}{p:Pk}(ag:X0 o)(hq:∀S:Slc,At (A0u b (A0R o p.1 p.2.2.2.2.1 p.2.2.2.2.2.2.2.1).1.1::q8 .u8 S (A0R o p.1 p.2.2.2.2.1 p.2.2.2.2.2.2.2.1).1.2::L1) (Q (.tuple #[.slice S.a S.len S.cap,.int .u8 (A0R o p.1 p.2.2.2.2.1 p.2.2.2.2.2.2.2.1).2])))
  (hx:Has L (A0u b o) L1:=by repeat first|with_reducible exact V1|apply V3):FW prog 108 #[at0 b,A2z .u8 p] L Q:=fun h hs=>C4s (hx.s hs) ag fun S h' af=>hq S h' af
theorem C6e{f:Nat}{s:u6}{p:Pk}{why:Int}(hq:∀S:Slc,At (A0q f ⟨s.most,s.taken,(l9 s p.1 p.2.2.2.1 p.2.2.2.2.1 why).2.2.2⟩::q8 .u8 S (A3E (l9 s p.1 p.2.2.2.1 p.2.2.2.2.1 why).2.1 p.2.2.2.2.1)::L1)
   (Q (.tuple #[.bool (l9 s p.1 p.2.2.2.1 p.2.2.2.2.1 why).1,.slice S.a S.len S.cap,.int .u8 (l9 s p.1 p.2.2.2.1 p.2.2.2.2.1 why).2.2.1])))(hx:Has L (A0q f s) L1:=by repeat first|with_reducible exact V1|apply V3):
  FW prog 107 #[at0 f,A2z .u8 p,.int .u8 why] L Q:=fun h hs=>by
 refine B9q (hx.s hs) (fun hn h' af=>?_) (fun k c hy b h' af=>?_)
 ·have:=hq ⟨none,0,0⟩
  rw[hn] at this
  exact this h' (A1W af).p1
 ·have:=hq ⟨some ⟨b,0,none⟩,1,1⟩
  rw[hy] at this
  refine this h' ?_
  have h1:sat h' (U6 (W9 .u8) 26 ⟨some ⟨b,0,none⟩,1,1⟩ [pkF (⟨none,0,0⟩,⟨none,0,0⟩,j9 k p.2.2.2.2.1 c)]::A0q f ⟨s.most,s.taken,(l9 s p.1 p.2.2.2.1 p.2.2.2.2.1 why).2.2.2⟩::L1):=
   A1J (o:=0) ⟨rfl,D8 _,rfl,by simp,by rfl⟩ af
  have h2:sat h' (q8 .u8 ⟨some ⟨b,0,none⟩,1,1⟩ [j9 k p.2.2.2.2.1 c]::A0q f ⟨s.most,s.taken,(l9 s p.1 p.2.2.2.1 p.2.2.2.2.1 why).2.2.2⟩::L1):=
   A7t.2 ⟨[(⟨none,0,0⟩,⟨none,0,0⟩,j9 k p.2.2.2.2.1 c)],rfl,(A30.2 (A3o (o:=j9 k p.2.2.2.2.1 c) rfl rfl h1)).p1⟩
  exact h2.p1
theorem C3a{b:Nat}{last:Int}{A:List V7}(hs:sat h (A1q b last A::R)):(A.map (·.id)).Nodup:=by
 obtain⟨X,rfl,h1⟩:=A0e.1 hs
 obtain⟨m,h2⟩:=s6.1 h1
 have:=h2.p1.bJ
 rw[F1] at this
 rw[F1]
 exact this
def B0q(b:Nat)(last:Int)(A:List V7)(s:V7)(ob ib:Nat):Asn:=exA fun x:List (Nat×V7)×List (Nat×V7)×Nat×Nat=>A0Y [pr ((x.1++(x.2.2.1,s)::x.2.1).map (·.2)=A),
 cells x.2.2.1 (B8U s ob ib),cells b #[.int .i64 last,.map (some x.2.2.2)],mapA eKI eVP x.2.2.2 ((x.1++(x.2.2.1,s)::x.2.1).map p9),a7 (fun p=>A3N p.1 p.2) (x.1++x.2.1)]
theorem B1a{b:Nat}{last:Int}{A:List V7}{s:V7}{ob ib:Nat}:sat h (B0q b last A s ob ib::R)↔∃(l1 l2:List (Nat×V7)) (nb m:Nat),(l1++(nb,s)::l2).map (·.2)=A∧
  sat h (cells nb (B8U s ob ib)::cells b #[.int .i64 last,.map (some m)]::mapA eKI eVP m ((l1++(nb,s)::l2).map p9)::a7 (fun p=>A3N p.1 p.2) (l1++l2)::R):=by
 unfold B0q
 rw[sat.bA]
 simp only[sat.bV,G3,F0,sat.bB]
 exact⟨fun⟨x,hh⟩=>⟨x.1,x.2.1,x.2.2.1,x.2.2.2,hh⟩,fun⟨a,b,c,d,hh⟩=>⟨(a,b,c,d),hh⟩⟩
theorem A6D{b:Nat}{last:Int}{A:List V7}{s:V7}(hm:s∈A):∀h R,sat h (A1q b last A::R)→∃ob ib:Nat,sat h (A0u ob s.out::A0q ib s.aZ::B0q b last A s ob ib::R):=by
 intro h R hs
 obtain⟨X,rfl,h1⟩:=A0e.1 hs
 obtain⟨⟨nb,s'⟩,hp,rfl⟩:=E4.1 hm
 obtain⟨l1,l2,rfl⟩:=H0 hp
 obtain⟨m,ob,ib,h2⟩:=B91 h1
 refine⟨ob,ib,?_⟩
 have h3:sat h (B0q b last ((l1++(nb,s')::l2).map (·.2)) s' ob ib::A0u ob s'.out::A0q ib s'.aZ::R):=B1a.2 ⟨l1,l2,nb,m,rfl,h2.re [2,3,4,5,0,1]⟩
 exact h3.re [1,2,0]
theorem A8K{l1 l2:List V7}{s:V7}{f:V7→V7}(hn:((l1++s::l2).map (·.id)).Nodup):X7 s.id f (l1++s::l2)=l1++f s::l2:=by
 unfold X7
 rw[C0,B6,G1] at hn
 have e1:l1.map (fun x=>if x.id=s.id then f x else x)=l1:=by
  have:l1.map (fun x=>if x.id=s.id then f x else x)=l1.map id:=I2 fun x hx=>if_neg (hn.2.2 _ (B3 hx) _ (B4 ..))
  rw[this,T6]
 have e2:l2.map (fun x=>if x.id=s.id then f x else x)=l2:=by
  have:l2.map (fun x=>if x.id=s.id then f x else x)=l2.map id:=I2 fun x hx=>by
   rw[if_neg (fun e:x.id=s.id=>(F4.1 hn.2.1).1 (e▸B3 (f:=(·.id)) hx))];rfl
  rw[this,T6]
 rw[C0,B6,e1,e2,if_pos rfl]
theorem B48{b ob ib:Nat}{last:Int}{A:List V7}{s:V7}{o:Z2}{i:u6}:∀h,sat h (A0u ob o::A0q ib i::B0q b last A s ob ib::R)→sat h (A1q b last (X7 s.id (fun x=>{x with out:=o,aZ:=i}) A)::R):=by
 intro h hs
 obtain⟨l1,l2,nb,m,rfl,h1⟩:=B1a.1 (hs.re [2,0,1])
 have au:(((l1++(nb,s)::l2).map (·.2)).map (·.id)).Nodup:=by
  have:=(h1.re [2,0,1]).bJ
  rw[F1] at this
  rw[F1]
  exact this
 rw[C0,B6] at au
 rw[C0,B6]
 have e0:=A8K (f:=fun x=>{x with out:=o,aZ:=i}) au
 rw[e0]
 refine A0e.2 ⟨l1++(nb,{s with out:=o,aZ:=i})::l2,by simp,s6.2 ⟨m,?_⟩⟩
 have e:(l1++(nb,{s with out:=o,aZ:=i})::l2).map p9=(l1++(nb,s)::l2).map p9:=by simp[p9]
 rw[e]
 have h2:sat h (A3N nb {s with out:=o,aZ:=i}::a7 (fun p=>A3N p.1 p.2) (l1++l2)::cells b #[.int .i64 last,.map (some m)]::mapA eKI eVP m ((l1++(nb,s)::l2).map p9)::R):=
  A1O.2 ⟨ob,ib,h1.re [0,4,5,3,1,2]⟩
 have h3:sat h (a7 (fun p=>A3N p.1 p.2) (l1++(nb,{s with out:=o,aZ:=i})::l2)::cells b #[.int .i64 last,.map (some m)]::mapA eKI eVP m ((l1++(nb,s)::l2).map p9)::R):=l0.2 h2
 exact h3.re [1,2,0]
theorem C9Y{b ob ib:Nat}{last:Int}{A:List V7}{s:V7}(hq:At (A0u ob s.out::A0q ib s.aZ::B0q b last A s ob ib::L3) (Q (at0 ob)))(hx:Has L (A0u ob s.out) L1:=by repeat first|with_reducible exact V1|apply V3)(hy:Has L1 (A0q ib s.aZ) L2:=by repeat first|with_reducible exact V1|apply V3)(hz:Has L2 (B0q b last A s ob ib) L3:=by repeat first|with_reducible exact V1|apply V3):
  FW prog 56 #[at0 b,.int .i64 s.id] L Q:=fun h hs=>by
 have h1:=(hx.cU hy hz).s hs
 have h2:=hq h h1
 obtain⟨l1,l2,nb,m,rfl,h3⟩:=B1a.1 (h1.re [2,0,1])
 exact C6Y (p:=(nb,s)) (o:=s.out) rfl (h3.re [4,5,0,1,2,3]) h2
theorem D0o{b ob ib:Nat}{last:Int}{A:List V7}{s:V7}(hq:At (A0u ob s.out::A0q ib s.aZ::B0q b last A s ob ib::L3) (Q (at0 ib)))(hx:Has L (A0u ob s.out) L1:=by repeat first|with_reducible exact V1|apply V3)(hy:Has L1 (A0q ib s.aZ) L2:=by repeat first|with_reducible exact V1|apply V3)(hz:Has L2 (B0q b last A s ob ib) L3:=by repeat first|with_reducible exact V1|apply V3):
  FW prog 106 #[at0 b,.int .i64 s.id] L Q:=fun h hs=>by
 have h1:=(hx.cU hy hz).s hs
 have h2:=hq h h1
 obtain⟨l1,l2,nb,m,rfl,h3⟩:=B1a.1 (h1.re [2,0,1])
 exact C7V (p:=(nb,s)) (o:=s.out) rfl (h3.re [4,5,0,1,2,3]) h2
theorem C4I{k:Int}{A:List V7}{s:V7}(h:A4N k A=some s):s∈A∧s.id=k:=⟨H2 h,by simpa using M0 h⟩
theorem C4J{k:Int}{A:List V7}(h:A4N k A=none):∀s∈A,s.id≠k:=fun s hs=>by simpa using E8.1 h s hs
theorem C4H{k:Int}{A:List V7}{s t:V7}(hn:(A.map (·.id)).Nodup)(h:A4N k A=some s)(ht:t∈A)(hk:t.id=k):t=s:=by
 obtain⟨h1,h2⟩:=C4I h
 obtain⟨l1,l2,rfl⟩:=H0 h1
 rw[C0,B6,G1] at hn
 rcases C9.1 ht with hm|hm
 ·exact absurd (hk.trans h2.symm) (hn.2.2 _ (B3 hm) _ (B4 ..))
 ·rcases D2.1 hm with rfl|hm
  ·rfl
  ·exact absurd (B3 (f:=(·.id)) hm) (by rw[hk,←h2];exact(F4.1 hn.2.1).1)
theorem B6h{l1 l2:List V7}{s:V7}(hn:((l1++s::l2).map (·.id)).Nodup):(l1++s::l2).filter (fun x=>decide (x.id≠s.id))=l1++l2:=by
 rw[C0,B6,G1] at hn
 rw[F2,F9 (by simp)]
 have e1:l1.filter (fun x=>decide (x.id≠s.id))=l1:=H4.2 fun x hx=>by
  have:=hn.2.2 _ (B3 (f:=(·.id)) hx) _ (B4 ..)
  simpa using this
 have e2:l2.filter (fun x=>decide (x.id≠s.id))=l2:=H4.2 fun x hx=>by
  have:x.id≠s.id:=fun e=>(F4.1 hn.2.1).1 (e▸B3 (f:=(·.id)) hx)
  simpa using this
 rw[e1,e2]
theorem C8o{b:Nat}{last:Int}{A:List V7}{k:Int}(hq:At (A1q b last (A4O k A).2::L1) (Q (.bool (A4O k A).1)))(hx:Has L (A1q b last A) L1:=by repeat first|with_reducible exact V1|apply V3):FW prog 95 #[at0 b,.int .i64 k] L Q:=fun h hs=>by
 have h1:=hx.s hs
 have au:=C3a h1
 obtain⟨X,rfl,h2⟩:=A0e.1 h1
 unfold A4O at hq
 have none_of:(∀p∈X,p.2.id≠k)→A4N k (X.map (·.2))=none:=fun ay=>E8.2 fun s hs=>by
  obtain⟨p,hp,rfl⟩:=E4.1 hs
  simpa using ay p hp
 have some_of:∀p∈X,p.2.id=k→A4N k (X.map (·.2))=some p.2:=fun p hp hk=>by
  cases hg:A4N k (X.map (·.2)) with
  |none=>exact absurd hk (C4J hg p.2 (B3 hp))
  |some s=>rw[C4H au hg (B3 hp) hk]
 refine C62 h2 (fun ay=>?_) (fun p hp hk dH=>?_) (fun l1 p l2 he hk aP eA h' af=>?_) (fun l1 p l2 he hk aP eA h' af=>?_)
 ·rw[none_of ay] at hq
  exact hq h h1
 ·rw[some_of p hp hk] at hq
  simp only[dH,if_true] at hq
  exact hq h h1
 ·subst he
  rw[some_of p (by simp) hk] at hq
  simp only[aP,eA,if_true,if_neg (show ¬(true=false) by decide)] at hq
  refine hq h' (A0e.2 ⟨_,?_,af⟩)
  subst hk
  rw[C0,B6,C0,B6]
  rw[C0,B6] at au
  rw[A8K au]
  rfl
 ·subst he
  rw[some_of p (by simp) hk] at hq
  simp only[aP,eA,if_neg (show ¬(true=false) by decide),if_neg (show ¬(false=true) by decide)] at hq
  refine hq h' (A0e.2 ⟨_,?_,af⟩)
  subst hk
  rw[C0,C0,B6]
  rw[C0,B6] at au
  rw[B6h au]
end
section
open Go.Proofs Go.Shelf
def A7F:Go.Shelf.Ren:=⟨fun n=>match n with|7=>85|10=>132|n=>n,fun n=>match n with|23=>211|26=>9|3=>4|28=>216|0=>0|27=>215|33=>107|4=>4|n=>n,fun n=>n⟩
theorem C59:SlLaysZ.n7 prog A7F where
 mixed:=by kernel_rfl
 f7:=⟨f85.name,by kernel_rfl,func85.trans (congrArg some (by kernel_rfl))⟩
 f10:=⟨f132.name,by kernel_rfl,func132.trans (congrArg some (by kernel_rfl))⟩
 t0:=underlying0
 a0:=isAgg0
 z0:=sizeOf0
 v0:=zeroValue0
 t4:=underlying4
 a4:=isAgg4
 z4:=sizeOf4
 v4:=zeroValue4
 t23:=underlying211
 a23:=isAgg211
 z23:=sizeOf211
 v23:=zeroValue211
 t26:=underlying9
 a26:=isAgg9
 z26:=sizeOf9
 v26:=zeroValue9
 t27:=underlying215
 a27:=isAgg215
 z27:=sizeOf215
 v27:=zeroValue215
 t28:=underlying216
 a28:=isAgg216
 z28:=sizeOf216
 v28:=zeroValue216
 t33:=underlying107
 a33:=isAgg107
 z33:=sizeOf107
 v33:=zeroValue107
open Go.H Go.Proofs
variable {h h0:Heap} {R:List Asn}
def B4E(f:B38):List B38→List B38
 |[]=>[f]
 |x::l=>if x=f then x::l else if ltS f x then f::x::l else x::B4E f l
theorem B56(f x:B38):∀l:List B38,x∈B4E f l↔x=f∨x∈l
 |[]=>by simp[B4E]
 |y::l=>by
  unfold B4E
  by_cases h1:y=f
  ·rw[if_pos h1]
   subst h1
   simp
  ·rw[if_neg h1]
   by_cases h2:ltS f y
   ·rw[if_pos h2];simp
   ·rw[if_neg h2,D2,B56 f x l,D2]
    constructor
    ·rintro(h|h|h)<;>simp[h]
    ·rintro(h|h|h)<;>simp[h]
theorem C0Q(f:B38):∀l:List B38,(B4E f l).length≤l.length+1
 |[]=>by simp[B4E]
 |y::l=>by
  unfold B4E
  split
  ·simp
  ·split
   ·simp
   ·have:=C0Q f l
    simp only[B7];omega
theorem C0R(f:B38):∀{l:List B38},l.Pairwise ltS→(B4E f l).Pairwise ltS
 |[],_=>by simp[B4E]
 |y::l,h=>by
  obtain⟨h1,h2⟩:=H5.1 h
  unfold B4E
  by_cases e1:y=f
  ·rw[if_pos e1];exact h
  ·rw[if_neg e1]
   by_cases e2:ltS f y
   ·rw[if_pos e2]
    refine H5.2 ⟨fun z hz=>?_,h⟩
    rcases D2.1 hz with rfl|hz
    ·exact e2
    ·exact B7q.trans e2 (h1 z hz)
   ·rw[if_neg e2]
    refine H5.2 ⟨fun z hz=>?_,C0R f h2⟩
    rcases(B56 f z l).1 hz with rfl|hz
    ·rcases B7q.fQ y z with e|e|e
     ·exact absurd e e1
     ·exact e
     ·exact absurd e e2
    ·exact h1 z hz
def A3b(L:List Ent):List B38:=L.foldl (fun out e=>B4E e.2.1 out) []
theorem C2x(L:List Ent)(e:Ent):A3b (L++[e])=B4E e.2.1 (A3b L):=by unfold A3b;rw[List.foldl_append];rfl
theorem A7R:∀(n:Nat) (L:List Ent),L.length=n→(A3b L).Pairwise ltS∧(A3b L).length≤L.length∧∀f,f∈A3b L↔f∈L.map (·.2.1)
 |0,L,h=>by
  have:L=[]:=List.eq_nil_of_length_eq_zero h
  subst this
  simp[A3b]
 |n+1,L,h=>by
  have bF:L≠[]:=by intro e;subst e;simp at h
  obtain⟨h1,h2,h3⟩:=A7R n L.dropLast (by simp;omega)
  have e:=List.dropLast_concat_getLast bF
  rw[←e,C2x]
  refine⟨C0R _ h1,?_,fun f=>?_⟩
  ·have:=C0Q (L.getLast bF).2.1 (A3b L.dropLast)
   simp only[B5,B7,G7]
   omega
  ·rw[B56,h3,C0,C9]
   simp only[B6,I3,B8]
   exact Or.comm
theorem B7r{K V:Type}[DecidableEq K](l:List (K×V))(k a:K)(v:V):a∈(mset l k v).map (·.1)↔a=k∨a∈l.map (·.1):=by
 cases hk:W4 l k with
 |none=>
  rw[A2o l k v hk,C0,C9]
  simp only[B6,I3,B8]
  exact Or.comm
 |some w=>
  rw[A4Y hk]
  constructor
  ·exact .inr
  ·rintro(rfl|h)
   ·exact B3 (f:=(·.1)) (A4f hk)
   ·exact h
theorem C1P{M:List (B38×Bool)}{L:List Ent}(hn:(M.map (·.1)).Nodup)(hm:∀f,f∈M.map (·.1)↔f∈L.map (·.2.1)):A44 (M.map (·.1))=A3b L∧M.length≤L.length:=by
 obtain⟨h1,h2,h3⟩:=A7R _ L rfl
 have au:(A3b L).Nodup:=h1.imp fun db e=>by subst e;exact B7q.eE _ db
 have hp:(M.map (·.1)).Perm (A3b L):=(P7 hn au).2 fun f=>(hm f).trans (h3 f).symm
 refine⟨B7K hp h1,?_⟩
 have:=hp.length_eq
 rw[C1] at this
 omega
abbrev C6s:Bool→Value:=Kind.val (.one .bool)
def C4N(x1 x2:Nat)(l:List Ent):Asn:=exA fun M:List (B38×Bool)=>star (pr (∀f,f∈M.map (·.1)↔f∈l.map (·.2.1))) (star (cells x2 #[.map (some x1)]) (mapA A68 C6s x1 M))
theorem B2d{x1 x2:Nat}{l:List Ent}:sat h (C4N x1 x2 l::R)↔∃M:List (B38×Bool),(∀f,f∈M.map (·.1)↔f∈l.map (·.2.1))∧sat h (cells x2 #[.map (some x1)]::mapA A68 C6s x1 M::R):=by
 unfold C4N
 rw[sat.bA]
 simp only[sat.aI,sat.bB]
theorem B7E{x1 x2:Nat}{l:List Ent}{e:Ent}(hs:sat h (C4N x1 x2 l::R)){Q:Value→Heap→Prop}(hq:∀h',sat h' (C4N x1 x2 (l++[e])::R)→Q (.tuple #[]) h'):
  V4 prog 83 #[.agg #[.int .i64 e.1,.string e.2.1,.int .i64 e.2.2],.pointer (some ⟨x2,0,none⟩)] h Q:=by
 refine A41 (e.1,e.2.1,e.2.2,()) ⟨x2,0,none⟩ h Q ?_
 delta A38 bn jt lm nw pu vi
 obtain⟨M,hM,aa⟩:=B2d.1 hs
 refine V6 aa fun x h1 ae=>?_
 refine⟨some x1,ae.p1.cell 0,e.2.1,by rw[U4];exact ae.cell 1,?_⟩
 (try dsimp only);rw[U2]
 refine A34 kS9 C3A (ev:=C6s) (x:=true) (ae.re [2,1,0]) fun h2 aj=>?_
 refine hq h2 (B2d.2 ⟨mset M e.2.1 true,fun f=>?_,(aj.re [1,0,2]).p2.drop⟩)
 rw[B7r,hM,C0,C9]
 simp only[B6,I3,B8]
 exact Or.comm
theorem B7j{t:Nat}{L:List Ent}(hl:L.length≤10000)(hs:sat h (j8 t L::R)){Q:Value→Heap→Prop}
  (hq:∀(s:Slc) h',sat h' (U6 eS 1 s (A3b L)::j8 t L::R)→Q (.slice s.a s.len s.cap) h'):
  V4 prog 44 #[at9 t] h Q:=by
 refine A6A (some ⟨t,0,none⟩) h Q ?_
 delta A5D az bn cc cx ie kp lm nn nw pu sx vz
 (try dsimp only);rw[U9,if_neg (by simp)]
 have bC:=A4X hs
 refine A5S (ek:=A68) (ev:=C6s) hs fun x1 h1 aa=>?_
 refine V6 aa fun x2 h2 ae=>?_
 (try dsimp only);rw[U2]
 refine W7 ae (by simp) rfl fun rY aQ=>?_
 obtain⟨N,C,hA,hC,aj⟩:=y9.1 aQ.p2
 obtain⟨bU,qG⟩:=B4S aj
 have hk:QOK N:=fun p nd hp=>(qG p nd hp).1
 obtain⟨rb,cm,hT,bh⟩:=A1I.1 aj
 have ak:sat rY (cells t (trC rb cm)::o8 N::mapA A03 A1u cm C::cells x2 #[.map (some x1)]::mapA A68 C6s x1 []::R):=bh
 clear bh aj ae aQ aa hs
 have hp:=B2i hT hA hk
 obtain⟨r,fc,ck⟩:=hT.root
 refine⟨_,rfl,some ⟨rb,0,none⟩,by rw[U4];exact ak.cell 0,?_⟩
 have ep:(Value.pointer (some ⟨rb,0,none⟩))=.pointer (l7 r):=by unfold l7;rw[ck]
 (try dsimp only);rw[ep]
 have hJ:sat rY (C4N x1 x2 []::cells t (trC rb cm)::o8 N::mapA A03 A1u cm C::R):=B2d.2 ⟨[],by simp,ak.re [3,4,0,1,2]⟩
 refine u0 (C1t hT (hA.eZ hk) (yv:=.func (.func 83) #[] #[.pointer (some ⟨x2,0,none⟩)]) (J:=C4N x1 x2)
  (fun l e h R Q gM af dZ=>⟨_,_,_,rfl,call83,B7E af fun h' jG=>⟨(),rfl,dZ h' jG⟩⟩)
  _ [] r rfl fc (A:=cells t (trC rb cm)) (s:=⟨none,0,0⟩) (l:=[]) (fun _=>B80) (by rw[A31];exact hJ.re [2,0,1,3]) (by rw[A31,hp.length_eq];simp;omega) fun l' h3 gq ai=>⟨(),rfl,?_⟩)
 rw[A31] at gq ai
 rw[F0] at ai
 obtain⟨M,hM,aw⟩:=B2d.1 ai.p1
 clear ai ak hJ
 have wa:∀f,f∈M.map (·.1)↔f∈L.map (·.2.1):=fun f=>(hM f).trans ((gq.trans hp).map _).mem_iff
 have au:=aw.p1.bJ
 obtain⟨e1,e2⟩:=C1P au wa
 refine⟨some x1,aw.cell 0,?_⟩
 refine U7 ?_
 refine B51 (ρk:=A7F) C59 (some x1) ?_
 refine⟨_,rfl,?_⟩
 have aF:=(aw.bG (T:=A7F.t 23) (cs:=#[.map (some x1)]))
 refine U7 ?_
 refine B1c (ρk:=A7F) (ρs:=A8J) (ρt:=B0t) C59 C3d C5w rfl (enters_of func131 (by kernel_rfl) rfl) (enters_of func132 (by kernel_rfl) rfl) (aF.re [2,0,1])
  (fun p ij=>?_) (by omega) (aF.cell 0) fun sl h4 bq=>?_
 ·obtain⟨x,hx,e⟩:=E4.1 ((wa p.1).1 (B3 ij))
  have:=A2k (u4 (bC.1 x hx))
  rw[←e]
  exact C7 this (by decide)
 rw[e1] at bq
 refine⟨sl,rfl,?_⟩
 refine hq sl h4 ?_
 have ew:sat h4 (cells t (trC rb cm)::o8 N::mapA A03 A1u cm C::U6 eS 1 sl (A3b L)::R):=(bq.re [5,4,6,0,1,2,3]).re [0,1,2,3,4,5,6]|>fun hh=>(hh.re [4,5,6,0,1,2,3]).drop.drop.drop
 exact(y9.2 ⟨N,C,hA,hC,A1I.2 ⟨rb,cm,hT,ew⟩⟩).p1
end
section
open Go.H Go.Proofs
variable {h h0:Heap} {L L' L1 L2 L3 R:List Asn} {Q:Value→Heap→Prop}
instance:Enc Z9 3:=⟨A0W,A35,by decide⟩
instance:Enc A0i 3:=⟨A3Y,A7W,by decide⟩
instance:Enc C2F 4:=⟨C6u,C3I,by decide⟩
instance:Enc eS 1:=⟨A1L,B4Z,by decide⟩
theorem B1Q{c:B38}{A:List V7}{s:V7}(h:ofS c A=some s):s∈A∧s.aC=c:=⟨H2 h,by simpa using M0 h⟩
theorem C5U{c:B38}{A:List V7}(h:ofS c A=none):∀s∈A,s.aC≠c:=fun s hs=>by simpa using E8.1 h s hs
theorem A9m{α β:Type}{f:α→β}{A:List α}(hn:(A.map f).Nodup){s t:α}(hs:s∈A)(ht:t∈A)(e:f s=f t):s=t:=by
 obtain⟨l1,l2,rfl⟩:=H0 hs
 rw[C0,B6,G1] at hn
 rcases C9.1 ht with hm|hm
 ·exact absurd e.symm (hn.2.2 _ (B3 hm) _ (B4 ..))
 ·rcases D2.1 hm with rfl|hm
  ·rfl
  ·exact absurd (B3 (f:=f) hm) (by rw[←e];exact(F4.1 hn.2.1).1)
theorem B1P{c:B38}{A:List V7}{s:V7}(hn:(A.map (·.aC)).Nodup)(hs:s∈A)(hc:s.aC=c):ofS c A=some s:=by
 cases hg:ofS c A with
 |none=>exact absurd hc (C5U hg s hs)
 |some t=>
  obtain⟨h1,h2⟩:=B1Q hg
  rw[A9m (f:=(·.aC)) hn h1 hs (h2.trans hc.symm)]
theorem C3g{b:Nat}{last:Int}{A:List V7}{c:B38}(hn:(A.map (·.aC)).Nodup)(hq:At (A1q b last A::L1) (Q (B8k ((ofS c A).map A08))))(hx:Has L (A1q b last A) L1:=by repeat first|with_reducible exact V1|apply V3):
  FW prog 55 #[at0 b,.string c] L Q:=fun h hs=>by
 obtain⟨X,rfl,h1⟩:=A0e.1 (hx.s hs)
 refine C5e h1 (fun ay h' af=>?_) (fun p hp hc h' af=>?_)
 ·have e:ofS c (X.map (·.2))=none:=E8.2 fun s hs=>by
   obtain⟨p,hp,rfl⟩:=E4.1 hs
   simpa using ay p hp
  rw[e] at hq
  exact hq h' (A0e.2 ⟨X,rfl,af⟩)
 ·rw[B1P hn (B3 hp) hc] at hq
  exact hq h' (A0e.2 ⟨X,rfl,af⟩)
def y8(last:Int)(A:List V7)(c:B38)(clean aN:Bool):(Int×Int×Bool)×Int×List V7:=
 if ¬b6 c then((133,0,false),last,A)
 else match ofS c A with
  |some s=>if clean=false then((0,s.id,true),last,X7 s.id (fun s=>{s with on:=true,aN:=aN}) A)
   else((0,last+1,false),last+1,A.filter (fun x=>decide (x.id≠s.id))++[A2v (last+1) c aN])
  |none=>if 32≤A.length then((151,0,false),last,A) else((0,last+1,false),last+1,A++[A2v (last+1) c aN])
theorem B99{b:Nat}{last:Int}{A:List V7}{c:B38}{clean aN:Bool}(ht:U8 h0)(hsz:c.size≤9223372036854775807)(tR:0≤last)(ff:last<4611686018427387904)(hid:∀s∈A,s.id≤last)(hn:(A.map (·.aC)).Nodup)
  (hq:At (A1q b (y8 last A c clean aN).2.1 (y8 last A c clean aN).2.2::old h0::L2) (Q (.tuple #[.int .i64 (y8 last A c clean aN).1.2.1,.bool (y8 last A c clean aN).1.2.2,.int .u8 (y8 last A c clean aN).1.1])))
  (hx:Has L (A1q b last A) L1:=by repeat first|with_reducible exact V1|apply V3)(hy:Has L1 (old h0) L2:=by repeat first|with_reducible exact V1|apply V3):
  FW prog 69 #[at0 b,.string c,.bool clean,.bool aN] L Q:=fun h hs=>by
 have hg:=(hx.then hy).s hs
 have au:=C3a hg
 obtain⟨X,rfl,h1⟩:=A0e.1 hg
 unfold y8 at hq
 have none_of:(∀p∈X,p.2.aC≠c)→ofS c (X.map (·.2))=none:=fun ay=>E8.2 fun s hs=>by
  obtain⟨p,hp,rfl⟩:=E4.1 hs
  simpa using ay p hp
 refine C28 h1 ht hsz tR ff (fun p hp=>hid p.2 (B3 hp)) (fun hb h' af=>?_) (fun qJ ay hl h' af=>?_) (fun qJ bd l1 p l2 he hc h' af=>?_) (fun qJ L0 hL nb h' af=>?_)
 ·rw[if_pos hb] at hq
  exact hq h' (A0e.2 ⟨X,rfl,af⟩)
 ·rw[if_neg (by simpa using qJ),none_of ay] at hq
  simp only[C1,if_pos hl] at hq
  exact hq h' (A0e.2 ⟨X,rfl,af⟩)
 ·subst he
  rw[if_neg (by simpa using qJ),B1P hn (s:=p.2) (by simp) hc] at hq
  simp only[bd,if_true] at hq
  refine hq h' (A0e.2 ⟨_,?_,af⟩)
  rw[C0,B6,C0,B6]
  rw[C0,B6] at au
  rw[A8K au]
 ·rw[if_neg (by simpa using qJ)] at hq
  rcases hL with⟨ay,hl,rfl⟩|⟨bd,l1,p,l2,rfl,hc,rfl⟩
  ·rw[none_of ay] at hq
   simp only[C1,if_neg (show ¬32≤L0.length by omega)] at hq
   exact hq h' (A0e.2 ⟨_,by simp,af⟩)
  ·rw[B1P hn (s:=p.2) (by simp) hc] at hq
   simp only[bd,if_neg (show ¬(true=false) by decide)] at hq
   refine hq h' (A0e.2 ⟨_,?_,af⟩)
   rw[C0,B6] at au
   have e0:=B6h au
   rw[←B6,←C0] at e0
   rw[e0,C0,C0]
   rfl
theorem C7k{b:Nat}{last:Int}{A:List V7}(ff:last<4611686018427387904)(hid:∀s∈A,0≤s.id∧s.id≤last)(hlen:A.length≤32)(hr:(A.map (·.id)).Pairwise (·< ·))
  (hq:∀S:Slc,At (U6 C2F 4 S (A.map A08)::A1q b last A::L1) (Q (.slice S.a S.len S.cap)))(hx:Has L (A1q b last A) L1:=by repeat first|with_reducible exact V1|apply V3):FW prog 42 #[at0 b] L Q:=fun h hs=>by
 obtain⟨X,rfl,h1⟩:=A0e.1 (hx.s hs)
 refine C5c h1 ff (fun p hp=>hid p.2 (B3 hp)) (by simpa using hlen) fun sl xs h' e1 e2 af=>?_
 have e:=C7x (by rw[F1] at hr;exact hr) e1 e2
 subst e
 have:=hq sl h'
 rw[F1] at this
 exact this ((A0e.2 ⟨X,rfl,af.p1⟩:sat h' (A1q b last (X.map (·.2))::_)).p1)
theorem C5B(hq:∀b,At (A1q b 0 []::L) (Q (at0 b))):FW prog 27 #[] L Q:=fun h hs=>B98 hs fun b h' af=>hq b h' (A0e.2 ⟨[],rfl,af⟩)
theorem C8B(hq:∀b,At (A1x b []::L) (Q (B1H b))):FW prog 29 #[.int .i64 64] L Q:=fun h hs=>C0g hs 64 fun b h' af=>hq b h' (A3V.2 ⟨[],Sto.nil (by decide),af⟩)
theorem C8A{b:Nat}{K:List l3}{m:l3}(ht:TP h0)(hsz:m.1.size≤9223372036854775807)(hq:At (A1x b (B0x 64 K m).2::old h0::L2) (Q (.int .u8 (B0x 64 K m).1)))(hx:Has L (A1x b K) L1:=by repeat first|with_reducible exact V1|apply V3)(hy:Has L1 (old h0) L2:=by repeat first|with_reducible exact V1|apply V3):
  FW prog 79 #[B1H b,vM m] L Q:=fun h hs=>by
 obtain⟨l,hl,h1⟩:=A3V.1 ((hx.then hy).s hs)
 have cR:=hl.set m
 refine C6V h1 ht hsz fun h' af=>?_
 rw[cR.1]
 exact hq h' (A3V.2 ⟨_,cR.2,af⟩)
theorem C6a{b:Nat}{K:List l3}{f:B38}(ht:TP h0)(hsz:f.size≤9223372036854775807)(hq:∀S:Slc,At (U6 A0i 3 S (A6k K f)::A1x b K::old h0::L2) (Q (.slice S.a S.len S.cap)))(hx:Has L (A1x b K) L1:=by repeat first|with_reducible exact V1|apply V3)(hy:Has L1 (old h0) L2:=by repeat first|with_reducible exact V1|apply V3):
  FW prog 110 #[B1H b,.string f] L Q:=fun h hs=>by
 obtain⟨l,hl,h1⟩:=A3V.1 ((hx.then hy).s hs)
 refine C6Z h1 ht hsz (hl.lenL (by decide)).1 hl.small fun sl h' af=>?_
 rw[hl.hit f] at af
 exact hq sl h' ((A3V.2 ⟨l,hl,af.p1⟩:sat h' (A1x b K::_)).p1)
theorem C7c(hq:∀b,At (j8 b []::L) (Q (at9 b))):FW prog 28 #[] L Q:=fun h hs=>C31 hs fun b h' af=>hq b h' af
theorem C3X{t:Nat}{E:List Ent}{n:B38}(ht:TP h0)(hsz:n.size≤9223372036854775807)(hl:E.length≤10000)(hq:∀S:Slc,At (U6 Z9 3 S (E.filter fun x=>Y1 x.2.1 n)::j8 t E::old h0::L2) (Q (.slice S.a S.len S.cap)))(hx:Has L (j8 t E) L1:=by repeat first|with_reducible exact V1|apply V3)(hy:Has L1 (old h0) L2:=by repeat first|with_reducible exact V1|apply V3):
  FW prog 80 #[at9 t,.string n] L Q:=fun h hs=>B92 ht hsz hl ((hx.then hy).s hs) fun S h' af=>hq S h' af
theorem B9Z{t:Nat}{E:List Ent}{id:Int}(ht:TP h0)(hl:E.length≤10000)(hq:At (j8 t (A1l id E)::old h0::L2) (Q (.int .i64 ((A6i id E).length:Nat))))(hx:Has L (j8 t E) L1:=by repeat first|with_reducible exact V1|apply V3)(hy:Has L1 (old h0) L2:=by repeat first|with_reducible exact V1|apply V3):
  FW prog 71 #[at9 t,.int .i64 id] L Q:=fun h hs=>C1J ht hl ((hx.then hy).s hs) fun h' af=>hq h' af
theorem C1F{t:Nat}{E:List Ent}{id:Int}{f:B38}(ht:TP h0)(hsz:f.size≤16777216)(hl:E.length≤10000)(hq:At (j8 t (A1R E id f)::old h0::L2) (Q (.bool (decide ((A1R E id f).length<E.length)))))(hx:Has L (j8 t E) L1:=by repeat first|with_reducible exact V1|apply V3)(hy:Has L1 (old h0) L2:=by repeat first|with_reducible exact V1|apply V3):
  FW prog 111 #[at9 t,.int .i64 id,.string f] L Q:=fun h hs=>B1b ht hsz (by omega) ((hx.then hy).s hs) fun h' af=>hq h' af
theorem B9Y{t:Nat}{E:List Ent}(hl:E.length≤10000)(hq:∀S:Slc,At (U6 eS 1 S (A3b E)::j8 t E::L1) (Q (.slice S.a S.len S.cap)))(hx:Has L (j8 t E) L1:=by repeat first|with_reducible exact V1|apply V3):
  FW prog 44 #[at9 t] L Q:=fun h hs=>B7j hl (hx.s hs) fun S h' af=>hq S h' af
theorem C6J{E:List Ent}{i:Nat}{x:Ent}{k:Int×B38}(ha:Asc E)(hi:E[i]? =some x)(hk:b8 x=k):E.findIdx? (fun x=>decide (b8 x=k))=some i:=by
 rw[J1]
 obtain⟨ah,hx⟩:=E0.1 hi
 refine⟨ah,by simp[hx,hk],fun j hj hc=>?_⟩
 have h1:=Q5.1 ha j i (by omega) ah hj
 simp only[decide_eq_true_eq] at hc
 rw[hx,hk,hc] at h1
 exact absurd h1 (A9P.eE _)
theorem C7d{t:Nat}{E:List Ent}{id q:Int}{f:B38}(ht:TP h0)(hsz:f.size≤9223372036854775807)(hl:E.length≤10000)(hq:At (j8 t (A2P E id f q).2::old h0::L2) (Q (.int .u8 (A2P E id f q).1)))(hx:Has L (j8 t E) L1:=by repeat first|with_reducible exact V1|apply V3)(hy:Has L1 (old h0) L2:=by repeat first|with_reducible exact V1|apply V3):
  FW prog 109 #[at9 t,C5i id f q] L Q:=fun h hs=>by
 have h1:=(hx.then hy).s hs
 have bC:=A4X h1
 unfold A2P at hq
 refine C33 ht hsz (by omega) h1 (fun hb h' af=>?_) (fun hb dU h' af=>?_) (fun hb q0 q1 i x hi hk h' af=>?_) (fun hb q0 q1 ay hc h' af=>?_) (fun hb q0 q1 ay hc h' af=>?_)
 ·rw[if_pos hb] at hq;exact hq h' af
 ·rw[if_neg (by simp[hb]),if_pos dU] at hq;exact hq h' af
 ·rw[if_neg (by simp[hb]),if_neg (by omega)] at hq
  have hf:E.findIdx? (fun x=>decide (b8 x=(id,f)))=some i:=C6J bC.2 hi hk
  rw[hf] at hq
  exact hq h' af
 ·rw[if_neg (by simp[hb]),if_neg (by omega),O1.2 (fun x hx=>by simpa using ay x hx)] at hq
  simp only[if_pos hc] at hq
  exact hq h' af
 ·rw[if_neg (by simp[hb]),if_neg (by omega),O1.2 (fun x hx=>by simpa using ay x hx)] at hq
  simp only[if_neg (show ¬64≤A1e E id by omega)] at hq
  exact hq h' af
end
section
open Go.H Go.Proofs
variable {h h0:Heap} {L L' L1 L2 L3 R:List Asn} {Q:Value→Heap→Prop}
def B2H(id:Int)(ps:List PkO)(l:List (Int×Tup tC)):List r8:=(l.filter fun x=>decide (x.2.1=id)).flatMap fun x=>ps.map fun p=>⟨x.1,p,false⟩
theorem B4g{id:Int}{l:List Y6}:(l.map A0j).filter (fun x=>decide (x.2.1=id))=(l.filter fun x=>decide (x.aD=id)).map A0j:=by
 rw[R9];rfl
theorem C5z{id:Int}{ps:List PkO}{l:List Y6}{done:List (Int×Tup tC)}(hp:done.Perm (l.map A0j))(hu:(l.filter fun x=>decide (x.aD=id)).length≤1):B2H id ps done=A1U l id ps:=by
 unfold B2H A1U
 have h1:=hp.filter fun x=>decide (x.2.1=id)
 rw[B4g] at h1
 generalize l.filter (fun x=>decide (x.aD=id))=k at hu h1
 match k,hu with
 |[],_=>rw[List.Perm.eq_nil h1];rfl
 |[x],_=>
  rw[B6,I3,List.perm_singleton] at h1
  rw[h1];rfl
theorem C4M{id:Int}{l:List Y6}{done rest:List (Int×Tup tC)}{q:Int×Tup tC}(hp:(done++q::rest).Perm (l.map A0j))(hu:(l.filter fun x=>decide (x.aD=id)).length≤1)(hq:q.2.1=id):done.filter (fun x=>decide (x.2.1=id))=[]:=by
 have h1:=(hp.filter fun x=>decide (x.2.1=id)).length_eq
 rw[B4g,C1,F2,G9 (by simpa using hq),B5,B7] at h1
 exact K6.1 (by omega)
def C5J(c:Bool)(A:Asn)(L:List Asn):List Asn:=match c with
 |true=>A::L
 |false=>L
theorem B7N{c:Bool}{A:Asn}{L:List Asn}:Sub (C5J c A L) L:=by
 cases c
 ·exact Sub.rfl
 ·exact Sub.drop Sub.rfl
theorem C8f{t b:Nat}{full:Bool}{os os':List r8}{ps:List MsT}{so sp:Slc}(e:os'=os)(hs:sat h (cells t #[at0 b,.bool full,.slice so.a so.len so.cap,.slice sp.a sp.len sp.cap]::W0 .u8 so os::U6 Z7 5 sp ps::R)):sat h (thA t b full os' ps::R):=by
 subst e;exact A2G.2 ⟨so,sp,hs⟩
theorem C5y{id:Int}{ps:List PkO}{os:List r8}:os++B2H id ps []=os:=C2 _
theorem A3O{t b:Nat}{full:Bool}{T:V0}{id:Int}{S:Slc}{ps:List PkO}(hu:(T.b.aB.filter fun x=>decide (x.aD=id)).length≤1)(hb:T.outs.length+ps.length≤100000000)
  (hq:At (X8 t b full (q7 id ps T)::L2) (Q (.tuple #[])))(hx:Has L (X8 t b full T) L1:=by repeat first|with_reducible exact V1|apply V3)(hy:Has L1 (q8 .u8 S ps) L2:=by repeat first|with_reducible exact V1|apply V3):
  FW prog 72 #[at0 t,.int .i64 id,.slice S.a S.len S.cap] L Q:=by
 refine fun h hs=>A5y (some ⟨t,0,none⟩) id S h Q ((?_:W (X8 t b full T::q8 .u8 S ps::L2) _ _) h ((hx.then hy).s hs))
 clear hs h hx hy
 delta A4E az bn cx A02 ie ix ji km kp nn nw pu sn vi wi
 refine W5 ?_
 refine C2Z (fun h R=>A00.1) ?_
 refine A9f (fun h R=>A2G.1) fun so sp=>?_
 refine W.load (v:=some ⟨b,0,none⟩) ?_
 refine W5 ?_
 refine A2j (fun h R=>A1n.1) fun p=>?_
 refine W.load (v:=some p.cm) ?_
 refine W.range fun it=>?_
 refine B2x (A:=thA t b full (T.outs++B2H id ps []) T.aT) (fun h hs=>C8f C5y hs) ?_
 refine C6R (ek:=eKI) (ev:=eVC) (r:=p.cm) (l:=T.b.aB.map A0j) (fun done _=>thA t b full (T.outs++B2H id ps done) T.aT::cells b (A75 p)::A1q p.tb T.b.last T.b.aD::j8 p.sb T.b.aH::A1x p.kb T.b.kept::C5J (done.filter fun x=>decide (x.2.1=id)).isEmpty (q8 .u8 S ps) L2) ?_ (fun done s hp K hd=>?_) (fun done q rest s hp K bu hd=>?_)
 ·show Sub _ (_::thA t b full (T.outs++B2H id ps []) T.aT::cells b (A75 p)::A1q p.tb T.b.last T.b.aD::j8 p.sb T.b.aH::A1x p.kb T.b.kept::q8 .u8 S ps::L2)
  repeat(first|with_reducible exact T7|with_reducible exact T8|refine U0 (by repeat first|with_reducible exact V1|apply V3) ?_|refine U1 ?_)
 ·refine W8 rfl (U3 (hd () _ (U3 ?_)))
  rw[C5z hp hu]
  refine At.eU (A:=A0Q b T.b) (fun h hs=>A1n.2 ⟨p,hs⟩) (At.cY (A:=X8 t b full (q7 id ps T)) (fun h hs=>A00.2 hs) (At.sub hq (Sub.cons V1 B7N)) (V3 V1) V1)
 ·refine Y4 rfl ?_
  refine W.entry (x:=q.1) (y:=q.2) ?_
  refine Y2 fun iB=>?_
  refine A0n ?_
  refine W.load (v:=q.2.1) ?_
  by_cases dU:q.2.1=id
  ·refine A1o (by simpa using dU) ?_
   have dq:=C4M hp hu dU
   have e0:B2H id ps done=[]:=by unfold B2H;rw[dq];rfl
   have hn:=bu ()
   dsimp only at hn⊢
   have e2:(done++[q]).filter (fun x=>decide (x.2.1=id))=[q]:=by rw[F2,dq,G9 (by simpa using dU)];rfl
   have e3:B2H id ps (done++[q])=ps.map fun p=>⟨q.1,p,false⟩:=by unfold B2H;rw[e2];exact C2 _
   rw[e3,e2] at hn
   rw[e0,dq]
   refine B9S (fun h R=>A7t.1) (fun PT uD=>?_) (hx:=(by repeat first|with_reducible exact V1|apply V3:Has (_::_::_::_::_::_::_::q8 .u8 S ps::L2) _ _))
   subst uD
   refine X3 ?_
   refine Z1 (X5 (enc:=W9 .u8) (size:=26) (s:=S) (xs:=PT.map pkF)) fun hl=>?_
   rw[C1] at hl hb
   refine B0l PT.length (fun i s=>s.1=(i:Int)) (fun i _=>thA t b full (T.outs++(PT.take i).map fun z=>⟨q.1,z.2.2,false⟩) T.aT::U6 (W9 .u8) 26 S (PT.map pkF)::a7 (pkB .u8) (PT.drop i)::itA eKI eVC p.cm (T.b.aB.map A0j) it (done++[q]) rest::cells b (A75 p)::A1q p.tb T.b.last T.b.aD::j8 p.sb T.b.aH::A1x p.kb T.b.kept::L2) rfl ?_ (fun i s hi hI=>by rw[hI,hl];exact G0.2 (by omega)) (fun s hI K2 iz=>?_) (fun i s ah hI K2 jK iz=>?_)
   ·show Sub _ (thA t b full (T.outs++[]) T.aT::U6 (W9 .u8) 26 S (PT.map pkF)::a7 (pkB .u8) PT::itA eKI eVC p.cm (T.b.aB.map A0j) it (done++[q]) rest::cells b (A75 p)::A1q p.tb T.b.last T.b.aD::j8 p.sb T.b.aH::A1x p.kb T.b.kept::L2)
    repeat(first|with_reducible exact T7|with_reducible exact T8|refine U0 (by repeat first|with_reducible exact V1|apply V3) ?_|refine U1 ?_)
   ·refine U3 (iz _ _ (b7 (U3 ?_)))
    have e4:(PT.take PT.length).map (fun z:Slc×Slc×PkO=>(⟨q.1,z.2.2,false⟩:r8))=(PT.map (·.2.2)).map fun p=>⟨q.1,p,false⟩:=by rw[F5,F1];rfl
    rw[e4]
    refine At.sub hn ?_
    show Sub _ (_::_::_::_::_::_::L2)
    repeat(first|with_reducible exact T7|with_reducible exact T8|refine U0 (by repeat first|with_reducible exact V1|apply V3) ?_|refine U1 ?_)
   ·have hi:(PT.map pkF)[i]? =some (pkF PT[i]):=by simp[ah]
    refine j5 (enc:=W9 .u8) (xs:=PT.map pkF) (i:=i) (by simpa using ah) (fun a ha=>?_) (he:=hI)
    refine B3z (x:=pkF PT[i]) (v:=pkF PT[i]) ha hi ?_
    refine Y2 fun sy=>?_
    refine A0n ?_
    refine s7 (v:=pkF PT[i]) ?_
    rw[E1 ah]
    refine C2Z (fun h R=>l5.1) ?_
    refine Z3 (C3f (full:=full) (os:=T.outs++(PT.take i).map fun z=>⟨q.1,z.2.2,false⟩) (ps:=T.aT) (b:=b) (o:=PT[i].2.2) (ci:=PT[i].1) (pi:=PT[i].2.1) (by rw[B5,C1,E6];omega) (At.bD ?_))
    have kV:=jK (IntKind.wrap .i64 (s.1+1),()) (by simp only[hI];rw[V8 (by omega) (by omega)];rfl)
    have e4:T.outs++(PT.take (i+1)).map (fun z:Slc×Slc×PkO=>(⟨q.1,z.2.2,false⟩:r8))=(T.outs++(PT.take i).map fun z=>⟨q.1,z.2.2,false⟩)++[⟨q.1,PT[i].2.2,false⟩]:=by
     rw[C4 ah,C0,←D6];rfl
    rw[e4] at kV
    exact U3 kV.sub
  ·refine o5 (by simpa using dU) ?_
   refine b7 (U3 ?_)
   have e5:(done++[q]).filter (fun x=>decide (x.2.1=id))=done.filter (fun x=>decide (x.2.1=id)):=by rw[F2,F9 (by simpa using dU),J5,C2]
   have e6:B2H id ps (done++[q])=B2H id ps done:=by unfold B2H;rw[e5]
   have hn:=bu ()
   rw[e6,e5] at hn
   refine At.sub hn ?_
   repeat(first|with_reducible exact T7|with_reducible exact T8|refine U0 (by repeat first|with_reducible exact V1|apply V3) ?_|refine U1 ?_)
end
section
open Go.H Go.Proofs
variable {h h0:Heap} {L L' L1 L2 L3 R:List Asn} {Q:Value→Heap→Prop}
theorem B0w{A:List V7}{s:V7}{k:Int}{f g:V7→V7}(hn:(A.map (·.id)).Nodup)(hm:s∈A)(hk:s.id=k)(e:f s=g s):X7 k f A=X7 k g A:=by
 unfold X7
 refine I2 fun x hx=>?_
 by_cases pU:x.id=k
 ·rw[if_pos pU,if_pos pU,A9m (f:=(·.id)) hn hx hm (pU.trans hk.symm)];exact e
 ·rw[if_neg pU,if_neg pU]
theorem A6C{b ob ib:Nat}{last k:Int}{A:List V7}{s:V7}{o:Z2}(hn:(A.map (·.id)).Nodup)(hm:s∈A)(hk:s.id=k):∀h,sat h (A0u ob o::A0q ib s.aZ::B0q b last A s ob ib::R)→sat h (A1q b last (X7 k (Y9 o) A)::R):=fun h hs=>by
 have h1:=B48 h hs
 rw[hk,B0w (f:=fun x=>{x with out:=o,aZ:=s.aZ}) (g:=Y9 o) hn hm hk rfl] at h1
 exact h1
theorem C5n{b ob ib:Nat}{last k:Int}{A:List V7}{s:V7}{i:u6}(hn:(A.map (·.id)).Nodup)(hm:s∈A)(hk:s.id=k):∀h,sat h (A0u ob s.out::A0q ib i::B0q b last A s ob ib::R)→sat h (A1q b last (X7 k (j1 i) A)::R):=fun h hs=>by
 have h1:=B48 h hs
 rw[hk,B0w (f:=fun x=>{x with out:=s.out,aZ:=i}) (g:=j1 i) hn hm hk rfl] at h1
 exact h1
theorem B3A{b ob ib:Nat}{last k:Int}{A:List V7}{s:V7}(hk:s.id=k)(hq:At (A0u ob s.out::A0q ib s.aZ::B0q b last A s ob ib::L3) (Q (at0 ob)))(hx:Has L (A0u ob s.out) L1:=by repeat first|with_reducible exact V1|apply V3)(hy:Has L1 (A0q ib s.aZ) L2:=by repeat first|with_reducible exact V1|apply V3)(hz:Has L2 (B0q b last A s ob ib) L3:=by repeat first|with_reducible exact V1|apply V3):
  FW prog 56 #[at0 b,.int .i64 k] L Q:=by subst hk;exact C9Y hq hx hy hz
theorem C9Z{b ob ib:Nat}{last k:Int}{A:List V7}{s:V7}(hk:s.id=k)(hq:At (A0u ob s.out::A0q ib s.aZ::B0q b last A s ob ib::L3) (Q (at0 ib)))(hx:Has L (A0u ob s.out) L1:=by repeat first|with_reducible exact V1|apply V3)(hy:Has L1 (A0q ib s.aZ) L2:=by repeat first|with_reducible exact V1|apply V3)(hz:Has L2 (B0q b last A s ob ib) L3:=by repeat first|with_reducible exact V1|apply V3):
  FW prog 106 #[at0 b,.int .i64 k] L Q:=by subst hk;exact D0o hq hx hy hz
theorem C8C{i:Int}{tk rs:List Ent}{e:Ent}{rest:List Ent}(hz:tk++rs=e::rest)(he:e.1=i)(hs:(tk++rs).Pairwise fun a b=>a.1≤b.1)(h1:∀y∈tk,y.1=i)(h2:∀y∈rs.head?,y.1≠i):0<tk.length∧∀y∈rs,i<y.1:=by
 match tk,h1,hz with
 |[],_,hz=>
  rw[F0] at hz
  subst hz
  exact absurd he (h2 e (by simp))
 |y0::tk,h1,hz=>
  refine⟨by simp,?_⟩
  have h0:=h1 y0 (B4 ..)
  rw[G3,H5] at hs
  match rs,h2,hs with
  |[],_,_=>intro y hy;cases hy
  |z::rs,h2,hs=>
   have dw:=hs.1 z (G6 _ (B4 ..))
   have gy:=h2 z (by simp)
   have hp:=(I7.1 hs.2).2.1
   rw[H5] at hp
   intro y hy
   rcases D2.1 hy with rfl|hy
   ·omega
   ·have:=hp.1 y hy;omega
theorem C4z{tk:List Ent}{y:Ent}:B9h (tk++[y])=max (B9h tk) y.2.2:=by unfold B9h;rw[List.foldl_append];rfl
theorem C6h{t b:Nat}{full:Bool}{T:V0}{m:MsT}(ht:TP h0)(ag:j7 T.b)(hb:T.outs.length≤50000000)(hm:m.1.size≤9223372036854775807)
  (hq:At (X8 t b full (A0p m T)::old h0::L2) (Q (.tuple #[])))(hx:Has L (X8 t b full T) L1:=by repeat first|with_reducible exact V1|apply V3)(hy:Has L1 (old h0) L2:=by repeat first|with_reducible exact V1|apply V3):
  FW prog 43 #[at0 t,vMs m] L Q:=by
 refine fun h hs=>A74 (some ⟨t,0,none⟩) (toU m) h Q ((?_:W (X8 t b full T::old h0::L2) _ _) h ((hx.then hy).s hs))
 clear hs h hx hy
 delta A7c bn cc cp cu cx ie ix jb ji jt ki kp nn nw pu rq ve vi vs
 refine Y2 fun x1=>?_
 refine W.load (v:=m.2.2.2.1) ?_
 refine W.cut (fun _=>X8 t b full (A1k m T)::cells x1 (aS7 (toU m))::old h0::L2) (fun K hK=>?_) (fun _=>?_)
 ·refine A0l (fun hr=>?_) (fun hr=>?_)
  ·have e:A1k m T=B93 (B0x 64 T.b.kept (m.1,m.2.1,m.2.2.1,())).2 T:=if_pos hr
   rw[e] at hK
   refine W5 ?_
   refine A6u (fun h R=>p6) fun so sp p=>?_
   refine W.load (v:=some ⟨b,0,none⟩) ?_
   refine W5 ?_
   refine W.load ?_
   refine W.load (v:=m.1) ?_
   refine W.load (v:=m.2.1) ?_
   refine W.load (v:=m.2.2.1) ?_
   refine j2 (C8A (b:=p.kb) (K:=T.b.kept) (m:=(m.1,m.2.1,m.2.2.1,())) ht hm (At.un (U3 ?_)))
   refine At.bI (B93 (B0x 64 T.b.kept (m.1,m.2.1,m.2.2.1,())).2 T) so sp p ?_
   exact(hK ()).sub
  ·have e:A1k m T=T:=if_neg (by rw[hr];decide)
   rw[e] at hK
   exact U3 (hK ()).sub
 have hk:=B12 (m:=m) ag
 have ca:(A3v none (T.b.aH.filter fun x=>Y1 x.2.1 m.1)).foldl (A0b m (T.b.aH.filter fun x=>Y1 x.2.1 m.1)) (A1k m T)=A0p m T:=rfl
 rw[←hk.aH] at ca
 have il:=hk.ok
 have gQ:(A1k m T).outs.length≤50000000:=C7 hk.outs hb
 clear hk
 generalize A1k m T=T0 at*
 refine W5 ?_
 refine A6u (fun h R=>p6) fun so sp p=>?_
 refine W.load (v:=some ⟨b,0,none⟩) ?_
 refine W5 ?_
 refine W.load ?_
 refine W.load (v:=m.1) ?_
 refine Z1 (fun h R hs=>(A4X (t:=p.sb) (L:=T0.b.aH) hs).2) fun fz=>?_
 refine j2 (C3X (t:=p.sb) (E:=T0.b.aH) (n:=m.1) ht hm il.aH (fun S=>At.un (x:=S) ?_))
 refine W.bI T0 so sp p ?_
 have bf:∀e∈T0.b.aH.filter (fun x=>Y1 x.2.1 m.1),e∈T0.b.aH:=fun e he=>(D9.1 he).1
 have oo:(T0.b.aH.filter fun x=>Y1 x.2.1 m.1).Pairwise fun a b=>a.1≤b.1:=(C6I fz).filter _
 have yj:(T0.b.aH.filter fun x=>Y1 x.2.1 m.1).length≤10000:=C7 (D3 _ _) il.aH
 generalize T0.b.aH.filter (fun x=>Y1 x.2.1 m.1)=M at*
 clear fz
 refine W.loop (γ:=List Ent×V0) (fun g s=>(∃done,M=done++g.1∧∀a∈done,∀y∈g.1,a.1<y.1)∧(A3v none g.1).foldl (A0b m M) g.2=A0p m T∧j7 g.2.b∧g.2.b.aH=T0.b.aH∧g.2.outs.length+320*g.1.length≤53200000)
  (fun g s=>X8 t b full g.2::U6 Z9 3 s.1 g.1::cells x1 (aS7 (toU m))::old h0::L2) (fun g=>g.1.length) (M,T0) ⟨⟨[],rfl,by simp⟩,ca,il,rfl,by simp only;omega⟩ ?_ ?_
 ·show Sub _ (X8 t b full T0::U6 Z9 3 S M::cells x1 (aS7 (toU m))::old h0::L2)
  repeat(first|with_reducible exact T7|with_reducible exact T8|refine U0 (by repeat first|with_reducible exact V1|apply V3) ?_|refine U1 ?_)
 rintro⟨rest,T1⟩ s ⟨⟨done,rz,gC⟩,fw,aL,iE,fj⟩ K h1 h2
 simp only at rz gC fw aL iE fj
 refine Z1 (X5 (enc:=Z9) (size:=3) (s:=s.1) (xs:=rest)) fun hl=>?_
 cases rest with
 |nil=>
  refine W8 (by rw[hl];rfl) (U3 (h2 _ _ (U3 ?_)))
  have fw:T1=A0p m T:=fw
  rw[fw]
  exact hq.sub
 |cons e rest'=>
  refine Y4 (by rw[hl];exact decide_eq_true (by simp only[B7];omega)) ?_
  refine j5 (enc:=Z9) (xs:=e::rest') (i:=0) (by simp) (fun a ha=>?_)
  refine A4z (k:=0) (x:=e) (v:=e.1) ha rfl ?_
  refine C9a (X:=List Ent×List Ent) (fun z a=>z.1++z.2=e::rest'∧(∀y∈z.1,y.1=e.1)∧(∀y∈z.2.head?,y.1≠e.1)∧a.1=B9h z.1) (fun z a=>X8 t b full T1::U6 Z9 3 a.2.1 z.2::cells x1 (aS7 (toU m))::old h0::L2) (fun K2 bg=>?_) (fun z a hz=>?_)
  ·refine C9U (γ:=List Ent×List Ent) (fun z s=>z.1++z.2=e::rest'∧(∀y∈z.1,y.1=e.1)∧s.1=B9h z.1) (fun z s=>X8 t b full T1::U6 Z9 3 s.2.1 z.2::cells x1 (aS7 (toU m))::old h0::L2) (fun z=>z.2.length) ([],e::rest') ⟨rfl,by simp,rfl⟩ ?_ ?_
   ·show Sub _ (X8 t b full T1::U6 Z9 3 s.1 (e::rest')::cells x1 (aS7 (toU m))::old h0::L2)
    repeat(first|with_reducible exact T7|with_reducible exact T8|refine U0 (by repeat first|with_reducible exact V1|apply V3) ?_|refine U1 ?_)
   rintro⟨tk,rs⟩ s2 ⟨dw,gy,lC⟩ K3 k1 k2
   simp only at dw gy lC
   refine Z1 (X5 (enc:=Z9) (size:=3) (s:=s2.2.1) (xs:=rs)) fun fi=>?_
   cases rs with
   |nil=>exact o5 (by rw[fi];rfl) (b7 (W8 rfl (U3 (k2 _ _ (bg (tk,[]) _ ⟨dw,gy,by simp,lC⟩).sub))))
   |cons y rs'=>
    refine A1o (by rw[fi];exact decide_eq_true (by simp only[B7];omega)) ?_
    refine X3 (j5 (enc:=Z9) (xs:=y::rs') (i:=0) (by simp) (fun a2 dI=>?_))
    refine X3 (A4z (k:=0) (x:=y) (v:=y.1) dI rfl ?_)
    refine b7 ?_
    by_cases hy:y.1=e.1
    ·refine Y4 (by simpa using hy) ?_
     refine j5 (enc:=Z9) (xs:=y::rs') (i:=0) (by simp) (fun a3 jR=>?_)
     refine A4z (k:=2) (x:=y) (v:=y.2.2) jR rfl ?_
     refine C9T (enc:=Z9) (xs:=y::rs') (lo:=1) (hi:=(y::rs').length) (by simp) (D8 _) (fun s'=>?_) ⟨rfl,by simp⟩ (fun c _ e=>e.symm)
     rw[F5,List.drop_one,List.tail_cons]
     have f1:∀z∈tk++[y],z.1=e.1:=fun z hz=>by
      rcases C9.1 hz with hz|hz
      ·exact gy z hz
      ·rw[B8.1 hz];exact hy
     have f2:(if s2.1<y.2.2 then y.2.2 else s2.1)=B9h (tk++[y]):=by
      rw[C4z,←lC];split<;>omega
     have f3:tk++[y]++rs'=e::rest':=by rw[D6];exact dw
     exact U3 (k1 (tk++[y],rs') _ (Nat.lt_succ_self _) ⟨f3,f1,f2⟩).sub
    ·have f4:∀z∈(y::rs').head?,z.1≠e.1:=by simpa using hy
     exact W8 (by simpa using hy) (U3 (k2 _ _ (bg (tk,y::rs') _ ⟨dw,gy,f4,lC⟩).sub))
  ·obtain⟨tk,rs⟩:=z
   obtain⟨dw,gy,lC,uQ⟩:=hz
   simp only at dw gy lC uQ
   have hg:=C8C dw rfl (by rw[dw];rw[rz] at oo;exact(I7.1 oo).2.1) gy lC
   have ft:A2u M e.1=B9h tk:=by
    rw[rz,←dw]
    refine C4p (fun y hy=>?_) gy (fun y hy=>?_)
    ·have:=gC y hy e (B4 ..);omega
    ·have:=hg.2 y hy;omega
   have iR:(if a.1<m.2.2.1 then a.1 else m.2.2.1)=min m.2.2.1 (A2u M e.1):=by rw[ft,uQ];split<;>omega
   obtain⟨s3,aj,hid⟩:=aL.live e (by rw[iE];refine bf e ?_;rw[rz];exact G6 _ (B4 ..))
   have dc:=A4a (aL.bP s3 aj) (m.1,m.2.1,min m.2.2.1 (A2u M e.1),false,e0S)
   have e9:A0b m M T1 e.1=q7 e.1 (Y0 s3.out (m.1,m.2.1,min m.2.2.1 (A2u M e.1),false,e0S)).1.2 (A0E (X7 e.1 (Y9 (Y0 s3.out (m.1,m.2.1,min m.2.2.1 (A2u M e.1),false,e0S)).1.1) T1.b.aD) T1):=by
    unfold A0b A0F
    rw[A3y aL.nd aj hid]
   have bw:=A7M (m:=m) (l:=M) T1 e.1 aL
   have xA:=congrArg List.length dw
   simp only[B5,B7] at xA fj
   have aA:∀s',At (X8 t b full (A0b m M T1 e.1)::U6 Z9 3 s' rs::cells x1 (aS7 (toU m))::old h0::L2) (K (.inl (s',()))):=fun s'=>by
    refine h1 (rs,A0b m M T1 e.1) (s',()) ?_ ⟨⟨done++tk,?_,?_⟩,?_,bw.ok,bw.aH.trans iE,?_⟩
    ·simp only[B7];have:=hg.1;omega
    ·rw[rz,←dw,D6]
    ·intro x hx y hy
     rcases C9.1 hx with hx|hx
     ·exact gC x hx y (by rw[←dw];exact G6 _ hy)
     ·rw[gy x hx];exact hg.2 y hy
    ·rw[C2q rfl dw gy lC] at fw
     exact fw
    ·have:=bw.outs
     have:=hg.1
     simp only
     omega
   rw[e9] at aA
   clear hq fw gC h1 h2
   refine W5 ?_
   refine A6u (fun h R=>p6) fun so sp p=>?_
   refine W.load (v:=some ⟨b,0,none⟩) ?_
   refine W5 ?_
   refine W.load (v:=some ⟨p.tb,0,none⟩) ?_
   refine W.load (v:=m.1) ?_
   refine W.load (v:=m.2.1) ?_
   refine W.load (v:=m.2.2.1) ?_
   rw[iR]
   refine A9f (fun h R=>A6D aj h R) fun ob ib=>?_
   refine A79 ?_ ?_
   ·refine j2 (B3A hid (At.un ?_))
    repeat(first|refine b7 ?_|refine X3 ?_|refine Y2 fun _=>?_|refine W.load ?_|refine B4O ?_|refine j4 ?_|(refine s7 ?_;try dsimp only)|(refine A8a ?_;try dsimp only)|refine A0n ?_|refine W.store ?_|refine W.store0 ?_|refine A4r ?_|refine A1p ?_ rfl|refine A1o rfl ?_|refine o5 rfl ?_|refine Y4 rfl ?_|refine W8 rfl ?_|refine W.inl ?_|refine W.inr ?_|refine W5 ?_|refine o5 (Go.H.nbq _) ?_|refine W8 (Go.H.nbq _) ?_|refine o5 (Go.H.nbd rfl) ?_|refine W8 (Go.H.nbd rfl) ?_)
    refine Z3 (B4V (b:=ob) (o:=s3.out) (m:=(m.1,m.2.1,min m.2.2.1 (A2u M e.1),false,e0S)) (aL.bP s3 aj) (fun S2=>At.bD (x:=(S2,(Y0 s3.out (m.1,m.2.1,min m.2.2.1 (A2u M e.1),false,e0S)).2,())) ?_))
    refine B2x (A:=A1q p.tb T1.b.last (X7 e.1 (Y9 (Y0 s3.out (m.1,m.2.1,min m.2.2.1 (A2u M e.1),false,e0S)).1.1) T1.b.aD)) (fun h hs=>A6C aL.nd aj hid h hs) ?_
    refine W.bI (A0E (X7 e.1 (Y9 (Y0 s3.out (m.1,m.2.1,min m.2.2.1 (A2u M e.1),false,e0S)).1.1) T1.b.aD) T1) so sp p ?_
    refine Z3 (A3O (T:=(A0E (X7 e.1 (Y9 (Y0 s3.out (m.1,m.2.1,min m.2.2.1 (A2u M e.1),false,e0S)).1.1) T1.b.aD) T1)) (id:=e.1) (ps:=(Y0 s3.out (m.1,m.2.1,min m.2.2.1 (A2u M e.1),false,e0S)).1.2) (aL.one e.1) (by have:=dc.2;show T1.outs.length+_≤_;omega) (At.bD ?_))
    exact U3 (aA _).sub
   ·repeat(first|refine b7 ?_|refine X3 ?_|refine Y2 fun _=>?_|refine W.load ?_|refine B4O ?_|refine j4 ?_|(refine s7 ?_;try dsimp only)|(refine A8a ?_;try dsimp only)|refine A0n ?_|refine W.store ?_|refine W.store0 ?_|refine A4r ?_|refine A1p ?_ rfl|refine A1o rfl ?_|refine o5 rfl ?_|refine Y4 rfl ?_|refine W8 rfl ?_|refine W.inl ?_|refine W.inr ?_|refine W5 ?_|refine o5 (Go.H.nbq _) ?_|refine W8 (Go.H.nbq _) ?_|refine o5 (Go.H.nbd rfl) ?_|refine W8 (Go.H.nbd rfl) ?_)
    refine j2 (B3A hid (At.un ?_))
    repeat(first|refine b7 ?_|refine X3 ?_|refine Y2 fun _=>?_|refine W.load ?_|refine B4O ?_|refine j4 ?_|(refine s7 ?_;try dsimp only)|(refine A8a ?_;try dsimp only)|refine A0n ?_|refine W.store ?_|refine W.store0 ?_|refine A4r ?_|refine A1p ?_ rfl|refine A1o rfl ?_|refine o5 rfl ?_|refine Y4 rfl ?_|refine W8 rfl ?_|refine W.inl ?_|refine W.inr ?_|refine W5 ?_|refine o5 (Go.H.nbq _) ?_|refine W8 (Go.H.nbq _) ?_|refine o5 (Go.H.nbd rfl) ?_|refine W8 (Go.H.nbd rfl) ?_)
    refine Z3 (B4V (b:=ob) (o:=s3.out) (m:=(m.1,m.2.1,min m.2.2.1 (A2u M e.1),false,e0S)) (aL.bP s3 aj) (fun S2=>At.bD (x:=(S2,(Y0 s3.out (m.1,m.2.1,min m.2.2.1 (A2u M e.1),false,e0S)).2,())) ?_))
    refine B2x (A:=A1q p.tb T1.b.last (X7 e.1 (Y9 (Y0 s3.out (m.1,m.2.1,min m.2.2.1 (A2u M e.1),false,e0S)).1.1) T1.b.aD)) (fun h hs=>A6C aL.nd aj hid h hs) ?_
    refine W.bI (A0E (X7 e.1 (Y9 (Y0 s3.out (m.1,m.2.1,min m.2.2.1 (A2u M e.1),false,e0S)).1.1) T1.b.aD) T1) so sp p ?_
    refine Z3 (A3O (T:=(A0E (X7 e.1 (Y9 (Y0 s3.out (m.1,m.2.1,min m.2.2.1 (A2u M e.1),false,e0S)).1.1) T1.b.aD) T1)) (id:=e.1) (ps:=(Y0 s3.out (m.1,m.2.1,min m.2.2.1 (A2u M e.1),false,e0S)).1.2) (aL.one e.1) (by have:=dc.2;show T1.outs.length+_≤_;omega) (At.bD ?_))
    exact U3 (aA _).sub
end
end Go.Proofs.YtidlldnlphdhcaaGreatDoor