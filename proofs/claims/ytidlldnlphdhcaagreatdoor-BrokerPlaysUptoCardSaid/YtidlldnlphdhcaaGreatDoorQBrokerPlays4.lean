/-
  Our texts, packed by program.
-/
import Derived.Test.YtidlldnlphdhcaaGreatDoorQBrokerPlays3
import Derived.Shelf.SlSortCmp.NoneTotal
set_option linter.unusedSimpArgs false
set_option linter.unusedVariables false
set_option maxHeartbeats 16000000
set_option maxRecDepth 100000
set_option synthInstance.maxSize 100000
set_option synthInstance.maxHeartbeats 400000
namespace Go.H
open Go.RowKit Go.Sort Go.Shelf Go.Proofs
section
variable {α:Type} [Inhabited α] {enc:α→D0r} {size:Nat} {h:Heap} {R:List Asn}
theorem C1a(ao:∀x,(enc x).length=size)(hsz:0<size)(d:Array α):flatK enc size d=(d.toList.flatMap enc).toArray:=by
 apply Array.ext_getElem?
 intro t
 have hlen:(d.toList.flatMap enc).length=d.size*size:=by rw[y5 ao];simp
 by_cases ht:t<d.size*size
 ·have hq:t / size<d.size:=by rw[Nat.div_lt_iff_lt_mul hsz];exact ht
  have hr:t % size<size:=Nat.mod_lt _ hsz
  have h1:=get_flatK enc size d t ht
  rw[getElem!_pos _ t (by simpa using ht)] at h1
  have hx:d.toList[t / size]? =some d[t / size]:=by simp[hq]
  have hv:(enc d[t / size])[t % size]? =some ((enc d[t / size])[t % size]!):=by
   rw[B0 (by rw[ao];exact hr),getElem!_pos _ _ (by rw[ao];exact hr)]
  have h2:=B6r ao d.toList _ _ hx _ _ hv
  rw[show t / size*size+t % size=t from by rw[Nat.mul_comm];exact Nat.div_add_mod t size] at h2
  rw[F7 (by simpa using ht),h1,List.getElem?_toArray,h2,getElem!_pos d _ hq]
 ·rw[R5 (by simp;omega),List.getElem?_toArray,List.getElem?_eq_none (by omega)]
theorem C5z(ao:∀x,(enc x).length=size)(hsz:0<size)(h1:∀x,∀v∈enc x,v.oneCell'=true){P:Program}{ρ:Ren}(L:SlLaysF0.n6 P ρ)(aE:∀w,(isAgg (ρ.t 24)).run P w=.ok true w)(zE:∀w,(Go.sizeOf (ρ.t 24)).run P w=.ok size w)
  (cf:α→α→Int)(hO:SWO (ltOf cf))(g:Nat)(eg:∀args w,(callFunc g args).run P w=.ok (.enter g args) w)
  (uq:∀x y W,Calls P g #[.agg (enc x).toArray,.agg (enc y).toArray] W fun e w'=>e=.returned (.int .i64 (cf x y))∧∃q os',w'=grow (W.drewN q) os')
  {s:Slc}{xs:List α}(hs:sat h (V1 enc size s xs::R))(hl:xs.length<4611686018427387904){Q:Value→Heap→Prop}
  (hq:∀(ys:List α) h',ys.Perm xs→ys.Pairwise (fun a b=>ltOf cf b a=false)→sat h' (V1 enc size s ys::R)→Q (.tuple #[]) h'):
  V9 P (ρ.f 6) #[.slice s.a s.len s.cap,.func (.func g) #[] #[]] h Q:=fun w hw=>by
 subst hw
 rcases A0T hs with⟨g1,g2,rfl,aa⟩|⟨b,o,cs,ho,aa⟩
 ·have dW:=hs.aW
  rw[G1] at dW
  rw[dW]
  refine(AnyF.slices_SortFunc_none L s.a s.cap _ w).mono ?_
  rintro e w' ⟨rfl,rfl⟩
  exact⟨_,rfl,⟨rfl,rfl,rfl⟩,hq [] w'.heap (J2 _) List.Pairwise.nil hs⟩
 ·have hlen:=ho.len
  have gG:=ho.dO
  have hle:=ho.le
  have hmul:s.len*size≤s.cap*size:=Q8 _ hle
  rw[J8] at gG
  have hF:flatK enc size xs.toArray=(xs.flatMap enc).toArray:=C1a ao hsz _
  have gQ:(xs.flatMap enc).length=s.len*size:=by rw[y5 ao,hlen]
  have hH:HoldsK enc size w b (o*size) xs.toArray:=by
   unfold HoldsK Holds
   rw[hF]
   intro j hj
   have qH:j<s.len*size:=by simpa[gQ] using hj
   refine⟨?_,aa.free _⟩
   have h2:w.cell? ⟨b,o*size+j,none⟩=cs[o*size+j]? :=aa.cell _
   have h3:((cs.toList.drop (o*size)).take (s.len*size))[j]? =cs[o*size+j]? :=by
    rw[J4,if_pos qH,J5]
    simp
   rw[h2,←h3,ho.front,getElem!_pos _ j hj]
   rw[B0 (by simpa using hj)]
   rfl
  have hblk:b<w.heap.size:=aa.fD
  rw[ho.a]
  have cA:(Value.slice (some ⟨b,o*size,none⟩) s.len s.cap)=.slice (some ⟨b,o*size,none⟩) xs.toArray.size s.cap:=by rw[hlen];rfl
  rw[cA]
  refine(AnyQ.slices_SortFunc L size aE zE enc ao h1 cf hO g #[] b (o*size) s.cap xs.toArray w eg (fun m os dk _ x y=>uq x y _) hH hblk (by simpa using hl)).mono ?_
  rintro e w' ⟨rfl,d',n,os,⟨ic,-,nT⟩,nO,rfl⟩
  have dG:d'.toList.Perm xs:=by
   rw[Array.extract_eq_self_of_le (by omega),Array.extract_eq_self_of_le (by omega)] at nT
   exact nT
  refine⟨_,rfl,⟨rfl,rfl,rfl⟩,hq d'.toList _ dG ?_ ?_⟩
  ·rw[List.pairwise_iff_getElem]
   intro i j hi hj oa
   have kE:i<d'.size:=by simpa using hi
   have qH:j<d'.size:=by simpa using hj
   have:=nO i j (C9 _) oa (by omega)
   rw[getElem!_pos d' i kE,getElem!_pos d' j qH] at this
   simpa using this
  ·have yi:flatK enc size d'=(d'.toList.flatMap enc).toArray:=C1a ao hsz _
   have jS:(d'.toList.flatMap enc).length=s.len*size:=by rw[y5 ao,hlen,dG.length_eq]
   obtain⟨T,hb⟩:=A2u.1 aa
   have bu:=hb.get
   have ae:sat (putRowK enc size (Sort.ahead w n) b (o*size) d').heap (blk b (.cells (putCells id (o*size) (flatK enc size d') cs) T (0,0))::R):=by
    refine hb.bJ ?_ fun k hk=>?_
    ·show(w.heap.modify b _)[b]? =_
     rw[O6,if_pos rfl,bu]
     rfl
    ·show(w.heap.modify b _)[k]? =_
     rw[O6,if_neg (fun e=>hk e.symm)]
   have ai:sat (sortWorldK enc size w b (o*size) n d' os).heap (blk b (.cells (putCells id (o*size) (flatK enc size d') cs) T (0,0))::R):=by
    refine ae.grow fun k ob hk=>?_
    show((putRowK enc size (Sort.ahead w n) b (o*size) d').heap++os)[k]? =some ob
    rw[Array.getElem?_append_left (F9.1 hk).1]
    exact hk
   refine A1N (b:=b) (o:=o) ⟨ho.a,ho.le,by rw[hlen,dG.length_eq],?_,?_⟩ (A2u.2 ⟨T,ai⟩)
   ·rw[J8]
    simpa[putCells] using gG
   ·rw[yi]
    apply List.ext_getElem?
    intro j
    by_cases hj:j<s.len*size
    ·rw[J4,if_pos hj,J5,Array.getElem?_toList,putCells,Array.getElem?_mapIdx]
     have ah:o*size+j<cs.size:=by omega
     rw[F7 ah]
     simp only[S0]
     rw[if_pos ⟨by omega,by simp[jS];omega⟩,Nat.add_sub_cancel_left]
     rw[getElem!_pos _ j (by simpa[jS] using hj),B0 (by omega)]
     rfl
    ·rw[J4,if_neg hj,List.getElem?_eq_none (by omega)]
end
end Go.H
namespace Go.Proofs.YtidlldnlphdhcaaGreatDoor
open Go.H
open Go.Proofs.Tryz
open Go.H Go.Proofs Go.Shelf Go.Sort
def C13:Go.Shelf.Ren:=⟨fun n=>match n with|6=>126|15=>123|14=>182|28=>180|29=>181|20=>219|21=>220|22=>221|23=>222|24=>223|25=>224|26=>225|27=>226|46=>253|47=>214|48=>215|49=>254|50=>255|57=>268|n=>n,fun n=>match n with|22=>205|24=>208|25=>267|3=>3|39=>263|0=>0|53=>315|55=>317|4=>4|46=>308|45=>307|50=>180|5=>5|9=>9|66=>343|70=>347|76=>378|77=>361|n=>n,fun n=>n⟩
theorem C8i:SlLaysF0.n6 prog C13 where
 mixed:=by kernel_rfl
 f6:=⟨f126.name,by kernel_rfl,func126.trans (congrArg some (by kernel_rfl))⟩
 f14:=⟨f182.name,by kernel_rfl,func182.trans (congrArg some (by kernel_rfl))⟩
 f15:=func123.trans (congrArg some (by kernel_rfl))
 f20:=⟨Tryz.f219.name,by kernel_rfl,func219.trans (congrArg some (by kernel_rfl))⟩
 f21:=⟨f220.name,by kernel_rfl,func220.trans (congrArg some (by kernel_rfl))⟩
 f22:=⟨Tryz.f221.name,by kernel_rfl,func221.trans (congrArg some (by kernel_rfl))⟩
 f23:=⟨f222.name,by kernel_rfl,func222.trans (congrArg some (by kernel_rfl))⟩
 f24:=⟨f223.name,by kernel_rfl,func223.trans (congrArg some (by kernel_rfl))⟩
 f25:=⟨Tryz.f224.name,by kernel_rfl,func224.trans (congrArg some (by kernel_rfl))⟩
 f26:=⟨Tryz.f225.name,by kernel_rfl,func225.trans (congrArg some (by kernel_rfl))⟩
 f27:=⟨f226.name,by kernel_rfl,func226.trans (congrArg some (by kernel_rfl))⟩
 f28:=func180.trans (congrArg some (by kernel_rfl))
 f29:=func181.trans (congrArg some (by kernel_rfl))
 f46:=⟨f253.name,by kernel_rfl,func253.trans (congrArg some (by kernel_rfl))⟩
 f47:=func214.trans (congrArg some (by kernel_rfl))
 f48:=func215.trans (congrArg some (by kernel_rfl))
 f49:=⟨f254.name,by kernel_rfl,func254.trans (congrArg some (by kernel_rfl))⟩
 f50:=⟨f255.name,by kernel_rfl,func255.trans (congrArg some (by kernel_rfl))⟩
 f57:=⟨Tryz.f268.name,by kernel_rfl,func268.trans (congrArg some (by kernel_rfl))⟩
 t0:=underlying0
 a0:=isAgg0
 z0:=sizeOf0
 v0:=zeroValue0
 t3:=underlying3
 a3:=isAgg3
 z3:=sizeOf3
 v3:=zeroValue3
 t4:=underlying4
 a4:=isAgg4
 z4:=sizeOf4
 v4:=zeroValue4
 t5:=underlying5
 a5:=isAgg5
 z5:=sizeOf5
 v5:=zeroValue5
 t9:=underlying9
 a9:=isAgg9
 z9:=sizeOf9
 v9:=zeroValue9
 t22:=underlying205
 a22:=isAgg205
 z22:=sizeOf205
 v22:=zeroValue205
 t25:=underlying267
 a25:=isAgg267
 z25:=sizeOf267
 v25:=zeroValue267
 t39:=underlying263
 a39:=isAgg263
 z39:=sizeOf263
 v39:=zeroValue263
 t45:=underlying307
 a45:=isAgg307
 z45:=sizeOf307
 v45:=zeroValue307
 t46:=underlying308
 a46:=isAgg308
 z46:=sizeOf308
 v46:=zeroValue308
 t50:=underlying180
 a50:=isAgg180
 z50:=sizeOf180
 v50:=zeroValue180
 t53:=underlying315
 a53:=isAgg315
 z53:=sizeOf315
 v53:=zeroValue315
 t55:=underlying317
 a55:=isAgg317
 z55:=sizeOf317
 v55:=zeroValue317
 t66:=underlying343
 a66:=isAgg343
 z66:=sizeOf343
 v66:=zeroValue343
 t70:=underlying347
 a70:=isAgg347
 z70:=sizeOf347
 v70:=zeroValue347
 t76:=underlying378
 a76:=isAgg378
 z76:=sizeOf378
 v76:=zeroValue378
 t77:=underlying361
 a77:=isAgg361
 z77:=sizeOf361
 v77:=zeroValue361
theorem C23(a b:Int):(Lib.compareInt a b<0↔a<b)∧(Lib.compareInt a b=0↔a=b):=by
 unfold Lib.compareInt
 by_cases h1:a<b
 ·rw[if_pos h1];constructor<;>constructor<;>intro _<;>omega
 ·rw[if_neg h1]
  by_cases h2:b<a
  ·rw[if_pos h2];constructor<;>constructor<;>intro _<;>omega
  ·rw[if_neg h2];constructor<;>constructor<;>intro _<;>omega
theorem C3V:∀(a b:List UInt8),Lib.compareBytes a b<0↔a<b
 |[],[]=>by simp[Lib.compareBytes]
 |[],b::l=>by simp[Lib.compareBytes]
 |a::l,[]=>by simp[Lib.compareBytes]
 |a::l,b::m=>by
  unfold Lib.compareBytes
  rw[List.cons_lt_cons_iff]
  by_cases h1:a<b
  ·simp[h1]
  ·rw[if_neg h1]
   by_cases h2:b<a
   ·rw[if_pos h2]
    have:a≠b:=fun e=>by subst e;exact h1 h2
    simp[h1,this]
   ·rw[if_neg h2]
    have e:a=b:=by
     apply UInt8.toNat_inj.1
     have h3:¬a.toNat<b.toNat:=fun h=>h1 (UInt8.lt_iff_toNat_lt.2 h)
     have h4:¬b.toNat<a.toNat:=fun h=>h2 (UInt8.lt_iff_toNat_lt.2 h)
     omega
    rw[C3V l m]
    simp[h1,e]
theorem B5a(x y:Ent):ltOf C47 x y=decide (ltK (j3 x) (j3 y)):=by
 unfold ltOf
 rw[F8]
 unfold C47 ltK
 have h1:=C23 x.1 y.1
 by_cases h0:Lib.compareInt x.1 y.1=0
 ·rw[if_pos h0,C3V]
  have e:=h1.2.1 h0
  constructor
  ·intro h;exact .inr ⟨e,h⟩
  ·rintro(h|⟨_,h⟩)
   ·simp only at h;omega
   ·exact h
 ·rw[if_neg h0,h1.1]
  constructor
  ·intro h;exact .inl h
  ·rintro(h|⟨e,_⟩)
   ·exact h
   ·exact absurd (h1.2.2 e) h0
theorem D0c:SWO (ltOf C47) where
 irrefl x:=by rw[B5a];simpa using A99.eG _
 trans x y z h1 h2:=by
  rw[B5a,decide_eq_true_eq] at*
  exact A99.trans h1 h2
 ntrans x y z h1 h2:=by
  rw[B5a,decide_eq_false_iff_not] at*
  intro h3
  rcases A99.fT (j3 x) (j3 y) with e|e|e
  ·rw[e] at h3;exact h2 h3
  ·exact h1 e
  ·rcases A99.fT (j3 y) (j3 z) with e'|e'|e'
   ·rw[e'] at e;exact A99.eG _ (A99.trans e h3)
   ·exact h2 e'
   ·exact A99.eG _ (A99.trans (A99.trans e' e) h3)
instance:Inhabited Ent:=⟨(0,ByteArray.mk #[],0)⟩
theorem B7i{h:Heap}{R:List Asn}{s:Slc}{es:List Ent}(hs:sat h (V1 b6 3 s es::R))(hl:es.length≤100000){Q:Value→Heap→Prop}
  (hq:∀(ys:List Ent) h',ys.Perm es→ys.Pairwise (fun a b=>¬ltK (j3 b) (j3 a))→sat h' (V1 b6 3 s ys::R)→Q (.tuple #[]) h'):
  V9 prog 126 #[.slice s.a s.len s.cap,.func (.func 127) #[] #[]] h Q:=
 C5z A0U (by decide) A34 C8i isAgg208 sizeOf208 C47 D0c 127 (enters_of func127 (by kernel_rfl) rfl) (fun x y W=>C8s x y W) hs (by omega) fun ys h' hp xj af=>
  hq ys h' hp (xj.imp fun{a b} dg=>by rw[B5a,decide_eq_false_iff_not] at dg;exact dg) af
section
open Go.H Go.Proofs
variable {h h0:Heap} {R:List Asn}
def j5(t:Nat)(L:List Ent):Asn:=exA fun x:Nds×List (Int×Int)=>star (pr (A1e x.1 L∧B0J x.2 L)) (trM t x.1 x.2)
theorem A0e{t:Nat}{L:List Ent}:sat h (j5 t L::R)↔∃N C,A1e N L∧B0J C L∧sat h (trM t N C::R):=by
 unfold j5
 rw[sat.aZ]
 constructor
 ·rintro⟨⟨N,C⟩,hs⟩
  rw[sat.aI,sat.bB] at hs
  exact⟨N,C,hs.1.1,hs.1.2,hs.2⟩
 ·rintro⟨N,C,h1,h2,hs⟩
  refine⟨(N,C),?_⟩
  rw[sat.aI,sat.bB]
  exact⟨⟨h1,h2⟩,hs⟩
theorem B63(L:List Ent)(k:Int):A1i L k≤L.length:=by
 unfold A1i
 have:=List.count_le_length (a:=k) (l:=L.map (·.1))
 simpa using this
theorem C4b(hs:sat h R){Q:Value→Heap→Prop}(hq:∀t h',sat h' (j5 t []::R)→Q (at9 t) h'):V9 prog 28 #[] h Q:=by
 refine B98 hs fun t nd h' h1 h2 af=>hq t h' (A0e.2 ⟨_,_,⟨by simp,List.Pairwise.nil,?_⟩,?_,af⟩)
 ·intro p k q
  constructor
  ·intro he
   exfalso
   unfold ent at he
   rw[Z4,B54] at he
   by_cases e:([]:Path)=p
   ·rw[if_pos e] at he
    rw[N8,h1] at he
    simp at he
   ·rw[if_neg e] at he
    simp at he
  ·rintro⟨f,-,hm⟩
   simp at hm
 ·intro k
  simp[A1i]
theorem C4d{t:Nat}{L:List Ent}(ht:TP h0){id q:Int}{f:B4p}(hsz:f.size≤9223372036854775807)(hl:L.length≤100000)(hs:sat h (j5 t L::old h0::R)){Q:Value→Heap→Prop}
  (al:Y2 f=false→∀h',sat h' (j5 t L::old h0::R)→Q (.int .u8 143) h')
  (fy:Y2 f=true→(q<0∨2<q)→∀h',sat h' (j5 t L::old h0::R)→Q (.int .u8 155) h')
  (eZ:Y2 f=true→0≤q→q≤2→∀i x,L[i]? =some x→j3 x=(id,f)→∀h',sat h' (j5 t (L.set i (id,f,q))::old h0::R)→Q (.int .u8 0) h')
  (ax:Y2 f=true→0≤q→q≤2→(∀x∈L,j3 x≠(id,f))→64≤A1i L id→∀h',sat h' (j5 t L::old h0::R)→Q (.int .u8 151) h')
  (jl:Y2 f=true→0≤q→q≤2→(∀x∈L,j3 x≠(id,f))→A1i L id<64→∀h',sat h' (j5 t (A2z ltK j3 (id,f,q) L)::old h0::R)→Q (.int .u8 0) h'):
  V9 prog 109 #[at9 t,C5p id f q] h Q:=by
 obtain⟨N,C,hA,hC,aa⟩:=A0e.1 hs
 have hg:=hC.getD id
 refine C69 ht hsz aa (fun h1 h' af=>al h1 h' (A0e.2 ⟨N,C,hA,hC,af⟩)) (fun h1 h2 h' af=>fy h1 h2 h' (A0e.2 ⟨N,C,hA,hC,af⟩)) (fun h1 h2 h3 q0 h4 N' h' h5 af=>?_)
  (fun h1 h2 h3 h4 h5 h' af=>ax h1 h2 h3 ((hA.none f id).1 h4) (by rw[hg] at h5;omega) h' (A0e.2 ⟨N,C,hA,hC,af⟩)) (fun h1 h2 h3 h4 h5 N' h' h6 af=>?_)
 ·have hm:=(hA.get f id q0).1 h4
  obtain⟨i,hi⟩:=List.mem_iff_getElem?.1 hm
  refine eZ h1 h2 h3 i _ hi rfl h' (A0e.2 ⟨N',C,hA.set hi rfl h1 h5,fun k=>?_,af⟩)
  rw[C6H (A7E (e:=(id,f,q)) hi rfl)]
  exact hC k
 ·have ay:=(hA.none f id).1 h4
  rw[hg] at h5 af
  rw[W6 (by have:=B63 L id;omega) (by have:=B63 L id;omega)] at af
  exact jl h1 h2 h3 ay (by omega) h' (A0e.2 ⟨N',_,hA.ins ay h1 h6,hC.ins (id,f,q),af⟩)
theorem B47{t:Nat}{N:Nds}{C:List (Int×Int)}(hs:sat h (trM t N C::R)):(C.map (·.1)).Nodup∧∀p nd,X0 N p=some nd→(nd.q.map (·.1)).Nodup∧(nd.nx.map (·.1)).Nodup:=by
 obtain⟨rb,cm,hT,aa⟩:=A1M.1 hs
 exact⟨aa.p2.bK,fun p nd hp=>A7c hp aa.p1⟩
theorem B1y{t:Nat}{L:List Ent}(ht:TP h0){id:Int}{f:B4p}(hsz:f.size≤16777216)(hl:L.length≤100000)(hs:sat h (j5 t L::old h0::R)){Q:Value→Heap→Prop}
  (hq:∀h',sat h' (j5 t (A1S L id f)::old h0::R)→Q (.bool (decide ((A1S L id f).length<L.length))) h'):
  V9 prog 111 #[at9 t,.int .i64 id,.string f] h Q:=by
 obtain⟨N,C,hA,hC,aa⟩:=A0e.1 hs
 have hg:=hC.getD id
 refine C1J ht hsz aa (fun hn h' af=>?_) (fun q0 i' N' h' hN af=>?_)
 ·have ay:=(hA.none f id).1 hn
  have e:=C4Z ay
  rw[e] at hq
  have:=hq h' (A0e.2 ⟨N,C,hA,hC,af⟩)
  simpa using this
 ·have hm:=(hA.get f id q0).1 i'
  have ah:(A1S L id f).length<L.length:=by
   have:=B90 hA.dE hm id
   rw[if_pos rfl] at this
   refine Nat.lt_of_le_of_ne (D2 _ _) fun e=>?_
   have:=N9.1 e _ hm
   simp at this
  have yj:=hC.del hA.dE (B47 aa).1 hm
  rw[hg] at af
  rw[W6 (by have:=B63 L id;omega) (by have:=B63 L id;omega)] at af
  have:=hq h' (A0e.2 ⟨N',_,hA.del hN,yj,af⟩)
  rw[decide_eq_true ah] at this
  exact this
end
section
open Go.H Go.Proofs Go.Lib
variable {h h0:Heap} {R:List Asn}
theorem B7o{s t:Slc}{xs ys:List B4p}(hr:e8 eS 1 h s xs)(ht:e8 eS 1 h t ys)(hl:xs.length≤1000000){Q:Value→Heap→Prop}(hq:Q (.bool (eqL xs ys)) h):
  V9 prog 37 #[.slice s.a s.len s.cap,.slice t.a t.len t.cap,.func (.func 38) #[] #[]] h Q:=by
 refine A7D s t _ h Q ?_
 delta A6T bn ie ix lt pu wi
 have rT:=hr.1
 have ah:=ht.1
 (try dsimp only);rw[V4]
 by_cases bS:xs.length=ys.length
 ·rw[if_neg (by simp[rT,ah,bS])]
  (try dsimp only);rw[U7]
  refine o7 (γ:=Nat) (fun g c h'=>h'=h∧c.1=(((xs.length-g:Nat)):Int)∧g≤xs.length∧eqL xs ys=eqL (xs.drop (xs.length-g)) (ys.drop (xs.length-g))) (fun g=>g) xs.length ⟨rfl,by simp,D9 _,by simp⟩ ?_
  rintro g ⟨c,⟨⟩⟩ h' ⟨rfl,hc,hg,hf⟩
  simp only at hc
  subst hc
  (try dsimp only);rw[V4]
  by_cases hi:xs.length-g<xs.length
  ·rw[if_pos (by simp only[decide_eq_true_eq,rT];omega)]
   obtain⟨x,hx⟩:∃x,xs[xs.length-g]? =some x:=⟨_,B0 hi⟩
   obtain⟨y,hy⟩:∃y,ys[xs.length-g]? =some y:=⟨_,B0 (by omega)⟩
   rw[A7j hx,A7j hy] at hf
   (try dsimp only);rw[U7]
   refine Y0 hr hx fun a ha=>?_
   refine⟨x,by have:=ha 0 (.string x) rfl;rwa[Go.H.add_zero] at this,?_⟩
   (try dsimp only);rw[U7]
   refine Y0 ht hy fun a' jm=>?_
   refine⟨y,by have:=jm 0 (.string y) rfl;rwa[Go.H.add_zero] at this,?_⟩
   refine⟨38,#[],#[],rfl,call38,?_⟩
   refine A8Y x y h' _ ?_
   delta A8Z bn ie pu
   have fin:∀z:Bool,z=(decide (x=v8)||decide (x=y))→(if(!z)=true then Q (.bool false) h' else Go.H.Next (fun g (c:Int×Unit) aY=>aY=h'∧c.1=(((xs.length-g:Nat)):Int)∧g≤xs.length∧eqL xs ys=eqL (xs.drop (xs.length-g)) (ys.drop (xs.length-g))) (fun g=>g) g (IntKind.wrap .i64 ((((xs.length-g:Nat)):Int)+1),()) h'):=by
    rintro z rfl
    simp only[eqL] at hf
    have aA:xs.length-g+1=xs.length-(g-1):=by omega
    rw[aA] at hf
    cases hz:(decide (x=v8)||decide (x=y)) with
    |false=>
     rw[hz,K8] at hf
     rw[hf] at hq
     rw[if_pos (by rfl)]
     exact hq
    |true=>
     rw[hz,G5] at hf
     rw[if_neg (by simp)]
     exact .mk (g-1) (by omega) ⟨rfl,by simp only;rw[W6 (by omega) (by omega)];omega,by omega,hf⟩
   refine W0 (fun z aY=>aY=h'∧z.1=(decide (x=v8)||decide (x=y))) ?_ ?_
   ·(try dsimp only);rw[V4]
    by_cases h1:x=v8
    ·rw[if_pos (by simpa[v8] using h1)]
     exact⟨rfl,by simp[h1]⟩
    ·rw[if_neg (by simpa[v8] using h1)]
     exact⟨rfl,by simp[h1]⟩
   rintro⟨z,⟨⟩⟩ aY ⟨rfl,hz⟩
   refine⟨z,rfl,?_⟩
   have bC:=fin z hz
   (try dsimp only);rw[V4]
   by_cases uL:(!z)=true
   ·rw[if_pos uL] at bC⊢
    exact bC
   ·rw[if_neg uL] at bC⊢
    exact bC
  ·rw[if_neg (by simp only[decide_eq_true_eq,rT];omega)]
   simp only[D5,E4,V8]
   have h1:xs.drop (xs.length-g)=[]:=by simp;omega
   have h2:ys.drop (xs.length-g)=[]:=by simp;omega
   rw[h1,h2] at hf
   rw[hf] at hq
   exact hq
 ·have om:∀(xs ys:List B4p),xs.length≠ys.length→eqL xs ys=false:=by
   intro xs
   induction xs with
   |nil=>intro ys hh;cases ys with
    |nil=>exact absurd rfl hh
    |cons=>rfl
   |cons x xs ih=>intro ys hh;cases ys with
    |nil=>rfl
    |cons y ys=>simp only[eqL,ih ys (by simpa using hh),Bool.and_false]
  rw[om xs ys bS] at hq
  rw[if_pos (by simp[rT,ah];omega)]
  exact hq
theorem A8i(b c:UInt8):((b.toNat:Int)==(c.toNat:Int))=decide (b=c):=by
 by_cases h:b=c
 ·simp[h]
 ·rw[decide_eq_false h]
  simp only[H9,ne_eq]
  intro e
  exact h (UInt8.toNat_inj.1 (by omega))
theorem C3e(hs:sat h (old h0::R))(ht:TP h0){f n:B4p}(oY:f.size≤9223372036854775807)(rS:n.size≤9223372036854775807){Q:Value→Heap→Prop}
  (hq:∀h',sat h' (old h0::R)→Q (.bool (Z8 f n)) h'):V9 prog 14 #[.string f,.string n] h Q:=by
 refine B1v f n h Q ?_
 delta B3V bn cb cc cu ie ix lt pu vs wi
 refine W0 (fun x h'=>sat h' (old h0::R)∧x.1= !(Y2 f&&a8 n)) ?_ ?_
 ·refine V3 (A7w hs ht oY fun h1 aa=>⟨_,rfl,?_⟩)
  unfold B0E
  (try dsimp only);rw[V4]
  cases hf:Y2 f with
  |false=>rw[if_pos (by rfl)];exact⟨aa,rfl⟩
  |true=>
   rw[if_neg (by simp)]
   refine V3 (A3A aa ht rS fun h2 ae=>⟨_,rfl,?_⟩)
   unfold A2X
   cases hn:a8 n<;>exact⟨ae,rfl⟩
 rintro⟨x,⟨⟩⟩ h1 ⟨aa,hx⟩
 simp only at hx
 subst hx
 unfold Z8 at hq
 (try dsimp only);rw[V4]
 cases ag:(Y2 f&&a8 n) with
 |false=>
  rw[ag] at hq
  rw[if_pos (by rfl)]
  exact hq _ aa
 |true=>
 rw[ag,G5] at hq
 rw[if_neg (by simp)]
 rw[E8] at ag
 have jv:=A1a.1 (A0o ag.1)
 have dD:=A1a.1 (A4R ag.2)
 have xH:A4o (levels f)=true:=by
  have:=ag.1
  unfold Y2 at this
  rw[E8] at this
  exact this.2
 refine W0 (fun x h'=>h'=h1∧x.1=A35 f n) ?_ ?_
 ·unfold A35
  refine⟨n.get! 0,by decide,A3t (k:=0) (by omega),?_⟩
  (try dsimp only);rw[V4]
  have wo:=A8i (n.get! 0) 36
  by_cases kl:n.get! 0=36
  ·rw[if_pos (by rw[show(36:Int)=((36:UInt8).toNat:Int) from rfl,wo,kl];rfl)]
   refine⟨0,1,⟨rfl,by omega⟩,rfl,?_⟩
   (try dsimp only);rw[V4]
   by_cases ew:f.get! 0=43
   ·rw[if_pos (by simpa using(B3E jv.2.1 43).2 ew)]
    exact⟨rfl,by simp[kl,ew]⟩
   ·rw[if_neg (by simpa using fun e=>ew ((B3E jv.2.1 43).1 e))]
    refine⟨0,1,⟨rfl,by omega⟩,rfl,rfl,?_⟩
    have yp:decide (f.extract 0 1=ByteArray.mk #[35])=decide (f.get! 0=35):=by rw[F8];exact B3E jv.2.1 35
    simp only[kl,ew,decide_true,decide_false,G5,S9]
    exact yp
  ·rw[if_neg (by rw[show(36:Int)=((36:UInt8).toNat:Int) from rfl,wo];simpa using kl)]
   exact⟨rfl,by simp[kl]⟩
 rintro⟨x,⟨⟩⟩ h2 ⟨rfl,hx⟩
 simp only at hx
 subst hx
 (try dsimp only);rw[V4]
 cases iO:A35 f n with
 |true=>
  rw[iO] at hq
  rw[if_pos rfl]
  exact hq _ aa
 |false=>
 rw[iO,T7,G5,B57 _ _ (B3p f) xH] at hq
 rw[if_neg (by simp)]
 refine V3 (A4x aa ht jv.2.2.1 fun sf h3 ai=>⟨sf,rfl,?_⟩)
 refine V3 (A4x ai.p1 ht dD.2.2.1 fun sn h4 ak=>⟨sn,rfl,?_⟩)
 have qg:=ak.aN A0Y
 have nS:=(ak.re [2,0,1]).aN A0Y
 have aj:sat h4 (old h0::R):=(ak.re [0,2,1]).drop.drop
 have vC:(levels f).length≤32:=jv.2.2.2
 have ke:(levels n).length≤32:=dD.2.2.2
 have bS:1≤(levels f).length:=by
  have:=A7S f
  omega
 clear ak ai
 generalize levels f=lf at*
 generalize levels n=ln at*
 have fe:=nS.1
 have en:=qg.1
 have hw:IntKind.wrap .i64 ((sf.len:Int)-1)=((lf.length-1:Nat):Int):=by rw[fe,W6 (by omega) (by omega)];omega
 rw[hw]
 obtain⟨x,hx⟩:∃x,lf[lf.length-1]? =some x:=⟨_,B0 (by omega)⟩
 have df:B3Q lf=decide (x=q8):=by unfold B3Q;rw[hx];simp
 (try dsimp only);rw[U7]
 refine Y0 nS hx fun a ha=>?_
 refine⟨x,by have:=ha 0 (.string x) rfl;rwa[Go.H.add_zero] at this,?_⟩
 refine W0 (fun x h'=>h'=h4∧e8 eS 1 h4 x.1 (A7n lf)) ?_ ?_
 ·unfold A7n
  (try dsimp only);rw[V4]
  by_cases hh:x=q8
  ·rw[if_pos (by simpa[q8] using hh),if_pos (by rw[df];simpa using hh)]
   (try dsimp only);rw[U7]
   exact B2Z nS (by omega) fun s' af=>⟨rfl,af⟩
  ·rw[if_neg (by simpa[q8] using hh),if_neg (by rw[df];simpa using hh)]
   exact⟨rfl,nS⟩
 rintro⟨sc,⟨⟩⟩ h5 ⟨rfl,tv⟩
 simp only at tv
 have lz:=tv.1
 have bg:(A7n lf).length≤32:=by
  unfold A7n
  split
  ·simp;omega
  ·exact vC
 refine W0 (fun x h'=>h'=h5∧x.1=decide (ln.length<(A7n lf).length∨(B3Q lf=false∧(A7n lf).length<ln.length))) ?_ ?_
 ·(try dsimp only);rw[V4]
  by_cases hh:ln.length<(A7n lf).length
  ·rw[if_pos (by simp only[decide_eq_true_eq];omega)]
   exact⟨rfl,by simp[hh]⟩
  ·rw[if_neg (by simp only[decide_eq_true_eq];omega)]
   (try dsimp only);rw[V4]
   by_cases lg:x=q8
   ·rw[if_neg (by simpa[q8] using lg)]
    exact⟨rfl,by simp[hh,df,lg]⟩
   ·rw[if_pos (by simpa[q8] using lg)]
    refine⟨rfl,?_⟩
    simp only[F8,df,lg,decide_false,true_and]
    omega
 rintro⟨y,⟨⟩⟩ h6 ⟨rfl,hy⟩
 simp only at hy
 subst hy
 unfold B9w at hq
 (try dsimp only);rw[V4]
 by_cases hc:ln.length<(A7n lf).length∨(B3Q lf=false∧(A7n lf).length<ln.length)
 ·rw[if_pos hc] at hq
  rw[if_pos (by simpa using hc)]
  exact hq _ aj
 ·rw[if_neg hc] at hq
  rw[if_neg (by simpa using hc)]
  (try dsimp only);rw[U7]
  refine B2Z (n:=sc.len) qg (by omega) fun s' af=>?_
  rw[lz] at af
  (try dsimp only)
  refine V3 (B7o tv af (by omega) ⟨_,rfl,?_⟩)
  exact hq _ aj
end
section
open Go.Proofs Go.Shelf
def A81:Go.Shelf.Ren:=⟨fun n=>match n with|6=>84|8=>130|9=>131|11=>187|13=>123|12=>188|23=>180|24=>181|14=>229|15=>230|16=>231|17=>232|18=>233|19=>234|20=>235|21=>236|22=>237|25=>260|26=>214|27=>215|28=>261|29=>262|30=>263|31=>271|n=>n,fun n=>match n with|26=>9|28=>216|24=>43|0=>0|3=>3|37=>263|48=>315|50=>317|4=>4|40=>308|39=>307|45=>180|5=>5|9=>9|51=>343|55=>347|57=>378|58=>361|33=>107|n=>n,fun n=>n⟩
theorem C3o:SlLaysZ.n6 prog A81 where
 mixed:=by kernel_rfl
 f6:=⟨f84.name,by kernel_rfl,func84.trans (congrArg some (by kernel_rfl))⟩
 f8:=⟨f130.name,by kernel_rfl,func130.trans (congrArg some (by kernel_rfl))⟩
 f11:=⟨f187.name,by kernel_rfl,func187.trans (congrArg some (by kernel_rfl))⟩
 t0:=underlying0
 a0:=isAgg0
 z0:=sizeOf0
 v0:=zeroValue0
 t24:=underlying43
 a24:=isAgg43
 z24:=sizeOf43
 v24:=zeroValue43
 t26:=underlying9
 a26:=isAgg9
 z26:=sizeOf9
 v26:=zeroValue9
 t28:=underlying216
 a28:=isAgg216
 z28:=sizeOf216
 v28:=zeroValue216
 i26:=by kernel_rfl
def B0O:Go.Shelf.Ren:=⟨fun n=>match n with|6=>131|8=>123|9=>188|19=>180|20=>181|21=>229|22=>230|23=>231|24=>232|25=>233|26=>234|27=>235|28=>236|29=>237|36=>260|31=>214|32=>215|37=>261|38=>262|39=>263|41=>271|n=>n,fun n=>match n with|27=>43|29=>9|3=>3|32=>263|26=>43|0=>0|44=>315|46=>317|4=>4|36=>308|35=>307|41=>180|5=>5|9=>9|53=>343|57=>347|63=>378|64=>361|n=>n,fun n=>n⟩
theorem C5A:SlLaysM.n6 prog B0O where
 mixed:=by kernel_rfl
 f6:=⟨f131.name,by kernel_rfl,func131.trans (congrArg some (by kernel_rfl))⟩
 f8:=func123.trans (congrArg some (by kernel_rfl))
 f9:=⟨f188.name,by kernel_rfl,func188.trans (congrArg some (by kernel_rfl))⟩
 f19:=func180.trans (congrArg some (by kernel_rfl))
 f20:=func181.trans (congrArg some (by kernel_rfl))
 f21:=⟨f229.name,by kernel_rfl,func229.trans (congrArg some (by kernel_rfl))⟩
 f22:=⟨f230.name,by kernel_rfl,func230.trans (congrArg some (by kernel_rfl))⟩
 f23:=⟨f231.name,by kernel_rfl,func231.trans (congrArg some (by kernel_rfl))⟩
 f24:=⟨f232.name,by kernel_rfl,func232.trans (congrArg some (by kernel_rfl))⟩
 f25:=⟨f233.name,by kernel_rfl,func233.trans (congrArg some (by kernel_rfl))⟩
 f26:=⟨f234.name,by kernel_rfl,func234.trans (congrArg some (by kernel_rfl))⟩
 f27:=⟨f235.name,by kernel_rfl,func235.trans (congrArg some (by kernel_rfl))⟩
 f28:=⟨f236.name,by kernel_rfl,func236.trans (congrArg some (by kernel_rfl))⟩
 f29:=⟨f237.name,by kernel_rfl,func237.trans (congrArg some (by kernel_rfl))⟩
 f31:=func214.trans (congrArg some (by kernel_rfl))
 f32:=func215.trans (congrArg some (by kernel_rfl))
 f36:=⟨Tryz.f260.name,by kernel_rfl,func260.trans (congrArg some (by kernel_rfl))⟩
 f37:=⟨f261.name,by kernel_rfl,func261.trans (congrArg some (by kernel_rfl))⟩
 f38:=⟨f262.name,by kernel_rfl,func262.trans (congrArg some (by kernel_rfl))⟩
 f39:=⟨f263.name,by kernel_rfl,func263.trans (congrArg some (by kernel_rfl))⟩
 f41:=⟨f271.name,by kernel_rfl,func271.trans (congrArg some (by kernel_rfl))⟩
 t0:=underlying0
 a0:=isAgg0
 z0:=sizeOf0
 v0:=zeroValue0
 t3:=underlying3
 a3:=isAgg3
 z3:=sizeOf3
 v3:=zeroValue3
 t4:=underlying4
 a4:=isAgg4
 z4:=sizeOf4
 v4:=zeroValue4
 t5:=underlying5
 a5:=isAgg5
 z5:=sizeOf5
 v5:=zeroValue5
 t9:=underlying9
 a9:=isAgg9
 z9:=sizeOf9
 v9:=zeroValue9
 t26:=underlying43
 a26:=isAgg43
 z26:=sizeOf43
 v26:=zeroValue43
 t27:=underlying43
 a27:=isAgg43
 z27:=sizeOf43
 v27:=zeroValue43
 t29:=underlying9
 a29:=isAgg9
 z29:=sizeOf9
 v29:=zeroValue9
 t32:=underlying263
 a32:=isAgg263
 z32:=sizeOf263
 v32:=zeroValue263
 t35:=underlying307
 a35:=isAgg307
 z35:=sizeOf307
 v35:=zeroValue307
 t36:=underlying308
 a36:=isAgg308
 z36:=sizeOf308
 v36:=zeroValue308
 t41:=underlying180
 a41:=isAgg180
 z41:=sizeOf180
 v41:=zeroValue180
 t44:=underlying315
 a44:=isAgg315
 z44:=sizeOf315
 v44:=zeroValue315
 t46:=underlying317
 a46:=isAgg317
 z46:=sizeOf317
 v46:=zeroValue317
 t53:=underlying343
 a53:=isAgg343
 z53:=sizeOf343
 v53:=zeroValue343
 t57:=underlying347
 a57:=isAgg347
 z57:=sizeOf347
 v57:=zeroValue347
 t63:=underlying378
 a63:=isAgg378
 z63:=sizeOf378
 v63:=zeroValue378
 t64:=underlying361
 a64:=isAgg361
 z64:=sizeOf361
 v64:=zeroValue361
open Go.Proofs Go.Shelf
def A7V:Go.Shelf.Ren:=⟨fun n=>match n with|7=>165|10=>212|n=>n,fun n=>match n with|23=>177|26=>9|3=>204|28=>216|0=>0|27=>215|33=>107|4=>4|n=>n,fun n=>n⟩
theorem C6d:SlLaysZ.n7 prog A7V where
 mixed:=by kernel_rfl
 f7:=⟨Tryz.f165.name,by kernel_rfl,func165.trans (congrArg some (by kernel_rfl))⟩
 f10:=⟨f212.name,by kernel_rfl,func212.trans (congrArg some (by kernel_rfl))⟩
 t0:=underlying0
 a0:=isAgg0
 z0:=sizeOf0
 v0:=zeroValue0
 t4:=underlying4
 a4:=isAgg4
 z4:=sizeOf4
 v4:=zeroValue4
 t23:=underlying177
 a23:=isAgg177
 z23:=sizeOf177
 v23:=zeroValue177
 t26:=underlying9
 a26:=isAgg9
 z26:=sizeOf9
 v26:=zeroValue9
 t27:=underlying215
 a27:=isAgg215
 z27:=sizeOf215
 v27:=zeroValue215
 t28:=underlying216
 a28:=isAgg216
 z28:=sizeOf216
 v28:=zeroValue216
 t33:=underlying107
 a33:=isAgg107
 z33:=sizeOf107
 v33:=zeroValue107
open Go.H Go.Proofs Go.Lib
abbrev B14(b:Nat):Value:=.pointer (some ⟨b,0,none⟩)
abbrev l7:=B4p×B4p×Int×Unit
abbrev kM:Kind:=.agg [.str,.str,.int .i64]
abbrev vM(m:l7):Value:=.agg #[.string m.1,.string m.2.1,.int .i64 m.2.2.1]
abbrev A0q(m:l7):D0r:=[.string m.1,.string m.2.1,.int .i64 m.2.2.1]
abbrev eKS(s:B4p):Value:=.string s
def zM:l7:=(ByteArray.mk #[],ByteArray.mk #[],0,())
theorem A3X:∀x:l7,(A0q x).length=3:=fun _=>rfl
theorem A8d:∀x:l7,∀v∈A0q x,v.oneCell'=true:=fun x v hv=>by
 simp only[A0q,D3,R2,or_false] at hv
 rcases hv with rfl|rfl|rfl<;>rfl
theorem C7x:∀a b:B4p,eKS a=eKS b→a=b:=fun a b h=>by cases h;rfl
def B7t(b:Nat)(most:Int)(l:List (B4p×l7)):Asn:=exA fun m:Nat=>star (cells b #[.int .i64 most,.map (some m)]) (mapA eKS (Kind.val kM) m l)
variable {h h0:Heap} {R:List Asn}
theorem A5b{b:Nat}{most:Int}{l:List (B4p×l7)}:sat h (B7t b most l::R)↔∃m:Nat,sat h (cells b #[.int .i64 most,.map (some m)]::mapA eKS (Kind.val kM) m l::R):=by
 unfold B7t
 rw[sat.aZ]
 constructor
 ·rintro⟨m,hs⟩;exact⟨m,sat.aI.1 hs⟩
 ·rintro⟨m,hs⟩;exact⟨m,sat.aI.2 hs⟩
def B9t(n:Int):Int:=if 0<(if 64<n then 64 else n) then(if 64<n then 64 else n) else 0
theorem C0q(hs:sat h R)(n:Int){Q:Value→Heap→Prop}(hq:∀b h',sat h' (B7t b (B9t n) []::R)→Q (B14 b) h'):V9 prog 29 #[.int .i64 n] h Q:=by
 refine B23 n h Q ?_
 delta B5z az bn nw pu vi
 (try dsimp only);rw[U7]
 refine A57 (ek:=eKS) (ev:=Kind.val kM) hs fun m h1 aa=>?_
 refine W5 aa fun b h2 ae=>?_
 exact hq b h2 (A5b.2 ⟨m,ae⟩)
def C4j(most:Int)(l:List (B4p×l7))(m:l7):Int×List (B4p×l7):=
 if a8 m.1=false then(144,l)
 else if m.2.2.1<0∨2<m.2.2.1 then(155,l)
 else if m.2.1=ByteArray.mk #[] then(0,mdel l m.1)
 else if X0 l m.1=none∧most≤l.length then(151,l)
 else(0,mset l m.1 m)
theorem C6Y{b:Nat}{most:Int}{l:List (B4p×l7)}{m:l7}(hs:sat h (B7t b most l::old h0::R))(ht:TP h0)(hsz:m.1.size≤9223372036854775807){Q:Value→Heap→Prop}
  (hq:∀h',sat h' (B7t b most (C4j most l m).2::old h0::R)→Q (.int .u8 (C4j most l m).1) h'):V9 prog 79 #[B14 b,vM m] h Q:=by
 refine A7K (some ⟨b,0,none⟩) m h Q ?_
 obtain⟨mb,hs⟩:=A5b.1 hs
 delta A60 az bn cu es ie ji jt ki km nn nw pu rq sn ve vi
 refine W5 hs fun x h1 aa=>?_
 (try dsimp only);rw[V4,if_neg (by simp)]
 refine⟨m.1,by rw[V0];exact aa.cell 0,?_⟩
 refine V3 (A3A (aa.re [3,0,1,2]) ht hsz fun h2 ba=>⟨_,rfl,?_⟩)
 have ae:sat h2 (cells x #[.string m.1,.string m.2.1,.int .i64 m.2.2.1]::cells b #[.int .i64 most,.map (some mb)]::mapA eKS (Kind.val kM) mb l::old h0::R):=ba.re [1,2,3,0]
 clear ba aa hs
 have fin:∀{h'},sat h' (cells x #[.string m.1,.string m.2.1,.int .i64 m.2.2.1]::cells b #[.int .i64 most,.map (some mb)]::mapA eKS (Kind.val kM) mb l::old h0::R)→sat h' (B7t b most l::old h0::R):=fun hh=>A5b.2 ⟨mb,hh.drop⟩
 unfold C4j at hq
 (try dsimp only);rw[V4]
 cases hn:a8 m.1 with
 |false=>
  rw[if_pos hn] at hq
  rw[if_pos (by simp[A2X,hn])]
  exact hq _ (fin ae)
 |true=>
 rw[if_neg (by simp[hn])] at hq
 rw[if_neg (by simp[A2X,hn])]
 refine W0 (fun z h'=>h'=h2∧z.1=decide (m.2.2.1<0∨2<m.2.2.1)) ?_ ?_
 ·refine⟨m.2.2.1,by rw[V0];exact ae.cell 2,?_⟩
  (try dsimp only);rw[V4]
  by_cases h1:m.2.2.1<0
  ·rw[if_pos (by simpa using h1)]
   exact⟨rfl,by simp[h1]⟩
  ·rw[if_neg (by simpa using h1)]
   refine⟨m.2.2.1,by rw[V0];exact ae.cell 2,rfl,?_⟩
   simp[h1]
 rintro⟨z,⟨⟩⟩ h3 ⟨rfl,hz⟩
 simp only at hz
 subst hz
 (try dsimp only);rw[V4]
 by_cases dZ:m.2.2.1<0∨2<m.2.2.1
 ·rw[if_pos dZ] at hq
  rw[if_pos (by simpa using dZ)]
  exact hq _ (fin ae)
 rw[if_neg dZ] at hq
 rw[if_neg (by simpa using dZ)]
 refine⟨m.2.1,by rw[V0];exact ae.cell 1,?_⟩
 (try dsimp only);rw[V4]
 by_cases hp:m.2.1=ByteArray.mk #[]
 ·rw[if_pos hp] at hq
  rw[if_pos (by simpa using hp)]
  refine⟨_,rfl,some mb,by rw[V0];exact ae.p1.cell 1,?_⟩
  refine⟨m.1,by rw[V0];exact ae.cell 0,?_⟩
  (try dsimp only);rw[U7]
  refine A6l A9L (ae.re [2,0,1]) fun h4 ak=>?_
  exact hq _ (A5b.2 ⟨mb,(ak.re [1,2,0]).drop⟩)
 rw[if_neg hp] at hq
 rw[if_neg (by simpa using hp)]
 refine⟨_,rfl,some mb,by rw[V0];exact ae.p1.cell 1,?_⟩
 refine⟨m.1,by rw[V0];exact ae.cell 0,?_⟩
 (try dsimp only);rw[U7]
 refine A0b (kind:=kM) (z:=zM) A9L rfl (ae.re [2,0,1]) ?_
 refine W5 ae fun y h4 bk=>?_
 have ak:sat h4 (cells y #[.string (ByteArray.mk #[]),.string (ByteArray.mk #[]),.int .i64 0]::cells x #[.string m.1,.string m.2.1,.int .i64 m.2.2.1]::cells b #[.int .i64 most,.map (some mb)]::mapA eKS (Kind.val kM) mb l::old h0::R):=bk
 clear bk
 (try dsimp only);rw[U7]
 refine A0b (kind:=kM) (z:=zM) A9L rfl (ak.re [3,0,1,2]) ?_
 refine⟨rfl,?_⟩
 refine⟨m.1,by rw[V0];exact ak.p1.cell 0,rfl,?_⟩
 refine⟨some mb,by rw[V0];exact(ak.re [2,0,1]).cell 1,rfl,?_⟩
 (try dsimp only);rw[U7]
 refine o4 ak rfl rfl fun h5 fv=>?_
 have aj:sat h5 (cells x #[.string m.1,.string m.2.1,.int .i64 m.2.2.1]::cells b #[.int .i64 most,.map (some mb)]::mapA eKS (Kind.val kM) mb l::old h0::R):=fv.drop
 clear fv
 refine W0 (fun z h'=>h'=h5∧z.1=decide (X0 l m.1=none∧most≤l.length)) ?_ ?_
 ·(try dsimp only);rw[V4]
  cases hg:X0 l m.1 with
  |none=>
   rw[if_pos (by rfl)]
   refine⟨_,rfl,some mb,by rw[V0];exact aj.p1.cell 1,?_⟩
   (try dsimp only);rw[U7]
   refine A9I (aj.re [2,0,1]) ?_
   refine⟨_,rfl,most,by rw[V0];exact aj.p1.cell 0,rfl,?_⟩
   simp
  |some v=>
   rw[if_neg (by simp)]
   exact⟨rfl,by simp⟩
 rintro⟨z,⟨⟩⟩ h6 ⟨rfl,hz⟩
 simp only at hz
 subst hz
 (try dsimp only);rw[V4]
 by_cases hc:X0 l m.1=none∧most≤l.length
 ·rw[if_pos hc] at hq
  rw[if_pos (by simpa using hc)]
  exact hq _ (fin aj)
 rw[if_neg hc] at hq
 rw[if_neg (by simpa using hc)]
 refine⟨_,rfl,some mb,by rw[V0];exact aj.p1.cell 1,?_⟩
 refine⟨m.1,by rw[V0];exact aj.cell 0,?_⟩
 refine Z3 (ts:=[.str,.str,.int .i64]) m aj rfl ?_
 (try dsimp only);rw[U7]
 refine A33 (x:=m) A9L C7x (aj.re [2,0,1]) fun h7 aC=>?_
 exact hq _ (A5b.2 ⟨mb,(aC.re [1,2,0]).drop⟩)
def B9G(l:List (B4p×l7))(f:B4p)(ns:List B4p):List l7:=(ns.filter (Z8 f)).map fun n=>(X0 l n).getD zM
theorem C62{b:Nat}{most:Int}{l:List (B4p×l7)}{f:B4p}(hs:sat h (B7t b most l::old h0::R))(ht:TP h0)(hsz:f.size≤9223372036854775807)(hl:l.length≤64)(hk:∀p∈l,p.1.size≤256){Q:Value→Heap→Prop}
  (hq:∀(sl:Slc) h',sat h' (V1 A0q 3 sl (B9G l f (A5c (l.map (·.1))))::B7t b most l::old h0::R)→Q (.slice sl.a sl.len sl.cap) h'):V9 prog 110 #[B14 b,.string f] h Q:=by
 refine A6u (some ⟨b,0,none⟩) f h Q ?_
 obtain⟨mb,hs⟩:=A5b.1 hs
 delta A5m az bn cb cc ie ix km lt nn nw pu ve vi wi
 (try dsimp only);rw[V4,if_neg (by simp)]
 refine⟨_,rfl,some mb,by rw[V0];exact hs.cell 1,?_⟩
 refine V3 ?_
 refine B6d (ρk:=A7V) C6d (some mb) ?_
 refine⟨_,rfl,?_⟩
 have ae:=(hs.bI (T:=A7V.t 23) (cs:=#[.map (some mb)]))
 refine V3 ?_
 refine B1z (ρk:=A7V) (ρs:=A81) (ρt:=B0O) C6d C3o C5A rfl (enters_of func131 (by kernel_rfl) rfl) (enters_of func212 (by kernel_rfl) rfl) (ae.re [2,0,1])
  (fun p hp=>?_) (by omega) (ae.cell 0) fun sl h1 ai=>?_
 ·have:=hk p hp
  unfold maxLen
  omega
 have ak:=(ai.re [2,0,1,3,4]).drop
 clear ai ae hs
 have iz:(A5c (l.map (·.1))).length=l.length:=by simp[A5c,O9]
 have an:∀n∈A5c (l.map (·.1)),n.size≤256:=by
  intro n hn
  unfold A5c at hn
  obtain⟨x,hx,rfl⟩:=E3.1 hn
  obtain⟨y,hy,rfl⟩:=E3.1 ((R1 _ _).mem_iff.1 hx)
  obtain⟨p,hp,rfl⟩:=E3.1 hy
  exact hk p hp
 generalize A5c (l.map (·.1))=ns at ak iz an hq
 have hlen:=ak.aW
 refine⟨sl,rfl,?_⟩
 (try dsimp only);rw[U7]
 refine o7 (γ:=Nat) (hb:=fun s=>by
   repeat' with_reducible first
    |refine @A0C _ _ _ _ ?_ (fun _=>?_)
    |refine @A1b _ _ _ _ ?_ ?_
   all_goals infer_instance)
  (fun g c h'=>c.2.1=(((ns.length-g:Nat)):Int)∧g≤ns.length∧sat h' (V1 A0q 3 c.1 (B9G l f (ns.take (ns.length-g)))::V1 eS 1 sl ns::cells b #[.int .i64 most,.map (some mb)]::mapA eKS (Kind.val kM) mb l::old h0::R)) (fun g=>g) ns.length
  ⟨by simp,D9 _,by
   rw[Q4]
   exact Z2 (ak.re [0,2,1])⟩ ?_
 rintro g ⟨out,c,⟨⟩⟩ h2 ⟨hc,hg,aj⟩
 simp only at hc aj
 subst hc
 (try dsimp only);rw[V4]
 by_cases hi:ns.length-g<ns.length
 ·rw[if_pos (by simp only[decide_eq_true_eq,hlen];omega)]
  obtain⟨n,hn⟩:∃n,ns[ns.length-g]? =some n:=⟨_,B0 hi⟩
  have rS:n.size≤256:=an n (E9 hn)
  have hw:IntKind.wrap .i64 ((((ns.length-g:Nat)):Int)+1)=((ns.length-(g-1):Nat):Int):=by rw[W6 (by omega) (by omega)];omega
  have fm:ns.take (ns.length-(g-1))=ns.take (ns.length-g)++[n]:=by
   rw[show ns.length-(g-1)=ns.length-g+1 by omega,H5,hn]
   rfl
  (try dsimp only);rw[U7]
  refine Y0 (aj.p1.aN A0Y) hn fun a ha=>?_
  refine⟨n,by have:=ha 0 (.string n) rfl;rwa[Go.H.add_zero] at this,?_⟩
  refine V3 (C3e (aj.re [4,0,1,2,3]) ht hsz (by omega) fun h3 gR=>⟨_,rfl,?_⟩)
  have aw:sat h3 (V1 A0q 3 out (B9G l f (ns.take (ns.length-g)))::V1 eS 1 sl ns::cells b #[.int .i64 most,.map (some mb)]::mapA eKS (Kind.val kM) mb l::old h0::R):=gR.re [1,2,3,4,0]
  clear gR aj
  refine W0 (fun z h'=>sat h' (V1 A0q 3 z.1 (B9G l f (ns.take (ns.length-(g-1))))::V1 eS 1 sl ns::cells b #[.int .i64 most,.map (some mb)]::mapA eKS (Kind.val kM) mb l::old h0::R)) ?_ ?_
  ·rw[fm]
   unfold B9G
   rw[F4,B8]
   (try dsimp only);rw[V4]
   cases hm:Z8 f n with
   |true=>
    rw[if_pos rfl]
    refine⟨_,rfl,some mb,by rw[V0];exact(aw.re [2,0,1]).cell 1,?_⟩
    (try dsimp only);rw[U7]
    refine A0b (kind:=kM) (z:=zM) A9L rfl (aw.re [3,0,1,2]) ?_
    have jR:(B9G l f (ns.take (ns.length-g))).length≤64:=by
     unfold B9G
     rw[C0]
     refine C4 (D2 _ _) ?_
     rw[D6]
     omega
    refine A0H (x:=(X0 l n).getD zM) A3X A8d rfl aw (by decide) (by decide) (by omega) fun s' h4 aC=>?_
    simp only[I0,hm,if_true,J9,B5,I3]
    exact aC
   |false=>
    rw[if_neg (by simp)]
    simp only[I0,hm,H7,if_false,J9,I3,C1]
    exact aw
  rintro⟨z,⟨⟩⟩ h4 aC
  simp only[D5,E4,V8]
  exact .mk (g-1) (by omega) ⟨by simp only[hw],by omega,aC⟩
 ·rw[if_neg (by simp only[decide_eq_true_eq,hlen];omega)]
  rw[D1 (by omega)] at aj
  exact hq out h2 (((A5b.2 ⟨mb,aj.re [2,3,0,1]⟩).re [2,1,0]).drop.p1.re [1,0])
end
section
open Go.H Go.Proofs Go.Lib
variable {h h0:Heap} {R:List Asn}
theorem drop_byte{s:B4p}{i:Nat}(hi:i<s.size):s.data.toList.drop i=s.get! i::s.data.toList.drop (i+1):=by
 have h1:i<s.data.toList.length:=by rw[N6];exact hi
 rw[E0 h1]
 congr 1
 have h2:i<s.data.size:=hi
 show s.data.toList[i]=s.data[i]!
 rw[getElem!_pos s.data i h2]
 simp
theorem B2u{s:B4p}(hsz:s.size≤9223372036854775800){c:UInt8}{Q:Value→Heap→Prop}(hq:Q (.bool (hasB c s)) h):
  V9 prog 239 #[.string s,.int .u8 (c.toNat:Int)] h Q:=by
 refine B4S s _ h Q ?_
 delta B8e bn ie pu wi
 (try dsimp only);rw[U7]
 refine o7 (γ:=Nat) (fun g k h'=>h'=h∧k.1=(((s.size-g:Nat)):Int)∧g≤s.size∧hasB c s=decide (c∈s.data.toList.drop (s.size-g))) (fun g=>g) s.size ⟨rfl,by simp,D9 _,by simp[hasB]⟩ ?_
 rintro g ⟨k,⟨⟩⟩ h' ⟨rfl,hc,hg,hf⟩
 simp only at hc
 subst hc
 (try dsimp only);rw[V4]
 by_cases hi:s.size-g<s.size
 ·rw[if_pos (by simp only[decide_eq_true_eq];omega)]
  rw[drop_byte hi] at hf
  refine⟨s.get! (s.size-g),by omega,by rw[O1];exact A3t hi,?_⟩
  (try dsimp only);rw[V4,A8i]
  by_cases hb:s.get! (s.size-g)=c
  ·rw[if_pos (by simpa using hb)]
   rw[hf,show decide (c∈s.get! (s.size-g)::s.data.toList.drop (s.size-g+1))=true by simp[hb]] at hq
   simp only[D5,E4,V8]
   exact hq
  ·rw[if_neg (by simpa using hb)]
   simp only[D5,E4,V8]
   refine .mk (g-1) (by omega) ⟨rfl,by simp only;rw[W6 (by omega) (by omega)];omega,by omega,?_⟩
   rw[hf,show s.size-(g-1)=s.size-g+1 by omega]
   simp[Ne.symm hb]
 ·rw[if_neg (by simp only[decide_eq_true_eq];omega)]
  have:s.data.toList.drop (s.size-g)=[]:=by
   rw[List.drop_eq_nil_iff,N6]
   show s.size≤_
   omega
  rw[hf,this] at hq
  simp only[D5,E4,V8]
  simpa using hq
theorem C1e{s:B4p}{i:Nat}(hi:i<s.size):(s.extract i (i+1)).data.toList=[s.get! i]:=by
 have h1:=drop_byte hi
 have h2:(s.extract i (i+1)).data.toList=(s.data.toList.drop i).take 1:=by
  simp[ByteArray.data_extract,Array.toList_extract,List.extract]
 rw[h2,h1]
 rfl
theorem A4P(hs:sat h R){s:B4p}(hsz:s.size≤256){Q:Value→Heap→Prop}
  (hq:∀(sl:Slc) h',sat h' (V1 eS 1 sl (levels s)::R)→Q (.slice sl.a sl.len sl.cap) h'):
  V9 prog 241 #[.string s] h Q:=by
 refine B04 s h Q ?_
 delta B1X az bn ie nw pu ve wi
 (try dsimp only);rw[U7]
 refine o7 (γ:=Nat) (fun g k h'=>∃xs:List B4p,sat h' (V1 eS 1 k.1 xs::R)∧k.2.2.1=(((s.size-g:Nat)):Int)∧g≤s.size∧xs.length≤s.size-g∧k.2.1.size≤s.size-g∧
  xs.map (·.data.toList)++lev 47 k.2.1.data.toList (s.data.toList.drop (s.size-g))=(levels s).map (·.data.toList)) (fun g=>g) s.size
  ⟨[],Z2 hs,by simp,D9 _,C9 _,C9 _,by simp[A28]⟩ ?_
 rintro g ⟨sl,x,i,⟨⟩⟩ h1 ⟨xs,aa,hc,hg,yB,fU,hf⟩
 simp only at hc aa fU hf
 subst hc
 (try dsimp only);rw[V4]
 by_cases hi:s.size-g<s.size
 ·rw[if_pos (by simp only[decide_eq_true_eq];omega)]
  rw[drop_byte hi] at hf
  have aA:s.size-g+1=s.size-(g-1):=by omega
  rw[aA] at hf
  have hw:IntKind.wrap .i64 ((((s.size-g:Nat)):Int)+1)=((s.size-(g-1):Nat):Int):=by rw[W6 (by omega) (by omega)];omega
  refine W0 (fun k h'=>∃xs:List B4p,sat h' (V1 eS 1 k.1 xs::R)∧xs.length≤s.size-(g-1)∧k.2.1.size≤s.size-(g-1)∧
   xs.map (·.data.toList)++lev 47 k.2.1.data.toList (s.data.toList.drop (s.size-(g-1)))=(levels s).map (·.data.toList)) ?_ ?_
  ·refine⟨s.get! (s.size-g),by omega,by rw[O1];exact A3t hi,?_⟩
   (try dsimp only);rw[V4,show(47:Int)=((47:UInt8).toNat:Int) from rfl,A8i]
   by_cases hb:s.get! (s.size-g)=47
   ·rw[if_pos (by simpa using hb)]
    refine A0H (x:=x) A0Y A8c rfl aa (by decide) (by decide) (by omega) fun s' h2 ae=>?_
    refine⟨xs++[x],ae,by simp;omega,C9 _,?_⟩
    simp only[lev,if_pos hb] at hf
    rw[←hf]
    simp
   ·rw[if_neg (by simpa using hb)]
    refine⟨s.size-g,s.size-g+1,⟨by rw[hw];omega,by omega⟩,⟨rfl,by omega⟩,?_⟩
    have he:=C1e hi
    have hz:(s.extract (s.size-g) (s.size-g+1)).size=1:=by
     rw[ByteArray.size_extract]
     omega
    refine⟨by rw[hz];omega,xs,aa,by omega,?_,?_⟩
    ·simp only[ByteArray.size_append]
     omega
    ·simp only[lev,if_neg hb] at hf
     rw[←hf]
     simp only[ByteArray.data_append,Array.toList_append,he]
  rintro⟨sl',x',⟨⟩⟩ h2 ⟨xs',ae,sW,sV,oo⟩
  simp only[D5,E4,V8]
  exact .mk (g-1) (by omega) ⟨xs',ae,by simp only[hw],by omega,sW,sV,oo⟩
 ·rw[if_neg (by simp only[decide_eq_true_eq];omega)]
  have:s.data.toList.drop (s.size-g)=[]:=by
   rw[List.drop_eq_nil_iff,N6]
   show s.size≤_
   omega
  rw[this] at hf
  simp only[lev] at hf
  simp only[D5,E4,V8]
  have he:xs++[x]=levels s:=A7R (by simpa using hf)
  refine A0H (x:=x) A0Y A8c rfl aa (by decide) (by decide) (by omega) fun s' h2 ae=>?_
  rw[he] at ae
  exact hq s' h2 ae
theorem B30(hs:sat h R){s:B4p}(hsz:s.size≤9223372036854775800){Q:Value→Heap→Prop}
  (hq:∀h',sat h' R→Q (.bool (A1v s)) h'):V9 prog 238 #[.string s] h Q:=by
 refine B1V s h Q ?_
 delta B4b bn cc ie pu
 refine u6 (B4f hs s hsz ⟨(match r9 s with|some n=>((n:Int),true,())|none=>(0,false,())),by cases r9 s<;>rfl,?_⟩)
 refine W0 (fun x h'=>h'=h∧x.1= !((r9 s).isNone&&decide (s.size≠0)&&decide (s.size≤256))) ?_ ?_
 ·(try dsimp only);rw[V4]
  cases hf:r9 s with
  |some n=>
   rw[if_pos rfl]
   exact⟨rfl,rfl⟩
  |none=>
   rw[if_neg (by simp)]
   (try dsimp only);rw[V4]
   by_cases h0:s.size=0
   ·rw[if_pos (by simp[h0])]
    exact⟨rfl,by simp[h0]⟩
   ·rw[if_neg (by simpa using h0)]
    refine⟨rfl,?_⟩
    by_cases h1:s.size≤256
    ·simp[h0,h1];omega
    ·simp[h0,h1];omega
 rintro⟨x,⟨⟩⟩ h1 ⟨rfl,hx⟩
 simp only at hx
 subst hx
 unfold A1v at hq
 (try dsimp only);rw[V4]
 cases hz:((r9 s).isNone&&decide (s.size≠0)&&decide (s.size≤256)) with
 |false=>
  rw[hz] at hq
  rw[if_pos (by rfl)]
  exact hq _ hs
 |true=>
  rw[hz,G5] at hq
  rw[if_neg (by simp)]
  have hle:s.size≤256:=by
   simp only[E8,decide_eq_true_eq] at hz
   exact hz.2
  refine V3 (A4P hs hle fun sl h2 ae=>⟨sl,rfl,?_⟩)
  have hl:=ae.aW
  have:=hq _ ae.drop
  have e:decide ((sl.len:Int)≤32)=decide ((levels s).length≤32):=by rw[F8,hl];omega
  simp only[V8]
  rw[e]
  exact this
theorem A4y(hs:sat h R){s:B4p}(hsz:s.size≤9223372036854775800){Q:Value→Heap→Prop}
  (hq:∀h',sat h' R→Q (.int .i64 (A2X s)) h'):V9 prog 190 #[.string s] h Q:=by
 refine A8N s h Q ?_
 delta A8x bn cb ie pu
 refine V3 (B30 hs hsz fun h1 aa=>⟨_,rfl,?_⟩)
 refine V3 (B2u (c:=43) hsz ⟨_,rfl,?_⟩)
 refine V3 (B2u (c:=35) hsz ⟨_,rfl,?_⟩)
 refine W0 (fun x h'=>h'=h1∧x.1= !a8 s) ?_ ?_
 ·unfold a8
  (try dsimp only);rw[V4]
  cases A1v s with
  |false=>rw[if_pos (by rfl)];exact⟨rfl,rfl⟩
  |true=>
   rw[if_neg (by simp)]
   (try dsimp only);rw[V4]
   cases hasB 43 s with
   |true=>rw[if_pos rfl];exact⟨rfl,rfl⟩
   |false=>rw[if_neg (by simp)];exact⟨rfl,by simp⟩
 rintro⟨x,⟨⟩⟩ h2 ⟨rfl,hx⟩
 simp only at hx
 subst hx
 have:=hq _ aa
 unfold A2X at this
 (try dsimp only);rw[V4]
 cases hn:a8 s with
 |true=>rw[hn,if_pos rfl] at this;rw[if_neg (by simp)];exact this
 |false=>rw[hn,if_neg (by simp)] at this;rw[if_pos (by rfl)];exact this
theorem A52(hs:sat h R){s:B4p}(hsz:s.size≤9223372036854775800){Q:Value→Heap→Prop}
  (hq:∀h',sat h' R→Q (.int .i64 (B0E s)) h'):V9 prog 240 #[.string s] h Q:=by
 refine A64 s h Q ?_
 delta A51 bn cb cc ie ix lt pu wi
 refine V3 (B30 hs hsz fun h1 aa=>⟨_,rfl,?_⟩)
 unfold B0E Y2 at hq
 (try dsimp only);rw[V4]
 cases hz:A1v s with
 |false=>
  rw[hz] at hq
  rw[if_pos (by rfl)]
  exact hq _ aa
 |true=>
 rw[hz,G5] at hq
 rw[if_neg (by simp)]
 have hle:=A2U hz
 refine V3 (A4P aa hle fun sl h2 ae=>⟨sl,rfl,?_⟩)
 have hlen:=ae.aW
 have aM:=ae.aN A0Y
 have hn:(levels s).length≤32:=(A1a.1 hz).2.2.2
 have fU:∀x∈levels s,x.size≤256:=fun x hx=>C4 (C4H hx) hle
 generalize levels s=l at hlen aM hn hq fU
 have ai:=ae.drop
 clear ae
 (try dsimp only);rw[U7]
 refine o7 (γ:=Nat) (fun g c h'=>h'=h2∧c.1=(((l.length-g:Nat)):Int)∧g≤l.length∧A4o l=A4o (l.drop (l.length-g))) (fun g=>g) l.length ⟨rfl,by simp,D9 _,by simp⟩ ?_
 rintro g ⟨c,⟨⟩⟩ h' ⟨rfl,hc,hg,hf⟩
 simp only at hc
 subst hc
 (try dsimp only);rw[V4]
 by_cases ah:l.length-g<l.length
 ·rw[if_pos (by simp only[decide_eq_true_eq,hlen];omega)]
  obtain⟨x,hx⟩:∃x,l[l.length-g]? =some x:=⟨_,B0 ah⟩
  have yA:x.size≤256:=fU x (E9 hx)
  have ld:∀{Q:B4p→Heap→Prop},Q x h'→(HM.bind (A4F sl.a sl.len (((l.length-g:Nat)):Int) 1) fun a=>r7 .str a) h' Q:=by
   intro Q hQ
   (try dsimp only);rw[U7]
   refine Y0 aM hx fun a ha=>?_
   exact⟨x,by have:=ha 0 (.string x) rfl;rwa[Go.H.add_zero] at this,hQ⟩
  have rL:∀{β:Type} {k:B4p→HM β} {Q:β→Heap→Prop},k x h' Q→(HM.bind (A4F sl.a sl.len (((l.length-g:Nat)):Int) 1) fun a=>HM.bind (r7 .str a) k) h' Q:=fun hk=>ld (Q:=fun y aY=>_) hk
  rw[A7j hx,A79] at hf
  have fw:(l.drop (l.length-g+1)).isEmpty=decide (l.length-g+1=l.length):=by
   by_cases he:l.length-g+1=l.length
   ·rw[he];simp
   ·have:l.drop (l.length-g+1)≠[]:=by simp;omega
    cases hh:l.drop (l.length-g+1) with
    |nil=>exact absurd hh this
    |cons=>simp[he]
  rw[fw] at hf
  have hw:IntKind.wrap .i64 ((sl.len:Int)-1)=(l.length:Int)-1:=by rw[hlen];exact W6 (by omega) (by omega)
  have jr:IntKind.wrap .i64 (((l.length-g:Nat):Int)+1)=((l.length-(g-1):Nat):Int):=by rw[W6 (by omega) (by omega)];omega
  have aA:l.length-g+1=l.length-(g-1):=by omega
  rw[aA] at hf
  rw[hw,jr]
  refine rL ?_
  refine V3 (B2u (c:=43) (by omega) ⟨_,rfl,?_⟩)
  refine rL ?_
  refine V3 (B2u (c:=35) (by omega) ⟨_,rfl,?_⟩)
  unfold B3r at hf
  refine W0 (fun z aY=>aY=h'∧z.1=(hasB 43 x&&decide (x≠v8))) ?_ ?_
  ·(try dsimp only);rw[V4]
   cases hasB 43 x with
   |true=>
    rw[if_pos rfl]
    refine rL ⟨rfl,?_⟩
    by_cases hp:x=ByteArray.mk #[43]<;>simp[v8,hp]
   |false=>rw[if_neg (by simp)];exact⟨rfl,rfl⟩
  rintro⟨z,⟨⟩⟩ aY ⟨rfl,dz⟩
  simp only at dz
  subst dz
  (try dsimp only);rw[V4]
  cases ha:(hasB 43 x&&decide (x≠v8)) with
  |true=>
   rw[ha,Bool.true_or,N7,K8] at hf
   rw[hf,if_neg (by simp)] at hq
   rw[if_pos rfl]
   simp only[D5,E4,V8]
   exact hq _ ai
  |false=>
  rw[ha,S9] at hf
  rw[if_neg (by simp)]
  refine W0 (fun z h'=>h'=aY∧z.1=(hasB 35 x&&(decide (x≠q8)|| !decide (l.length-(g-1)=l.length)))) ?_ ?_
  ·(try dsimp only);rw[V4]
   cases hasB 35 x with
   |true=>
    rw[if_pos rfl]
    refine rL ?_
    (try dsimp only);rw[V4]
    by_cases lh:x=q8
    ·rw[if_neg (by simpa[q8] using lh)]
     refine⟨rfl,?_⟩
     simp only[lh,ne_eq,not_true_eq_false,decide_false,S9,G5]
     rw[←decide_not,F8]
     omega
    ·rw[if_pos (by simpa[q8] using lh)]
     exact⟨rfl,by simp[lh]⟩
   |false=>rw[if_neg (by simp)];exact⟨rfl,rfl⟩
  rintro⟨z,⟨⟩⟩ h3 ⟨rfl,dz⟩
  simp only at dz
  subst dz
  (try dsimp only);rw[V4]
  cases hb:(hasB 35 x&&(decide (x≠q8)|| !decide (l.length-(g-1)=l.length))) with
  |true=>
   rw[hb,N7,K8] at hf
   rw[hf,if_neg (by simp)] at hq
   rw[if_pos rfl]
   simp only[D5,E4,V8]
   exact hq _ ai
  |false=>
   rw[hb,T7,G5] at hf
   rw[if_neg (by simp)]
   simp only[D5,E4,V8]
   exact .mk (g-1) (by omega) ⟨rfl,rfl,by omega,hf⟩
 ·rw[if_neg (by simp only[decide_eq_true_eq,hlen];omega)]
  simp only[D5,E4,V8]
  have:l.drop (l.length-g)=[]:=by simp;omega
  rw[this] at hf
  rw[hf] at hq
  exact hq _ ai
theorem C6C{f n:B4p}(hf:f.size≠0)(hn:n.size≠0){Q:Bool×Unit→Heap→Prop}(hq:Q (A35 f n,()) h):
  (HM.bind (α:=Int) (A5I n 0) fun(x4:Int)=>
   A1G (x4==36) (
   HM.bind (α:=Int) (A5I f 0) fun(x5:Int)=>
   A1G (x5==43) (
   X8 (true,())) (
   HM.bind (α:=Int) (A5I f 0) fun(x6:Int)=>
   X8 (x6==35,()))) (
   X8 (false,()))) h Q:=by
 unfold A35 at hq
 refine⟨n.get! 0,by decide,A3t (k:=0) (by omega),?_⟩
 (try dsimp only);rw[V4,show(36:Int)=((36:UInt8).toNat:Int) from rfl,A8i]
 by_cases kl:n.get! 0=36
 ·rw[if_pos (by simpa using kl)]
  refine⟨f.get! 0,by decide,A3t (k:=0) (by omega),?_⟩
  (try dsimp only);rw[V4,show(43:Int)=((43:UInt8).toNat:Int) from rfl,A8i]
  by_cases ew:f.get! 0=43
  ·rw[if_pos (by simpa using ew)]
   simp only[kl,ew,decide_true,G5,Bool.true_or] at hq
   exact hq
  ·rw[if_neg (by simpa using ew)]
   refine⟨f.get! 0,by decide,A3t (k:=0) (by omega),?_⟩
   simp only[V8]
   rw[show(35:Int)=((35:UInt8).toNat:Int) from rfl,A8i]
   simp only[kl,ew,decide_true,decide_false,G5,S9] at hq
   exact hq
 ·rw[if_neg (by simpa using kl)]
  simp only[kl,decide_false,K8] at hq
  exact hq
theorem B4e(hs:sat h R){f n:B4p}(oY:f.size≤9223372036854775800)(rS:n.size≤9223372036854775800){Q:Value→Heap→Prop}
  (hq:∀h',sat h' R→Q (.bool (Z8 f n)) h'):V9 prog 192 #[.string f,.string n] h Q:=by
 refine B1W f n h Q ?_
 delta B4c bn cc ci ie ix lt pu wi
 refine V3 (A52 hs oY fun h1 aa=>⟨_,rfl,?_⟩)
 refine V3 (A4y aa rS fun h2 ae=>⟨_,rfl,?_⟩)
 refine W0 (fun x h'=>h'=h2∧x.1= !(Y2 f&&a8 n)) ?_ ?_
 ·unfold B0E A2X
  (try dsimp only);rw[V4]
  cases hf:Y2 f with
  |false=>rw[if_pos (by rfl)];exact⟨rfl,rfl⟩
  |true=>
   rw[if_neg (by simp)]
   cases hn:a8 n<;>exact⟨rfl,rfl⟩
 rintro⟨x,⟨⟩⟩ h3 ⟨rfl,hx⟩
 simp only at hx
 subst hx
 unfold Z8 at hq
 (try dsimp only);rw[V4]
 cases ag:(Y2 f&&a8 n) with
 |false=>
  rw[ag] at hq
  rw[if_pos (by rfl)]
  exact hq _ ae
 |true=>
 rw[ag,G5] at hq
 rw[if_neg (by simp)]
 rw[E8] at ag
 have jv:=A1a.1 (A0o ag.1)
 have dD:=A1a.1 (A4R ag.2)
 refine W0 (fun x h'=>h'=h3∧x.1=A35 f n) (C6C jv.2.1 dD.2.1 ⟨rfl,rfl⟩) ?_
 rintro⟨x,⟨⟩⟩ h4 ⟨rfl,hx⟩
 simp only at hx
 subst hx
 (try dsimp only);rw[V4]
 cases iO:A35 f n with
 |true=>
  rw[iO] at hq
  rw[if_pos rfl]
  exact hq _ ae
 |false=>
 rw[iO,T7,G5] at hq
 rw[if_neg (by simp)]
 refine V3 (A4P ae jv.2.2.1 fun sf h3 ai=>⟨sf,rfl,?_⟩)
 refine V3 (A4P ai dD.2.2.1 fun sn h4 ak=>⟨sn,rfl,?_⟩)
 have qg:=ak.aN A0Y
 have nS:=ak.p1.aN A0Y
 have aj:sat h4 R:=ak.drop.drop
 have vC:(levels f).length≤32:=jv.2.2.2
 have ke:(levels n).length≤32:=dD.2.2.2
 clear ak ai
 generalize levels f=lf at*
 generalize levels n=ln at*
 have fe:=nS.1
 have en:=qg.1
 (try dsimp only);rw[U7]
 refine o7 (γ:=Nat) (fun g c h'=>h'=h4∧c.1=(((lf.length-g:Nat)):Int)∧g≤lf.length∧lf.length-g≤ln.length∧A2x lf ln=A2x (lf.drop (lf.length-g)) (ln.drop (lf.length-g))) (fun g=>g) lf.length ⟨rfl,by simp,D9 _,by simp,by simp⟩ ?_
 rintro g ⟨c,⟨⟩⟩ h' ⟨rfl,hc,hg,vL,hm⟩
 simp only at hc
 subst hc
 (try dsimp only);rw[V4]
 by_cases ah:lf.length-g<lf.length
 ·rw[if_pos (by simp only[decide_eq_true_eq,fe];omega)]
  obtain⟨x,hx⟩:∃x,lf[lf.length-g]? =some x:=⟨_,B0 ah⟩
  have ldf:∀{β:Type} {k:B4p→HM β} {Q:β→Heap→Prop},k x h' Q→(HM.bind (A4F sf.a sf.len (((lf.length-g:Nat)):Int) 1) fun a=>HM.bind (r7 .str a) k) h' Q:=by
   intro β k Q hQ
   (try dsimp only);rw[U7]
   refine Y0 nS hx fun a ha=>?_
   exact⟨x,by have:=ha 0 (.string x) rfl;rwa[Go.H.add_zero] at this,hQ⟩
  rw[A7j hx,A4l] at hm
  have aA:lf.length-g+1=lf.length-(g-1):=by omega
  have jr:IntKind.wrap .i64 (((lf.length-g:Nat):Int)+1)=((lf.length-(g-1):Nat):Int):=by rw[W6 (by omega) (by omega)];omega
  rw[jr]
  refine ldf ?_
  (try dsimp only);rw[V4]
  by_cases lg:x=q8
  ·rw[if_pos lg] at hm
   rw[hm] at hq
   rw[if_pos (by simpa[q8] using lg)]
   simp only[D5,E4,V8]
   exact hq _ aj
  rw[if_neg lg] at hm
  rw[if_neg (by simpa[q8] using lg)]
  (try dsimp only);rw[V4]
  by_cases xy:ln.length≤lf.length-g
  ·rw[if_pos (by simp only[decide_eq_true_eq];omega)]
   rw[show ln.drop (lf.length-g)=[] by simp;omega] at hm
   rw[hm] at hq
   simp only[D5,E4,V8]
   exact hq _ aj
  rw[if_neg (by simp only[decide_eq_true_eq];omega)]
  obtain⟨y,hy⟩:∃y,ln[lf.length-g]? =some y:=⟨_,B0 (by omega)⟩
  rw[A7j hy,aA] at hm
  simp only at hm
  refine W0 (fun z aY=>aY=h'∧z.1=decide (x≠v8∧x≠y)) ?_ ?_
  ·refine ldf ?_
   (try dsimp only);rw[V4]
   by_cases nJ:x=v8
   ·rw[if_neg (by simpa[v8] using nJ)]
    exact⟨rfl,by simp[nJ]⟩
   ·rw[if_pos (by simpa[v8] using nJ)]
    refine ldf ?_
    (try dsimp only);rw[U7]
    refine Y0 qg hy fun a ha=>?_
    refine⟨y,by have:=ha 0 (.string y) rfl;rwa[Go.H.add_zero] at this,rfl,?_⟩
    by_cases oL:x=y<;>simp[nJ,oL]
  rintro⟨z,⟨⟩⟩ aY ⟨rfl,hz⟩
  simp only at hz
  subst hz
  (try dsimp only);rw[V4]
  by_cases hc:x≠v8∧x≠y
  ·rw[if_pos hc] at hm
   rw[hm] at hq
   rw[if_pos (by simpa using hc)]
   simp only[D5,E4,V8]
   exact hq _ aj
  ·rw[if_neg hc] at hm
   rw[if_neg (by simpa using hc)]
   simp only[D5,E4,V8]
   exact .mk (g-1) (by omega) ⟨rfl,rfl,by omega,by omega,hm⟩
 ·rw[if_neg (by simp only[decide_eq_true_eq,fe];omega)]
  simp only[D5,E4,V8]
  rw[show lf.drop (lf.length-g)=[] by simp;omega] at hm
  have he:((sf.len:Int)==(sn.len:Int))=A2x lf ln:=by
   rw[hm]
   simp only[A2x]
   rw[fe,en]
   by_cases he:lf.length=ln.length
   ·rw[show ln.drop (lf.length-g)=[] by simp;omega]
    simp[he]
   ·cases hd:ln.drop (lf.length-g) with
    |nil=>rw[List.drop_eq_nil_iff] at hd;omega
    |cons=>simpa using fun e=>he (by omega)
  rw[he]
  exact hq _ aj
end
section
open Go.H Go.Proofs Go.Lib
variable {h h0:Heap} {R:List Asn}
def A1W(b:Nat)(most:Int)(L:List l7):Asn:=exA fun s:Slc=>star (cells b #[.int .i64 most,.slice s.a s.len s.cap]) (V1 A0q 3 s L)
theorem A2S{b:Nat}{most:Int}{L:List l7}:sat h (A1W b most L::R)↔∃s:Slc,sat h (cells b #[.int .i64 most,.slice s.a s.len s.cap]::V1 A0q 3 s L::R):=by
 unfold A1W
 rw[sat.aZ]
 constructor
 ·rintro⟨m,hs⟩;exact⟨m,sat.aI.1 hs⟩
 ·rintro⟨m,hs⟩;exact⟨m,sat.aI.2 hs⟩
theorem C4t(hs:sat h R)(n:Int){Q:Value→Heap→Prop}(hq:∀b h',sat h' (A1W b (B9t n) []::R)→Q (B14 b) h'):V9 prog 45 #[.int .i64 n] h Q:=by
 refine B4M n h Q ?_
 delta B78 az bn ie nw pu vi vz
 refine W0 (fun z h'=>h'=h∧z.1=if n<0 then 0 else n) ?_ ?_
 ·(try dsimp only);rw[V4]
  by_cases h1:n<0
  ·rw[if_pos (by simpa using h1)];exact⟨rfl,by simp[h1]⟩
  ·rw[if_neg (by simpa using h1)];exact⟨rfl,by simp[h1]⟩
 rintro⟨x,⟨⟩⟩ h1 ⟨rfl,hx⟩
 simp only at hx
 subst hx
 refine W0 (fun z h'=>h'=h1∧z.1=B9t n) ?_ ?_
 ·(try dsimp only);rw[V4]
  unfold B9t
  by_cases h2:64<(if n<0 then 0 else n)
  ·rw[if_pos (by simpa using h2)]
   refine⟨rfl,?_⟩
   simp only
   split at h2<;>split<;>split<;>omega
  ·rw[if_neg (by simpa using h2)]
   refine⟨rfl,?_⟩
   simp only
   split at h2<;>split<;>split<;>omega
 rintro⟨x,⟨⟩⟩ h2 ⟨rfl,hx⟩
 simp only at hx
 subst hx
 refine W5 hs fun b h3 ai=>?_
 exact hq b h3 (A2S.2 ⟨⟨none,0,0⟩,(Z2 (enc:=A0q) (size:=3) ai).p1⟩)
theorem B59{a:Addr}{m:l7}(ha:∀j v,(A0q m)[j]? =some v→W8 h (a.add j)=some v){Q:l7→Heap→Prop}(hq:Q m h):o9 [.str,.str,.int .i64] a h Q:=
 A0A (ts:=[.str,.str,.int .i64]) m (fun i v hv=>ha i v hv) hq
def A4I(L:List l7)(k:B4p):List l7:=L.filter fun m=>decide (m.1≠k)
theorem B8W{s:Slc}{L:List l7}{k:B4p}(hs:sat h (V1 A0q 3 s L::R))(hL:L.length≤1000){Q:Value→Heap→Prop}
  (hq:∀(sl:Slc) h',sat h' (V1 A0q 3 sl (A4I L k)::V1 A0q 3 s L::R)→Q (.slice sl.a sl.len sl.cap) h'):V9 prog 191 #[.slice s.a s.len s.cap,.string k] h Q:=by
 refine A96 s k h Q ?_
 delta B0t az bn ie ix kt nw pu ve vi wi
 have hlen:=hs.aW
 (try dsimp only);rw[U7]
 refine o7 (γ:=Nat) (fun g c h'=>c.2.1=(((L.length-g:Nat)):Int)∧g≤L.length∧sat h' (V1 A0q 3 c.1 (A4I (L.take (L.length-g)) k)::V1 A0q 3 s L::R)) (fun g=>g) L.length
  ⟨by simp,D9 _,by rw[Q4];exact Z2 hs⟩ ?_
 rintro g ⟨out,c,⟨⟩⟩ h2 ⟨hc,hg,aj⟩
 simp only at hc aj
 subst hc
 (try dsimp only);rw[V4]
 by_cases hi:L.length-g<L.length
 ·rw[if_pos (by simp only[decide_eq_true_eq,hlen];omega)]
  obtain⟨m,hm⟩:∃m,L[L.length-g]? =some m:=⟨_,B0 hi⟩
  have hw:IntKind.wrap .i64 ((((L.length-g:Nat)):Int)+1)=((L.length-(g-1):Nat):Int):=by rw[W6 (by omega) (by omega)];omega
  have fm:L.take (L.length-(g-1))=L.take (L.length-g)++[m]:=by
   rw[show L.length-(g-1)=L.length-g+1 by omega,H5,hm]
   rfl
  (try dsimp only);rw[U7]
  refine Y0 (aj.p1.aN A3X) hm fun a ha=>?_
  refine⟨m.1,ha 0 _ rfl,?_⟩
  refine W0 (fun z h'=>sat h' (V1 A0q 3 z.1 (A4I (L.take (L.length-(g-1))) k)::V1 A0q 3 s L::R)) ?_ ?_
  ·rw[fm]
   unfold A4I
   rw[F4]
   (try dsimp only);rw[V4]
   by_cases he:m.1=k
   ·rw[if_neg (by simpa using he)]
    simp only[I0,he,ne_eq,not_true_eq_false,decide_false,H7,if_false,J9,C1]
    exact aj
   ·rw[if_pos (by simpa using he)]
    (try dsimp only);rw[U7]
    refine Y0 (aj.p1.aN A3X) hm fun a' jm=>?_
    (try dsimp only);rw[U7]
    refine B59 jm ?_
    have jR:(A4I (L.take (L.length-g)) k).length≤1000:=by
     unfold A4I
     refine C4 (D2 _ _) ?_
     rw[D6]
     omega
    refine A0H (x:=m) A3X A8d rfl aj (by decide) (by decide) (by omega) fun s' h4 aC=>?_
    simp only[I0,he,ne_eq,not_false_eq_true,decide_true,if_true,J9]
    exact aC
  rintro⟨z,⟨⟩⟩ h4 aC
  simp only[D5,E4,V8]
  exact .mk (g-1) (by omega) ⟨by simp only[hw],by omega,aC⟩
 ·rw[if_neg (by simp only[decide_eq_true_eq,hlen];omega)]
  rw[D1 (by omega)] at aj
  exact hq out h2 aj
def B0R(most:Int)(L:List l7)(m:l7):Int×List l7:=
 if a8 m.1=false then(144,L)
 else if m.2.2.1<0∨2<m.2.2.1 then(155,L)
 else if m.2.1.size=0 then(0,A4I L m.1)
 else if(A4I L m.1).length=L.length∧most≤(A4I L m.1).length then(151,L)
 else(0,A2z ltS (·.1) m (A4I L m.1))
def A9j(m:l7):List l7→Bool×List l7
 |[]=>(false,[])
 |x::r=>if ltS m.1 x.1 then(true,m::x::r) else((A9j m r).1,x::(A9j m r).2)
theorem C2A(m:l7):∀L:List l7,A2z ltS (·.1) m L=(if(A9j m L).1=true then(A9j m L).2 else(A9j m L).2++[m])
 |[]=>rfl
 |x::r=>by
  unfold A2z A9j
  split
  ·simp
  ·rw[C2A m r]
   split<;>rename_i h1<;>simp[h1]
def A3r(m:l7)(L:List l7):Bool×List l7:=L.foldl (fun c x=>if c.1=false∧ltS m.1 x.1 then(true,c.2++[m,x]) else(c.1,c.2++[x])) (false,[])
theorem C2B(m:l7)(L:List l7)(x:l7):A3r m (L++[x])=(if(A3r m L).1=false∧ltS m.1 x.1 then(true,(A3r m L).2++[m,x]) else((A3r m L).1,(A3r m L).2++[x])):=by
 unfold A3r
 rw[List.foldl_append]
 rfl
theorem B6g(m:l7):∀(L out:List l7),L.foldl (fun c x=>if c.1=false∧ltS m.1 x.1 then(true,c.2++[m,x]) else(c.1,c.2++[x])) (true,out)=(true,out++L)
 |[],out=>by simp
 |x::r,out=>by
  rw[I4,if_neg (by simp),B6g m r]
  simp
theorem B6h(m:l7):∀(L out:List l7),L.foldl (fun c x=>if c.1=false∧ltS m.1 x.1 then(true,c.2++[m,x]) else(c.1,c.2++[x])) (false,out)=((A9j m L).1,out++(A9j m L).2)
 |[],out=>by simp[A9j]
 |x::r,out=>by
  rw[I4]
  by_cases hx:ltS m.1 x.1
  ·rw[if_pos ⟨rfl,hx⟩,B6g]
   simp[A9j,hx]
  ·rw[if_neg (fun h=>hx h.2),B6h m r]
   simp[A9j,hx]
theorem C4K(m:l7)(L:List l7):A2z ltS (·.1) m L=(if(A3r m L).1=true then(A3r m L).2 else(A3r m L).2++[m]):=by
 unfold A3r
 rw[B6h,C2A]
 simp
theorem B8v(m:l7):∀(L:List l7),(A3r m L).2.length≤L.length+1:=fun L=>by
 unfold A3r
 rw[B6h]
 have:=(A1U ltS (fun x:l7=>x.1) m L).length_eq
 rw[C2A] at this
 simp only[F0,B7] at this⊢
 split at this
 ·omega
 ·simp at this;omega
theorem C4r{b:Nat}{most:Int}{L:List l7}{m:l7}(hs:sat h (A1W b most L::R))(hL:L.length≤64)(hsz:m.1.size≤9223372036854775800){Q:Value→Heap→Prop}
  (hq:∀h',sat h' (A1W b most (B0R most L m).2::R)→Q (.int .i64 (B0R most L m).1) h'):V9 prog 136 #[B14 b,vM m] h Q:=by
 refine B4L (some ⟨b,0,none⟩) m h Q ?_
 obtain⟨s,hs⟩:=A2S.1 hs
 delta B77 az bn cc ci ie ix ji jt kc ki kt nn nw pu sx ve vi vs wi
 refine W5 hs fun x h1 aa=>?_
 refine⟨m.1,by rw[V0];exact aa.cell 0,?_⟩
 refine V3 (A4y aa hsz fun h2 ba=>⟨_,rfl,?_⟩)
 have ae:sat h2 (cells x (A0q m).toArray::cells b #[.int .i64 most,.slice s.a s.len s.cap]::V1 A0q 3 s L::R):=ba
 clear ba aa hs
 have fin:∀{h'},sat h' (cells x (A0q m).toArray::cells b #[.int .i64 most,.slice s.a s.len s.cap]::V1 A0q 3 s L::R)→sat h' (A1W b most L::R):=fun hh=>A2S.2 ⟨s,hh.drop⟩
 unfold B0R at hq
 (try dsimp only);rw[V4]
 cases hn:a8 m.1 with
 |false=>
  rw[if_pos hn] at hq
  rw[if_pos (by simp[A2X,hn])]
  exact hq _ (fin ae)
 |true=>
 rw[if_neg (by simp[hn])] at hq
 rw[if_neg (by simp[A2X,hn])]
 refine W0 (fun z h'=>h'=h2∧z.1=decide (m.2.2.1<0∨2<m.2.2.1)) ?_ ?_
 ·refine⟨m.2.2.1,by rw[V0];exact ae.cell 2,?_⟩
  (try dsimp only);rw[V4]
  by_cases h1:m.2.2.1<0
  ·rw[if_pos (by simpa using h1)]
   exact⟨rfl,by simp[h1]⟩
  ·rw[if_neg (by simpa using h1)]
   refine⟨m.2.2.1,by rw[V0];exact ae.cell 2,rfl,?_⟩
   simp[h1]
 rintro⟨z,⟨⟩⟩ h3 ⟨rfl,hz⟩
 simp only at hz
 subst hz
 (try dsimp only);rw[V4]
 by_cases dZ:m.2.2.1<0∨2<m.2.2.1
 ·rw[if_pos dZ] at hq
  rw[if_pos (by simpa using dZ)]
  exact hq _ (fin ae)
 rw[if_neg dZ] at hq
 rw[if_neg (by simpa using dZ)]
 refine⟨_,rfl,s,by rw[V0];exact ae.p1.cell 1,?_⟩
 refine⟨m.1,by rw[V0];exact ae.cell 0,?_⟩
 refine V3 (B8W (ae.re [2,0,1]) (by omega) fun sl h4 bk=>⟨sl,rfl,?_⟩)
 have ak:sat h4 (cells x (A0q m).toArray::cells b #[.int .i64 most,.slice s.a s.len s.cap]::V1 A0q 3 sl (A4I L m.1)::V1 A0q 3 s L::R):=bk.re [2,3,0,1]
 clear bk ae
 have xd:(A4I L m.1).length≤64:=C4 (D2 _ _) hL
 generalize A4I L m.1=T at ak hq xd
 have fe:sl.len=T.length:=(ak.re [2,0,1]).aW
 have en:s.len=L.length:=(ak.re [3,0,1,2]).aW
 refine⟨m.2.1,by rw[V0];exact ak.cell 1,?_⟩
 (try dsimp only);rw[V4]
 by_cases hp:m.2.1.size=0
 ·rw[if_pos hp] at hq
  rw[if_pos (by simp[hp])]
  refine⟨_,rfl,?_⟩
  (try dsimp only);rw[U7,V0]
  refine X3 ak.p1 (by simp) rfl fun h5 aj=>?_
  exact hq _ (A2S.2 ⟨sl,(aj.re [0,2,1,3]).re [0,1]|>.re [2,3,0,1]|>.drop.drop⟩)
 rw[if_neg hp] at hq
 rw[if_neg (by simpa using hp)]
 refine W0 (fun z h'=>h'=h4∧z.1=decide (T.length=L.length∧most≤T.length)) ?_ ?_
 ·refine⟨_,rfl,s,by rw[V0];exact ak.p1.cell 1,?_⟩
  (try dsimp only);rw[V4]
  by_cases he:T.length=L.length
  ·rw[if_pos (by simp[fe,en,he])]
   refine⟨_,rfl,most,by rw[V0];exact ak.p1.cell 0,rfl,?_⟩
   rw[fe]
   simp[he]
  ·rw[if_neg (by simp[fe,en];omega)]
   exact⟨rfl,by simp[he]⟩
 rintro⟨z,⟨⟩⟩ h5 ⟨rfl,hz⟩
 simp only at hz
 subst hz
 (try dsimp only);rw[V4]
 by_cases hc:T.length=L.length∧most≤T.length
 ·rw[if_pos hc] at hq
  rw[if_pos (by simpa using hc)]
  exact hq _ (A2S.2 ⟨s,(ak.drop.re [1,0,2]).drop⟩)
 rw[if_neg hc] at hq
 rw[if_neg (by simpa using hc)]
 (try dsimp only);rw[U7]
 refine o7 (γ:=Nat) (hb:=fun s=>by
   repeat' with_reducible first
    |refine @A0C _ _ _ _ ?_ (fun _=>?_)
    |refine @A1b _ _ _ _ ?_ ?_
   all_goals infer_instance)
  (fun g c h'=>c.2.2.1=(((T.length-g:Nat)):Int)∧g≤T.length∧c.1=(A3r m (T.take (T.length-g))).1∧
   sat h' (V1 A0q 3 c.2.1 (A3r m (T.take (T.length-g))).2::cells x (A0q m).toArray::cells b #[.int .i64 most,.slice s.a s.len s.cap]::V1 A0q 3 sl T::V1 A0q 3 s L::R)) (fun g=>g) T.length
  ⟨by simp,D9 _,by simp[A3r],by
   rw[Q4]
   exact Z2 ak⟩ ?_
 rintro g ⟨pb,out,c,⟨⟩⟩ h2 ⟨qZ,hg,qn,aj⟩
 simp only at qZ aj qn
 subst qZ
 subst qn
 (try dsimp only);rw[V4]
 by_cases hi:T.length-g<T.length
 ·rw[if_pos (by simp only[decide_eq_true_eq,fe];omega)]
  obtain⟨y,hy⟩:∃y,T[T.length-g]? =some y:=⟨_,B0 hi⟩
  have hw:IntKind.wrap .i64 ((((T.length-g:Nat)):Int)+1)=((T.length-(g-1):Nat):Int):=by rw[W6 (by omega) (by omega)];omega
  have fm:T.take (T.length-(g-1))=T.take (T.length-g)++[y]:=by
   rw[show T.length-(g-1)=T.length-g+1 by omega,H5,hy]
   rfl
  have dU:=C2B m (T.take (T.length-g)) y
  rw[←fm] at dU
  have lZ:=B8v m (T.take (T.length-g))
  rw[D6] at lZ
  generalize A3r m (T.take (T.length-g))=st at aj dU lZ⊢
  refine W0 (fun z h'=>h'=h2∧z.1=decide (st.1=false∧ltS m.1 y.1)) ?_ ?_
  ·(try dsimp only);rw[V4]
   cases bF:st.1 with
   |true=>rw[if_neg (by simp)];exact⟨rfl,by simp⟩
   |false=>
    rw[if_pos (by rfl)]
    refine⟨m.1,by rw[V0];exact aj.p1.cell 0,?_⟩
    (try dsimp only);rw[U7]
    refine Y0 ((aj.re [3,0,1,2]).aN A3X) hy fun a ha=>?_
    refine⟨y.1,ha 0 _ rfl,rfl,?_⟩
    simp only[B6a,true_and]
  rintro⟨z,⟨⟩⟩ h6 ⟨rfl,hz⟩
  simp only at hz
  subst hz
  refine W0 (fun z h'=>z.2.1=(A3r m (T.take (T.length-(g-1)))).1∧∃pre,pre++[y]=(A3r m (T.take (T.length-(g-1)))).2∧pre.length≤100∧sat h' (V1 A0q 3 z.1 pre::cells x (A0q m).toArray::cells b #[.int .i64 most,.slice s.a s.len s.cap]::V1 A0q 3 sl T::V1 A0q 3 s L::R)) ?_ ?_
  ·rw[dU]
   (try dsimp only);rw[V4]
   by_cases gd:st.1=false∧ltS m.1 y.1
   ·rw[if_pos (by simpa using gd),if_pos gd]
    refine Z3 (ts:=[.str,.str,.int .i64]) m aj.p1 rfl ?_
    refine A0H (x:=m) A3X A8d rfl aj (by decide) (by decide) (by omega) fun s' h7 aC=>?_
    exact⟨rfl,st.2++[m],by simp,by simp;omega,aC⟩
   ·rw[if_neg (by simpa using gd),if_neg gd]
    exact⟨rfl,st.2,rfl,by omega,aj⟩
  rintro⟨z1,z2,⟨⟩⟩ h7 ⟨gJ,pre,jV,me,aC⟩
  simp only at gJ aC
  (try dsimp only);rw[U7]
  refine Y0 ((aC.re [3,0,1,2]).aN A3X) hy fun a ha=>?_
  (try dsimp only);rw[U7]
  refine B59 ha ?_
  refine A0H (x:=y) A3X A8d rfl aC (by decide) (by decide) (by omega) fun s' h8 bq=>?_
  rw[jV] at bq
  simp only[D5,E4,V8]
  exact .mk (g-1) (by omega) ⟨by simp only[hw],by omega,gJ,bq⟩
 ·rw[if_neg (by simp only[decide_eq_true_eq,fe];omega)]
  rw[D1 (by omega)] at aj⊢
  have qQ:=C4K m T
  have lZ:=B8v m T
  generalize A3r m T=st at aj qQ lZ⊢
  simp only[D5,E4,V8]
  refine W0 (fun z h'=>sat h' (V1 A0q 3 z.1 (A2z ltS (·.1) m T)::cells x (A0q m).toArray::cells b #[.int .i64 most,.slice s.a s.len s.cap]::V1 A0q 3 sl T::V1 A0q 3 s L::R)) ?_ ?_
  ·rw[qQ]
   (try dsimp only);rw[V4]
   cases bF:st.1 with
   |true=>rw[if_neg (by simp),if_pos rfl];exact aj
   |false=>
    rw[if_pos (by rfl),if_neg (by simp)]
    refine Z3 (ts:=[.str,.str,.int .i64]) m aj.p1 rfl ?_
    refine A0H (x:=m) A3X A8d rfl aj (by decide) (by decide) (by omega) fun s' h7 aC=>aC
  rintro⟨z,⟨⟩⟩ h7 aC
  simp only at aC
  refine⟨_,rfl,?_⟩
  (try dsimp only);rw[U7,V0]
  refine X3 (aC.re [2,0,1]) (by simp) rfl fun h8 bq=>?_
  exact hq _ (A2S.2 ⟨z,(bq.re [2,3,4,0,1]).drop.drop.drop⟩)
def C8y(L:List l7)(k:B4p):Option l7:=L.find? fun m=>decide (m.1=k)
def A6z(L:List l7)(f:B4p):List l7:=L.filter fun m=>Z8 f m.1
theorem C4v{b:Nat}{most:Int}{L:List l7}{f:B4p}(hs:sat h (A1W b most L::R))(hL:L.length≤64)(hk:∀m∈L,m.1.size≤256)(hsz:f.size≤9223372036854775800){Q:Value→Heap→Prop}
  (hq:∀(sl:Slc) h',sat h' (V1 A0q 3 sl (A6z L f)::A1W b most L::R)→Q (.slice sl.a sl.len sl.cap) h'):V9 prog 197 #[B14 b,.string f] h Q:=by
 refine B1M (some ⟨b,0,none⟩) f h Q ?_
 obtain⟨s,hs⟩:=A2S.1 hs
 have hl:s.len=L.length:=hs.p1.aW
 delta B35 az bn cb ie ix kc kt nn nw pu ve vi wi
 (try dsimp only);rw[U7]
 refine o7 (γ:=Nat) (hb:=fun s=>by
   repeat' with_reducible first
    |refine @A0C _ _ _ _ ?_ (fun _=>?_)
    |refine @A1b _ _ _ _ ?_ ?_
   all_goals infer_instance)
  (fun g c h'=>c.2.1=(((L.length-g:Nat)):Int)∧g≤L.length∧sat h' (V1 A0q 3 c.1 (A6z (L.take (L.length-g)) f)::cells b #[.int .i64 most,.slice s.a s.len s.cap]::V1 A0q 3 s L::R)) (fun g=>g) L.length
  ⟨by simp,D9 _,by rw[Q4];exact Z2 hs⟩ ?_
 rintro g ⟨out,c,⟨⟩⟩ h2 ⟨hc,hg,aj⟩
 simp only at hc aj
 subst hc
 refine⟨_,rfl,s,by rw[V0];exact aj.p1.cell 1,?_⟩
 (try dsimp only);rw[V4]
 by_cases hi:L.length-g<L.length
 ·rw[if_pos (by simp only[decide_eq_true_eq,hl];omega)]
  obtain⟨m,hm⟩:∃m,L[L.length-g]? =some m:=⟨_,B0 hi⟩
  have yF:m.1.size≤256:=hk m (E9 hm)
  have hw:IntKind.wrap .i64 ((((L.length-g:Nat)):Int)+1)=((L.length-(g-1):Nat):Int):=by rw[W6 (by omega) (by omega)];omega
  have fm:L.take (L.length-(g-1))=L.take (L.length-g)++[m]:=by
   rw[show L.length-(g-1)=L.length-g+1 by omega,H5,hm]
   rfl
  refine⟨_,rfl,s,by rw[V0];exact aj.p1.cell 1,?_⟩
  (try dsimp only);rw[U7]
  refine Y0 ((aj.re [2,0,1]).aN A3X) hm fun a ha=>?_
  refine⟨m.1,ha 0 _ rfl,?_⟩
  refine V3 (B4e aj hsz (by omega) fun h3 gR=>⟨_,rfl,?_⟩)
  have aw:sat h3 (V1 A0q 3 out (A6z (L.take (L.length-g)) f)::cells b #[.int .i64 most,.slice s.a s.len s.cap]::V1 A0q 3 s L::R):=gR
  clear gR aj
  refine W0 (fun z h'=>sat h' (V1 A0q 3 z.1 (A6z (L.take (L.length-(g-1))) f)::cells b #[.int .i64 most,.slice s.a s.len s.cap]::V1 A0q 3 s L::R)) ?_ ?_
  ·rw[fm]
   unfold A6z
   rw[F4]
   (try dsimp only);rw[V4]
   cases vA:Z8 f m.1 with
   |true=>
    rw[if_pos rfl]
    refine⟨_,rfl,s,by rw[V0];exact aw.p1.cell 1,?_⟩
    (try dsimp only);rw[U7]
    refine Y0 ((aw.re [2,0,1]).aN A3X) hm fun a' jm=>?_
    (try dsimp only);rw[U7]
    refine B59 jm ?_
    have jR:(A6z (L.take (L.length-g)) f).length≤64:=by
     unfold A6z
     refine C4 (D2 _ _) ?_
     rw[D6]
     omega
    refine A0H (x:=m) A3X A8d rfl aw (by decide) (by decide) (by omega) fun s' h4 aC=>?_
    simp only[I0,vA,if_true,J9]
    exact aC
   |false=>
    rw[if_neg (by simp)]
    simp only[I0,vA,H7,if_false,J9,C1]
    exact aw
  rintro⟨z,⟨⟩⟩ h4 aC
  simp only[D5,E4,V8]
  exact .mk (g-1) (by omega) ⟨by simp only[hw],by omega,aC⟩
 ·rw[if_neg (by simp only[decide_eq_true_eq,hl];omega)]
  rw[D1 (by omega)] at aj
  exact hq out h2 ((A2S.2 ⟨s,aj.re [1,2,0]⟩).p1)
end
section
open Go.H Go.Proofs Go.Lib
structure Sto(most:Int)(l:List (B4p×l7))(L:List l7):Prop where
 rel:Rel ltS (fun m:l7=>m.1) l L
 len:(l.length:Int)≤most
 small:∀p∈l,p.1.size≤256
theorem Sto.nil{most:Int}(h:0≤most):Sto most [] []:=⟨Rel.nil,by simpa using h,by simp⟩
variable {most:Int} {l:List (B4p×l7)} {L:List l7}
theorem Sto.lenL(h:Sto most l L)(hm:most≤64):l.length≤64∧L.length≤64:=by
 have:=h.len
 have:=h.rel.len
 omega
theorem Sto.get(h:Sto most l L)(k:B4p):X0 l k=C8y L k:=h.rel.get B7A k
theorem B6C(x:B4p):x=ByteArray.mk #[]↔x.size=0:=by
 constructor
 ·rintro rfl;rfl
 ·intro h0
  refine data_inj ?_
  have:x.data.toList.length=0:=by rw[N6];exact h0
  rw[L8.1 this]
theorem C0t{k:B4p}:(A4I L k).length=L.length↔C8y L k=none:=by
 unfold A4I C8y
 rw[N9,E7]
 constructor
 ·intro h x hx;simpa using h x hx
 ·intro h x hx;simpa using h x hx
theorem Sto.set(h:Sto most l L)(m:l7):(C4j most l m).1=(B0R most L m).1∧Sto most (C4j most l m).2 (B0R most L m).2:=by
 unfold C4j B0R
 by_cases h1:a8 m.1=false
 ·rw[if_pos h1,if_pos h1];exact⟨rfl,h⟩
 rw[if_neg h1,if_neg h1]
 have hsz:m.1.size≤256:=A2U (A4R (by simpa using h1))
 by_cases h2:m.2.2.1<0∨2<m.2.2.1
 ·rw[if_pos h2,if_pos h2];exact⟨rfl,h⟩
 rw[if_neg h2,if_neg h2]
 by_cases h3:m.2.1=ByteArray.mk #[]
 ·rw[if_pos h3,if_pos ((B6C _).1 h3)]
  refine⟨rfl,h.rel.del m.1,?_,fun p hp=>?_⟩
  ·have:=h.len
   have h4:(mdel l m.1).length≤l.length:=by rw[A1K h.rel.nd];exact D2 _ _
   simp only
   omega
  ·rw[A1K h.rel.nd] at hp
   exact h.small p (E6.1 hp).1
 rw[if_neg h3,if_neg (fun e=>h3 ((B6C _).2 e))]
 have bu:=h.get m.1
 have gB:=h.rel.len
 by_cases h4:X0 l m.1=none
 ·have h5:=C0t.2 (bu▸h4)
  by_cases h6:most≤l.length
  ·rw[if_pos ⟨h4,h6⟩,if_pos ⟨h5,by rw[h5];omega⟩];exact⟨rfl,h⟩
  ·rw[if_neg (fun e=>h6 e.2),if_neg (fun e=>h6 (by have:=e.2;rw[h5] at this;omega))]
   refine⟨rfl,h.rel.set B7A m,?_,fun p hp=>?_⟩
   ·rw[A2Y _ _ _ h4]
    simp only[B3,B7,G1]
    omega
   ·rw[A2Y _ _ _ h4] at hp
    rcases C7.1 hp with hp|hp
    ·exact h.small p hp
    ·rw[B9.1 hp];exact hsz
 ·have h5:¬(A4I L m.1).length=L.length:=fun e=>h4 (bu.trans (C0t.1 e))
  rw[if_neg (fun e=>h4 e.1),if_neg (fun e=>h5 e.1)]
  have hp:=B3o (l:=l) (k:=m.1) (x:=m)
  refine⟨rfl,h.rel.set B7A m,?_,fun p ir=>?_⟩
  ·have h6:=hp.length_eq
   have ah:(mdel l m.1).length<l.length:=by
    rw[A1K h.rel.nd]
    refine Nat.lt_of_le_of_ne (D2 _ _) fun e=>?_
    rw[N9] at e
    refine h4 ((A1x _ _).2 fun hm=>?_)
    obtain⟨q,hq,e2⟩:=E3.1 hm
    have:=e q hq
    simp[e2] at this
   have:=h.len
   simp only[B7] at h6
   simp only
   omega
  ·rcases D3.1 (hp.mem_iff.1 ir) with rfl|ir
   ·exact hsz
   ·rw[A1K h.rel.nd] at ir
    exact h.small p (E6.1 ir).1
theorem Sto.hit(h:Sto most l L)(f:B4p):B9G l f (A5c (l.map (·.1)))=A6z L f:=by
 unfold B9G A6z
 rw[h.rel.sorted]
 have:∀T:List l7,(∀m∈T,m∈L)→(List.filter (Z8 f) (T.map fun m=>m.1)).map (fun n=>(X0 l n).getD zM)=T.filter fun m=>Z8 f m.1:=by
  intro T
  induction T with
  |nil=>intro _;rfl
  |cons m T ih=>
   intro hT
   have ih:=ih fun m hm=>hT m (C2 _ hm)
   rw[B5,I0,I0]
   split
   ·rw[B5,ih,h.rel.fV B7A (hT m (B6 ..))]
    rfl
   ·exact ih
 exact this L fun _ hm=>hm
end
section
open Go.H Go.Proofs Go.Shelf
def A9K:Go.Shelf.Ren:=⟨fun n=>match n with|7=>267|10=>272|n=>n,fun n=>match n with|23=>73|26=>3|3=>4|28=>123|0=>0|27=>122|33=>196|4=>4|n=>n,fun n=>n⟩
theorem C72:SlLaysZI.n7 prog A9K where
 mixed:=by kernel_rfl
 f7:=⟨Tryz.f267.name,by kernel_rfl,func267.trans (congrArg some (by kernel_rfl))⟩
 f10:=⟨f272.name,by kernel_rfl,func272.trans (congrArg some (by kernel_rfl))⟩
 t0:=underlying0
 a0:=isAgg0
 z0:=sizeOf0
 v0:=zeroValue0
 t4:=underlying4
 a4:=isAgg4
 z4:=sizeOf4
 v4:=zeroValue4
 t23:=underlying73
 a23:=isAgg73
 z23:=sizeOf73
 v23:=zeroValue73
 t26:=underlying3
 a26:=isAgg3
 z26:=sizeOf3
 v26:=zeroValue3
 t27:=underlying122
 a27:=isAgg122
 z27:=sizeOf122
 v27:=zeroValue122
 t28:=underlying123
 a28:=isAgg123
 z28:=sizeOf123
 v28:=zeroValue123
 t33:=underlying196
 a33:=isAgg196
 z33:=sizeOf196
 v33:=zeroValue196
def A5X:Go.Shelf.Ren:=⟨fun n=>match n with|6=>40|8=>75|9=>76|11=>121|13=>123|12=>122|23=>180|24=>181|14=>171|15=>172|16=>173|17=>174|18=>175|19=>176|20=>177|21=>178|22=>179|25=>213|26=>214|27=>215|28=>216|29=>217|30=>218|31=>252|n=>n,fun n=>match n with|26=>3|28=>123|24=>64|0=>0|3=>3|37=>263|48=>315|50=>317|4=>4|40=>308|39=>307|45=>180|5=>5|9=>9|51=>343|55=>347|57=>378|58=>361|33=>196|n=>n,fun n=>n⟩
theorem B82:SlLaysZI.n6 prog A5X where
 mixed:=by kernel_rfl
 f6:=⟨Tryz.f40.name,by kernel_rfl,func40.trans (congrArg some (by kernel_rfl))⟩
 f8:=⟨f75.name,by kernel_rfl,func75.trans (congrArg some (by kernel_rfl))⟩
 f11:=⟨f121.name,by kernel_rfl,func121.trans (congrArg some (by kernel_rfl))⟩
 t0:=underlying0
 a0:=isAgg0
 z0:=sizeOf0
 v0:=zeroValue0
 t24:=underlying64
 a24:=isAgg64
 z24:=sizeOf64
 v24:=zeroValue64
 t26:=underlying3
 a26:=isAgg3
 z26:=sizeOf3
 v26:=zeroValue3
 t28:=underlying123
 a28:=isAgg123
 z28:=sizeOf123
 v28:=zeroValue123
 i26:=by kernel_rfl
def A7C:Go.Shelf.Ren:=⟨fun n=>match n with|5=>76|8=>123|7=>122|19=>180|20=>181|10=>171|11=>172|12=>173|13=>174|14=>175|15=>176|16=>177|17=>178|18=>179|30=>213|31=>214|32=>215|33=>216|34=>217|35=>218|40=>252|n=>n,fun n=>match n with|23=>64|25=>3|3=>3|32=>263|22=>64|0=>0|44=>315|46=>317|4=>4|36=>308|35=>307|41=>180|5=>5|9=>9|53=>343|57=>347|63=>378|64=>361|n=>n,fun n=>n⟩
theorem C12:SlLaysM.n5 prog A7C where
 mixed:=by kernel_rfl
 f5:=⟨f76.name,by kernel_rfl,func76.trans (congrArg some (by kernel_rfl))⟩
 f7:=⟨f122.name,by kernel_rfl,func122.trans (congrArg some (by kernel_rfl))⟩
 f8:=func123.trans (congrArg some (by kernel_rfl))
 f10:=⟨f171.name,by kernel_rfl,func171.trans (congrArg some (by kernel_rfl))⟩
 f11:=⟨f172.name,by kernel_rfl,func172.trans (congrArg some (by kernel_rfl))⟩
 f12:=⟨f173.name,by kernel_rfl,func173.trans (congrArg some (by kernel_rfl))⟩
 f13:=⟨f174.name,by kernel_rfl,func174.trans (congrArg some (by kernel_rfl))⟩
 f14:=⟨f175.name,by kernel_rfl,func175.trans (congrArg some (by kernel_rfl))⟩
 f15:=⟨f176.name,by kernel_rfl,func176.trans (congrArg some (by kernel_rfl))⟩
 f16:=⟨f177.name,by kernel_rfl,func177.trans (congrArg some (by kernel_rfl))⟩
 f17:=⟨f178.name,by kernel_rfl,func178.trans (congrArg some (by kernel_rfl))⟩
 f18:=⟨f179.name,by kernel_rfl,func179.trans (congrArg some (by kernel_rfl))⟩
 f19:=func180.trans (congrArg some (by kernel_rfl))
 f20:=func181.trans (congrArg some (by kernel_rfl))
 f30:=⟨Tryz.f213.name,by kernel_rfl,func213.trans (congrArg some (by kernel_rfl))⟩
 f31:=func214.trans (congrArg some (by kernel_rfl))
 f32:=func215.trans (congrArg some (by kernel_rfl))
 f33:=⟨f216.name,by kernel_rfl,func216.trans (congrArg some (by kernel_rfl))⟩
 f34:=⟨Tryz.f217.name,by kernel_rfl,func217.trans (congrArg some (by kernel_rfl))⟩
 f35:=⟨Tryz.f218.name,by kernel_rfl,func218.trans (congrArg some (by kernel_rfl))⟩
 f40:=⟨f252.name,by kernel_rfl,func252.trans (congrArg some (by kernel_rfl))⟩
 t0:=underlying0
 a0:=isAgg0
 z0:=sizeOf0
 v0:=zeroValue0
 t3:=underlying3
 a3:=isAgg3
 z3:=sizeOf3
 v3:=zeroValue3
 t4:=underlying4
 a4:=isAgg4
 z4:=sizeOf4
 v4:=zeroValue4
 t5:=underlying5
 a5:=isAgg5
 z5:=sizeOf5
 v5:=zeroValue5
 t9:=underlying9
 a9:=isAgg9
 z9:=sizeOf9
 v9:=zeroValue9
 t22:=underlying64
 a22:=isAgg64
 z22:=sizeOf64
 v22:=zeroValue64
 t23:=underlying64
 a23:=isAgg64
 z23:=sizeOf64
 v23:=zeroValue64
 t25:=underlying3
 a25:=isAgg3
 z25:=sizeOf3
 v25:=zeroValue3
 t32:=underlying263
 a32:=isAgg263
 z32:=sizeOf263
 v32:=zeroValue263
 t35:=underlying307
 a35:=isAgg307
 z35:=sizeOf307
 v35:=zeroValue307
 t36:=underlying308
 a36:=isAgg308
 z36:=sizeOf308
 v36:=zeroValue308
 t41:=underlying180
 a41:=isAgg180
 z41:=sizeOf180
 v41:=zeroValue180
 t44:=underlying315
 a44:=isAgg315
 z44:=sizeOf315
 v44:=zeroValue315
 t46:=underlying317
 a46:=isAgg317
 z46:=sizeOf317
 v46:=zeroValue317
 t53:=underlying343
 a53:=isAgg343
 z53:=sizeOf343
 v53:=zeroValue343
 t57:=underlying347
 a57:=isAgg347
 z57:=sizeOf347
 v57:=zeroValue347
 t63:=underlying378
 a63:=isAgg378
 z63:=sizeOf378
 v63:=zeroValue378
 t64:=underlying361
 a64:=isAgg361
 z64:=sizeOf361
 v64:=zeroValue361
open Go.H Go.Proofs
theorem A5y(x:Int):(eI x).length=1:=rfl
theorem A9R(x:Int):∀v∈eI x,v.oneCell'=true:=by intro v hv;simp at hv;subst hv;rfl
theorem C5e{h:Heap}{R:List Asn}{b:Nat}{s:y9}(hs:sat h (A1A b s::R)){Q:Value→Heap→Prop}
  (hq:∀(sl:Slc) h',sat h' (V1 eI 1 sl (Z0 s.used)::A1A b s::R)→Q (.slice sl.a sl.len sl.cap) h'):V9 prog 251 #[at0 b] h Q:=by
 refine B0d _ h Q ?_
 obtain⟨m,ag,af⟩:=A07.1 hs
 have c2:W8 h ⟨b,2,none⟩=some (.map (some m)):=af.cell 2
 delta B0A bn cc ie km nn pu
 simp[c2]
 refine B09 (ρk:=A9K) C72 (some m) ?_
 simp only[C5q]
 have ae:=(af.bI (T:=A9K.t 23) (cs:=#[.map (some m)]))
 have hk:=ag.range
 have hl:=ag.len
 have hm:=ag.cP
 refine A7B (ρk:=A9K) (ρs:=A5X) (ρt:=A7C) C72 B82 C12 rfl (enters_of func76 (by kernel_rfl) rfl) (enters_of func272 (by kernel_rfl) rfl) ae.p2
  (fun p hp=>?_) ?_ (ae.cell 0) fun sl h' ai=>?_
 ·obtain⟨k,ij,rfl⟩:=E3.1 hp
  have:=hk k ij
  simp[Lit.wf,IntKind.min,IntKind.max,IntKind.bits,IntKind.signed]
  omega
 ·simp[A4t];omega
 ·simp only[C1R,V8]
  refine hq sl h' ?_
  have e:(A4t s.used).map (·.1)=s.used:=by simp[A4t,Q9]
  rw[e] at ai
  exact(A07.2 ⟨m,ag,(ai.p3.p3.drop.p2.p1)⟩).p1
theorem C3g{h:Heap}{s:Slc}{xs:List Int}{x:Int}(hx:e8 eI 1 h s xs)(hb:xs.length≤4611686018427387904){Q:Value→Heap→Prop}
  (ay:x∉xs→Q (.int .i64 (-1)) h)(db:x∈xs→∀i:Nat,xs[i]? =some x→Q (.int .i64 i) h):
  V9 prog 266 #[.slice s.a s.len s.cap,.int .i64 x] h Q:=by
 refine B0P s x h Q ?_
 delta B1A bn ie ix li pu wi
 simp
 have h1:=hx.1
 refine o7 (γ:=Nat) (fun i c h'=>h'=h∧c.1=(i:Int)∧i≤xs.length∧x∉xs.take i) (fun i=>xs.length-i) 0 ⟨rfl,rfl,C9 _,by simp⟩ ?_
 rintro i ⟨c,⟨⟩⟩ h' ⟨rfl,hc,hi,hn⟩
 simp only at hc
 subst hc
 have next:IntKind.wrap .i64 ((i:Int)+1)=((i+1:Nat):Int):=by rw[W6 (by omega) (by omega)];rfl
 simp
 by_cases ah:i<xs.length
 ·rw[if_pos (by omega)]
  refine Y0 hx (B0 ah) fun a ha=>?_
  have c0:W8 h' a=some (.int .i64 xs[i]):=by simpa[Go.H.add_zero] using ha 0 _ rfl
  simp[c0]
  by_cases he:x=xs[i]
  ·rw[if_pos he]
   exact db (he▸H6 ah) i (by rw[he];exact B0 ah)
  ·rw[if_neg he]
   refine .mk (i+1) (by omega) ⟨rfl,next,by omega,fun hm=>?_⟩
   rw[C3 ah,C7] at hm
   rcases hm with hm|hm
   ·exact hn hm
   ·exact he (B9.1 hm)
 ·rw[if_neg (by omega)]
  rw[D1 (by omega)] at hn
  exact ay hn
theorem B7p{h:Heap}{s:Slc}{xs:List Int}{x:Int}(hx:e8 eI 1 h s xs)(hb:xs.length≤4611686018427387904){Q:Value→Heap→Prop}
  (hq:Q (.bool (decide (x∈xs))) h):
  V9 prog 250 #[.slice s.a s.len s.cap,.int .i64 x] h Q:=by
 refine A8L s x h Q ?_
 delta A8u ci pu vi vs
 simp
 refine C3g hx hb (fun hn=>?_) (fun hy i hi=>?_)
 ·simpa[hn] using hq
 ·simpa[hy] using hq
theorem C03{h:Heap}{R:List Asn}{f:Nat}{s:y9}{k:Int}(hs:sat h (A0w f s::R)){Q:Value→Heap→Prop}
  (hq:∀h',sat h' (A0w f s::R)→Q (.bool (decide (k∈s.used))) h'):V9 prog 208 #[at0 f,.int .i64 k] h Q:=by
 refine A8Q _ k h Q ?_
 obtain⟨b,hs⟩:=A3a.1 hs
 have c0:W8 h ⟨f,0,none⟩=some (at0 b):=hs.cell 0
 delta A8C cb cc kp nn pu vi vs
 simp[c0]
 refine C5e hs.p1 fun sl h1 aa=>?_
 obtain⟨_,ag,-⟩:=A07.1 aa.p1
 have hl:=ag.len
 have hm:=ag.cP
 simp only[C1R]
 refine B7p (aa.aN A5y) (by simp[Z0,O9];omega) ?_
 have e:decide (k∈Z0 s.used)=decide (k∈s.used):=by simp[Z0]
 simp only[C7d,e]
 exact hq h1 (A3a.2 ⟨b,aa.drop.p1⟩)
theorem A1D{h:Heap}{R:List Asn}(hs:sat h R)(k id c:Int){Q:Value→Heap→Prop}
  (hq:∀b h',sat h' (cells b (C7S (C89 k id c))::R)→Q (.slice (some ⟨b,0,none⟩) 1 1) h'):V9 prog 159 #[.int .i64 k,.int .i64 id,.int .u8 c] h Q:=by
 refine B0c k id c h Q ?_
 delta B0z az cc nw pu ve vi vz
 simp only[U7]
 refine W5 hs fun b h1 aa=>?_
 simp only[C64]
 refine B3y ⟨some ⟨b,0,none⟩,1,1⟩ h1 _ ?_
 delta B6k pu
 simp
 exact hq b h1 aa
def A0h(k q id:Int):Prop:=(k≠3∧k≠6)∨(k=3∧(q<0∨2<q))∨(¬(k=3∧q=0)∧(id<1∨65535<id))
instance(k q id:Int):Decidable (A0h k q id):=by unfold A0h;infer_instance
def q7(s:y9)(k q id why:Int):Bool×Option (Int×Int)×Int×List Int:=
 if A0h k q id then(false,none,130,s.used)
 else if k=3∧q=0 then(true,none,0,s.used)
 else if k=6 then(false,some (7,if id∈s.used then 0 else 146),0,s.used.erase id)
 else if q=1 then(true,some (4,why),0,s.used)
 else if id∈s.used then(false,some (5,0),0,s.used)
 else if(s.used.length:Int)=s.most then(false,none,147,s.used)
 else(true,some (5,why),0,if why<128 then s.used++[id] else s.used)
theorem C01{h:Heap}{R:List Asn}{f:Nat}{s:y9}{id why:Int}(hs:sat h (A0w f s::R))(h1:1≤id)(h2:id≤65535){Q:Value→Heap→Prop}
  (hn:(q7 s 3 2 id why).2.1=none→∀h',sat h' (A0w f ⟨s.most,s.taken,(q7 s 3 2 id why).2.2.2⟩::R)→Q (.tuple #[.bool (q7 s 3 2 id why).1,.slice none 0 0,.int .u8 (q7 s 3 2 id why).2.2.1]) h')
  (hy:∀k c,(q7 s 3 2 id why).2.1=some (k,c)→∀b h',sat h' (cells b (C7S (C89 k id c))::A0w f ⟨s.most,s.taken,(q7 s 3 2 id why).2.2.2⟩::R)→
   Q (.tuple #[.bool (q7 s 3 2 id why).1,.slice (some ⟨b,0,none⟩) 1 1,.int .u8 (q7 s 3 2 id why).2.2.1]) h'):
  V9 prog 160 #[at0 f,.int .i64 id,.int .u8 why] h Q:=by
 have nb:¬A0h 3 2 id:=by unfold A0h;omega
 simp[q7,nb] at hn hy
 refine A8P _ id why h Q ?_
 delta A8B bn cb cc ci cu ie kp nn pu vi
 simp
 refine C03 hs fun h3 ai=>?_
 by_cases g1:id∈s.used
 ·simp[g1] at hy⊢
  exact A1D ai 5 id 0 fun b h4 ak=>by simpa using hy b h4 ak
 ·obtain⟨b,bt⟩:=A3a.1 ai
  have c0:W8 h3 ⟨f,0,none⟩=some (at0 b):=bt.cell 0
  obtain⟨_,ag,-⟩:=A07.1 bt.p1
  have hl:=ag.len
  simp[g1,c0] at hn hy⊢
  refine B3S bt.p1 ?_
  by_cases g2:(s.used.length:Int)=s.most
  ·simp[g2] at hn⊢
   exact hn h3 ai
  ·have g3:¬s.most-(s.used.length:Int)=0:=by omega
   simp[g2,g3] at hy⊢
   by_cases g4:why<128
   ·simp[g4,c0] at hy⊢
    have hc:j4 s id=0:=by simp[j4,g1,g2];omega
    refine C3j bt.p1 (fun hx=>absurd hc hx) (fun _ h4 ak=>?_)
    simp
    have aj:=A3a.2 ⟨b,ak.p1⟩
    exact A1D aj 5 id why fun b h5 aj=>by simpa using hy b h5 aj
   ·simp[g4] at hy⊢
    exact A1D ai 5 id why fun b h5 aj=>by simpa using hy b h5 aj
theorem B9E{h:Heap}{R:List Asn}{f:Nat}{s:y9}{p:Pk}{why:Int}(hs:sat h (A0w f s::R)){Q:Value→Heap→Prop}
  (hn:(q7 s p.1 p.2.2.2.1 p.2.2.2.2.1 why).2.1=none→∀h',sat h' (A0w f ⟨s.most,s.taken,(q7 s p.1 p.2.2.2.1 p.2.2.2.2.1 why).2.2.2⟩::R)→Q (.tuple #[.bool (q7 s p.1 p.2.2.2.1 p.2.2.2.2.1 why).1,.slice none 0 0,.int .u8 (q7 s p.1 p.2.2.2.1 p.2.2.2.2.1 why).2.2.1]) h')
  (hy:∀k c,(q7 s p.1 p.2.2.2.1 p.2.2.2.2.1 why).2.1=some (k,c)→∀b h',sat h' (cells b (C7S (C89 k p.2.2.2.2.1 c))::A0w f ⟨s.most,s.taken,(q7 s p.1 p.2.2.2.1 p.2.2.2.2.1 why).2.2.2⟩::R)→
   Q (.tuple #[.bool (q7 s p.1 p.2.2.2.1 p.2.2.2.2.1 why).1,.slice (some ⟨b,0,none⟩) 1 1,.int .u8 (q7 s p.1 p.2.2.2.1 p.2.2.2.2.1 why).2.2.1]) h'):
  V9 prog 107 #[at0 f,D0k p,.int .u8 why] h Q:=by
 refine A72 _ p why h Q ?_
 delta A7h bn cb cc ie ji kp nn nw pu vi
 simp only[U7]
 refine W5 hs fun pb h1 dW=>?_
 obtain⟨cs,gG⟩:∃cs,cs=C7S p:=⟨_,rfl⟩
 have aa:sat h1 (cells pb cs::A0w f s::R):=by rw[gG];exact dW
 clear dW
 have e0:cs[0]? =some (.int .i64 p.1):=by rw[gG];rfl
 have e3:cs[3]? =some (.int .i64 p.2.2.2.1):=by rw[gG];rfl
 have e4:cs[4]? =some (.int .i64 p.2.2.2.2.1):=by rw[gG];rfl
 clear gG
 generalize p.1=k at*
 generalize p.2.2.2.1=q at*
 generalize p.2.2.2.2.1=id at*
 have c0:W8 h1 ⟨pb,0,none⟩=some (.int .i64 k):=(aa.cell 0).trans e0
 have c3:W8 h1 ⟨pb,3,none⟩=some (.int .i64 q):=(aa.cell 3).trans e3
 have c4:W8 h1 ⟨pb,4,none⟩=some (.int .i64 id):=(aa.cell 4).trans e4
 have bad:A0h k q id→Q (.tuple #[.bool false,.slice none 0 0,.int .u8 130]) h1:=fun g=>by
  simp[q7,g] at hn
  exact hn h1 aa.drop
 by_cases k3:k=3
 ·subst k3
  by_cases q0:q<0
  ·have:=bad (by unfold A0h;omega)
   simp[c0,c3,q0]
   exact this
  by_cases q2:2<q
  ·have:=bad (by unfold A0h;omega)
   simp[c0,c3,q0,q2]
   exact this
  by_cases qz:q=0
  ·subst qz
   have nb:¬A0h 3 0 id:=by unfold A0h;omega
   simp[q7,nb] at hn
   have:=hn h1 aa.drop
   simp[c0,c3]
   exact this
  by_cases i1:id<1
  ·have:=bad (by unfold A0h;omega)
   simp[c0,c3,c4,q0,q2,qz,i1]
   exact this
  by_cases i2:65535<id
  ·have:=bad (by unfold A0h;omega)
   simp[c0,c3,c4,q0,q2,qz,i1,i2]
   exact this
  by_cases q1:q=1
  ·subst q1
   have nb:¬A0h 3 1 id:=by unfold A0h;omega
   simp[q7,nb] at hy
   simp[c0,c3,c4,i1,i2]
   refine A1D aa.drop 4 id why fun b h2 ae=>?_
   simpa using hy b h2 ae
  ·have fc:q=2:=by omega
   subst fc
   simp[c0,c3,c4,i1,i2]
   exact C01 aa.drop (by omega) (by omega) (fun g h' af=>by simpa using hn g h' af) (fun k c g b h' af=>by simpa using hy k c g b h' af)
 by_cases k6:k=6
 ·subst k6
  by_cases i1:id<1
  ·have:=bad (by unfold A0h;omega)
   simp[c0,c3,c4,i1]
   exact this
  by_cases i2:65535<id
  ·have:=bad (by unfold A0h;omega)
   simp[c0,c3,c4,i1,i2]
   exact this
  have nb:¬A0h 6 q id:=by unfold A0h;omega
  simp[q7,nb] at hy
  obtain⟨b,jv⟩:=A3a.1 aa.p1
  have f0:W8 h1 ⟨f,0,none⟩=some (at0 b):=jv.cell 0
  simp[c0,c3,c4,i1,i2,f0]
  refine B8U jv.p1 fun h2 ae=>?_
  have ai:sat h2 (cells pb cs::A0w f ⟨s.most,s.taken,s.used.erase id⟩::R):=(A3a.2 ⟨b,ae.p1⟩).p1
  have d0:W8 h2 ⟨pb,0,none⟩=some (.int .i64 6):=(ai.cell 0).trans e0
  have d4:W8 h2 ⟨pb,4,none⟩=some (.int .i64 id):=(ai.cell 4).trans e4
  by_cases hm:id∈s.used
  ·simp[hm,d0,d4] at hy⊢
   refine A1D ai.drop 7 id 0 fun b h4 ak=>?_
   simpa using hy b h4 ak
  ·simp[hm,d0,d4] at hy⊢
   refine A1D ai.drop 7 id 146 fun b h4 ak=>?_
   simpa[hm] using hy b h4 ak
 ·have:=bad (by unfold A0h;omega)
  simp[c0,k3,k6]
  exact this
def B9s:Path→Path→Bool→Bool
 |[],left,_=>left.isEmpty
 |y::r,left,d=>(!d &&decide (y=q8)&&r.isEmpty)||(match left with|[]=>false|x::l=>((!d &&decide (y=v8))||decide (y=x))&&B9s r l false)
theorem A3S(y:B4p)(r left:Path)(d:Bool):B9s (y::r) left d=((!d &&decide (y=q8)&&r.isEmpty)||(match left with|[]=>false|x::l=>((!d &&decide (y=v8))||decide (y=x))&&B9s r l false)):=by
 cases left<;>rfl
abbrev QOK(N:Nds):Prop:=∀p nd,X0 N p=some nd→(nd.q.map (·.1)).Nodup
theorem A2r{N:Nds}{L:List Ent}(hA:A1e N L)(hk:QOK N)(p:Path)(e:Ent):e∈A4q N p↔e∈L∧levels e.2.1=p:=by
 unfold A4q
 cases hp:X0 N p with
 |none=>
  simp only[R2,false_iff]
  rintro⟨h1,h2⟩
  have:=(hA.dI p e.1 e.2.2).2 ⟨e.2.1,h2,h1⟩
  unfold ent at this
  rw[hp] at this
  cases this
 |some nd=>
  unfold A1d
  constructor
  ·intro h
   obtain⟨kv,xB,rfl⟩:=E3.1 h
   have h1:X0 nd.q kv.1=some kv.2:=A2Z (hk p nd hp) xB
   have h2:ent N p kv.1=some kv.2:=by unfold ent;rw[hp];exact h1
   obtain⟨f,hf,hm⟩:=(hA.dI _ _ _).1 h2
   have:A6e p=f:=by rw[←hf,A29]
   simp only[this]
   exact⟨hm,hf⟩
  ·rintro⟨h1,h2⟩
   have h3:=(hA.dI p e.1 e.2.2).2 ⟨e.2.1,h2,h1⟩
   unfold ent at h3
   rw[hp] at h3
   refine E3.2 ⟨(e.1,e.2.2),A4k h3,?_⟩
   rw[←h2,A29]
theorem A6h{N:Nds}(hk:QOK N)(p:Path):(A4q N p).Nodup:=by
 unfold A4q
 cases hp:X0 N p with
 |none=>exact List.nodup_nil
 |some nd=>
  unfold A1d
  have h1:nd.q.Nodup:=List.Pairwise.of_map (·.1) (fun a b dg e=>dg (by rw[e])) (hk p nd hp)
  refine List.Pairwise.map _ (fun a b dg e=>dg ?_) h1
  exact Prod.ext (congrArg (fun x:Ent=>x.1) e) (congrArg (fun x:Ent=>x.2.2) e)
theorem B8m{rb:Nat}{N:Nds}{L:List Ent}(hT:A0t rb N)(hA:A1e N L){p r:Path}(hp:X0 N p=none){e:Ent}(he:e∈L):levels e.2.1≠p++r:=by
 intro h
 have h1:=(hA.dI (p++r) e.1 e.2.2).2 ⟨e.2.1,h,he⟩
 unfold ent at h1
 cases hq:X0 N (p++r) with
 |none=>rw[hq] at h1;cases h1
 |some nd=>
  obtain⟨nd',h2⟩:=hT.pre _ _ _ hq
  rw[hp] at h2
  cases h2
theorem A2g{α:Type}{d:Bool}{l:List α}{a:α}:a∈(if d=true then[] else l)↔d=false∧a∈l:=by
 cases d<;>simp
theorem A5t{rb:Nat}{N:Nds}{L:List Ent}(hT:A0t rb N)(hA:A1e N L)(hk:QOK N)(e:Ent):∀(left p:Path) (d:Bool),e∈A2h N p left d↔∃r,B9s r left d=true∧e∈L∧levels e.2.1=p++r:=by
 intro left
 induction left with
 |nil=>
  intro p d
  cases hp:X0 N p with
  |none=>
   rw[A4m hp]
   simp only[R2,false_iff]
   rintro⟨r,-,h1,h2⟩
   exact B8m hT hA hp h1 h2
  |some nd=>
   rw[A7Q hp,C7,A2g,A2r hA hk,A2r hA hk]
   constructor
   ·rintro(⟨rfl,h1,h2⟩|⟨h1,h2⟩)
    ·exact⟨[q8],by simp[B9s],h1,h2⟩
    ·exact⟨[],rfl,h1,by rw[C1];exact h2⟩
   ·rintro⟨r,hr,h1,h2⟩
    cases r with
    |nil=>rw[C1] at h2;exact .inr ⟨h1,h2⟩
    |cons y r=>
     rw[A3S] at hr
     simp only[Bool.or_false,E8,O2,decide_eq_true_eq,List.isEmpty_iff] at hr
     obtain⟨⟨h3,rfl⟩,rfl⟩:=hr
     exact .inl ⟨h3,h1,h2⟩
 |cons x l ih=>
  intro p d
  cases hp:X0 N p with
  |none=>
   rw[A4m hp]
   simp only[R2,false_iff]
   rintro⟨r,-,h1,h2⟩
   exact B8m hT hA hp h1 h2
  |some nd=>
   rw[A59 hp,C7,C7,A2g,A2g,A2r hA hk,ih,ih]
   constructor
   ·rintro(⟨rfl,h1,h2⟩|⟨rfl,r,hr,h1,h2⟩|⟨r,hr,h1,h2⟩)
    ·exact⟨[q8],by simp[A3S],h1,h2⟩
    ·refine⟨v8::r,?_,h1,by rw[h2];simp⟩
     rw[A3S];simp[hr]
    ·refine⟨x::r,?_,h1,by rw[h2];simp⟩
     rw[A3S];simp[hr]
   ·rintro⟨r,hr,h1,h2⟩
    cases r with
    |nil=>simp[B9s] at hr
    |cons y r=>
     rw[A3S] at hr
     simp only[Bool.or_eq_true,E8,O2,decide_eq_true_eq,List.isEmpty_iff] at hr
     rcases hr with⟨⟨h3,rfl⟩,rfl⟩|⟨⟨h3,rfl⟩|rfl,h4⟩
     ·exact .inl ⟨h3,h1,h2⟩
     ·exact .inr (.inl ⟨h3,r,h4,h1,by rw[h2];simp⟩)
     ·exact .inr (.inr ⟨r,h4,h1,by rw[h2];simp⟩)
theorem B3v{α:Type}{d:Bool}{l:List α}(h:l.Nodup):(if d=true then[] else l).Nodup:=by
 cases d
 ·exact h
 ·exact List.nodup_nil
theorem B9x{rb:Nat}{N:Nds}{L:List Ent}(hT:A0t rb N)(hA:A1e N L)(hk:QOK N):∀(left p:Path) (d:Bool),(∀x∈left,x≠q8∧x≠v8)→(A2h N p left d).Nodup:=by
 intro left
 induction left with
 |nil=>
  intro p d hl
  cases hp:X0 N p with
  |none=>rw[A4m hp];exact List.nodup_nil
  |some nd=>
   rw[A7Q hp,G3]
   refine⟨B3v (A6h hk _),A6h hk _,fun a ha b hb e=>?_⟩
   subst e
   have h1:=((A2r hA hk _ _).1 (A2g.1 ha).2).2
   have h2:=((A2r hA hk _ _).1 hb).2
   rw[h1] at h2
   exact A8m _ _ h2
 |cons x l ih=>
  intro p d hl
  cases hp:X0 N p with
  |none=>rw[A4m hp];exact List.nodup_nil
  |some nd=>
   have hx:=hl x (B6 ..)
   have gC:∀y∈l,y≠q8∧y≠v8:=fun y hy=>hl y (C2 _ hy)
   rw[A59 hp,G3,G3]
   refine⟨B3v (A6h hk _),⟨B3v (ih _ _ gC),ih _ _ gC,fun a ha b hb e=>?_⟩,fun a ha b hb e=>?_⟩
   ·subst e
    obtain⟨r1,-,-,h1⟩:=(A5t hT hA hk _ _ _ _).1 (A2g.1 ha).2
    obtain⟨r2,-,-,h2⟩:=(A5t hT hA hk _ _ _ _).1 hb
    rw[h1,D7,D7] at h2
    have:=R0 h2
    simp at this
    exact hx.2 this.1.symm
   ·subst e
    have h1:=((A2r hA hk _ _).1 (A2g.1 ha).2).2
    rcases C7.1 hb with hb|hb
    ·obtain⟨r2,-,-,h2⟩:=(A5t hT hA hk _ _ _ _).1 (A2g.1 hb).2
     rw[h1,D7] at h2
     have:=R0 h2
     simp at this
     exact absurd this.1 (by decide)
    ·obtain⟨r2,-,-,h2⟩:=(A5t hT hA hk _ _ _ _).1 hb
     rw[h1,D7] at h2
     have:=R0 h2
     simp at this
     exact hx.1 this.1.symm
theorem A9d:∀(r left:Path),A4o r=true→(∀x∈left,x≠q8∧x≠v8)→B9s r left false=A2x r left
 |[],left,_,_=>by simp[B9s,A2x]
 |y::r,left,hf,hl=>by
  rw[A79,E8] at hf
  rw[A3S,A4l]
  by_cases hy:y=q8
  ·have hr:r.isEmpty=true:=by
    have h1:=hf.1
    subst hy
    unfold B3r at h1
    rw[show hasB 35 q8=true from C6k 35] at h1
    cases h2:r.isEmpty with
    |true=>rfl
    |false=>rw[h2] at h1;simp at h1
   simp[hy,hr]
  ·rw[if_neg hy]
   simp only[hy,decide_false,Bool.and_false,K8,S9]
   cases left with
   |nil=>rfl
   |cons x l=>
    have ih:=A9d r l hf.2 fun z hz=>hl z (C2 _ hz)
    simp only[T7,G5]
    by_cases h1:y=v8
    ·simp[h1,ih]
    ·by_cases h2:y=x
     ·simp[h2,ih]
     ·simp[h1,h2]
theorem C6b(c b:UInt8)(r:List UInt8)(x:List UInt8)(hx:x≠[]):∃y ys,lev c x r=y::ys∧y.head?=x.head?:=by
 induction r generalizing x with
 |nil=>exact⟨x,[],rfl,rfl⟩
 |cons a r ih=>
  unfold lev
  by_cases h:a=c
  ·rw[if_pos h];exact⟨x,_,rfl,rfl⟩
  ·rw[if_neg h]
   obtain⟨y,ys,h1,h2⟩:=ih (x++[a]) (by simp)
   refine⟨y,ys,h1,?_⟩
   rw[h2]
   cases x with
   |nil=>exact absurd rfl hx
   |cons z x=>rfl
theorem B2k{f y:B4p}{r:Path}(hs:f.size≠0)(h:levels f=y::r)(c:UInt8)(hc:c≠47):y.data.toList.head?=some c↔f.get! 0=c:=by
 have hd:=A28 f
 rw[h,B5] at hd
 obtain⟨⟨l⟩⟩:=f
 match l with
 |[]=>exact absurd rfl hs
 |b::l=>
  have e1:(ByteArray.mk (List.toArray (b::l))).get! 0=b:=rfl
  rw[e1]
  have e2:(ByteArray.mk (List.toArray (b::l))).data.toList=b::l:=rfl
  rw[e2] at hd
  unfold lev at hd
  by_cases hb:b=47
  ·rw[if_pos hb] at hd
   have h1:=(List.cons.inj hd).1
   rw[h1]
   simp only[List.head?_nil]
   constructor
   ·intro h;cases h
   ·intro h;exact absurd (h.symm.trans hb) hc
  ·rw[if_neg hb] at hd
   obtain⟨z,zs,h1,h2⟩:=C6b 47 b l ([]++[b]) (by simp)
   rw[h1] at hd
   have h3:=(List.cons.inj hd).1
   rw[h3,h2]
   simp
theorem B8E{x:B4p}{c:UInt8}(h:x.data.toList.head?=some c):hasB c x=true:=by
 unfold hasB
 rw[decide_eq_true_eq]
 exact List.mem_of_mem_head? (by rw[h];rfl)
theorem B8z(c:UInt8):(ByteArray.mk #[c]).data.toList.head?=some c:=rfl
theorem B4i{n:B4p}(h:a8 n=true):∀x∈levels n,x≠q8∧x≠v8:=by
 unfold a8 at h
 rw[E8,E8,O2,O2] at h
 have key:∀(c:UInt8),c≠47→hasB c n=false→∀x∈levels n,x≠ByteArray.mk #[c]:=by
  intro c hc hn x hx e
  subst e
  have hj:=A29 n
  have:c∈n.data.toList:=by
   rw[←hj]
   unfold A6e
   have dS:[c]∈(levels n).map (·.data.toList):=E3.2 ⟨_,hx,rfl⟩
   generalize(levels n).map (·.data.toList)=xs at dS
   have go:∀xs:List (List UInt8),[c]∈xs→c∈Lib.join xs [47]:=by
    intro xs fU
    obtain⟨y,ys,rfl⟩:=O0 (List.ne_nil_of_mem fU)
    rw[Lib.join_cons]
    rcases D3.1 fU with e|h
    ·rw[←e];simp
    ·refine G8 _ ?_
     unfold Lib.joinTail
     rw[List.mem_flatten]
     exact⟨[47]++[c],E3.2 ⟨_,h,rfl⟩,by simp⟩
   simpa using go xs dS
  unfold hasB at hn
  rw[decide_eq_false_iff_not] at hn
  exact hn this
 intro x hx
 exact⟨key 35 (by decide) h.2 x hx,key 43 (by decide) h.1.2 x hx⟩
theorem B4j{f n:B4p}(hf:Y2 f=true)(hn:a8 n=true):B9s (levels f) (levels n) (decide (n.get! 0=36))=Z8 f n:=by
 have hl:=B4i hn
 have hg:A4o (levels f)=true:=by unfold Y2 at hf;rw[E8] at hf;exact hf.2
 have hsz:f.size≠0:=(A1a.1 (A0o hf)).2.1
 unfold Z8 A35
 rw[hf,hn]
 simp only[G5]
 cases hd:decide (n.get! 0=36) with
 |false=>
  rw[A9d _ _ hg hl]
  simp
 |true=>
  obtain⟨y,r,hy⟩:=O0 (B3p f)
  rw[hy] at hg⊢
  rw[A79,E8] at hg
  have ew:=B2k hsz hy 43 (by decide)
  have hX:=B2k hsz hy 35 (by decide)
  have al:=hg.1
  unfold B3r at al
  rw[O2,Bool.or_eq_false_iff] at al
  have uK:f.get! 0=43↔y=v8:=by
   rw[←ew]
   constructor
   ·intro h
    have h1:=B8E h
    have h2:=al.1
    rw[h1] at h2
    simpa using h2
   ·intro h;rw[h];exact B8z 43
  have i35:f.get! 0=35↔y=q8:=by
   rw[←hX]
   constructor
   ·intro h
    have h1:=B8E h
    have h2:=al.2
    rw[h1] at h2
    simp only[G5,Bool.or_eq_false_iff,decide_eq_false_iff_not,Decidable.not_not] at h2
    exact h2.1
   ·intro h;rw[h];exact B8z 35
  rw[A3S,A4l]
  simp only[N7,K8,S9,G5]
  by_cases e1:y=v8
  ·have:decide (f.get! 0=43)=true:=decide_eq_true (uK.2 e1)
   rw[this]
   simp only[Bool.true_or,N7,K8]
   cases ke:levels n with
   |nil=>rfl
   |cons x l=>
    have:=(hl x (by rw[ke];exact B6 ..)).2
    have:decide (y=x)=false:=decide_eq_false (fun e=>this (e.symm.trans e1))
    simp[this]
  ·by_cases e2:y=q8
   ·have:decide (f.get! 0=35)=true:=decide_eq_true (i35.2 e2)
    rw[this]
    simp only[Bool.or_true,N7,K8]
    cases ke:levels n with
    |nil=>rfl
    |cons x l=>
     have:=(hl x (by rw[ke];exact B6 ..)).1
     have:decide (y=x)=false:=decide_eq_false (fun e=>this (e.symm.trans e2))
     simp[this]
   ·have d1:decide (f.get! 0=43)=false:=decide_eq_false (fun e=>e1 (uK.1 e))
    have d2:decide (f.get! 0=35)=false:=decide_eq_false (fun e=>e2 (i35.1 e))
    rw[d1,d2,if_neg e2]
    simp only[Bool.or_false,T7,G5]
    cases ke:levels n with
    |nil=>rfl
    |cons x l=>
     have ih:=A9d r l hg.2 fun z hz=>hl z (by rw[ke];exact C2 _ hz)
     by_cases e3:y=x
     ·simp[e3,ih]
     ·simp[e1,e3]
variable {h h0:Heap} {R:List Asn}
theorem C0Q{rb:Nat}{N:Nds}{L:List Ent}(hT:A0t rb N)(hA:A1e N L)(hk:QOK N){n:B4p}(hn:a8 n=true):
  (A2h N [] (levels n) (decide (n.get! 0=36))).Perm (L.filter fun x=>Z8 x.2.1 n):=by
 refine(P8 (B9x hT hA hk _ _ _ (B4i hn)) (hA.dE.nodup.filter _)).2 fun e=>?_
 rw[A5t hT hA hk,E6]
 constructor
 ·rintro⟨r,hr,h1,h2⟩
  rw[F0] at h2
  subst h2
  refine⟨h1,?_⟩
  rw[←B4j (hA.bR _ h1) hn]
  exact hr
 ·rintro⟨h1,h2⟩
  refine⟨levels e.2.1,?_,h1,rfl⟩
  rw[B4j (hA.bR _ h1) hn]
  exact h2
theorem C1i{M:Nds}(hn:(M.map (·.1)).Nodup)(h1:∀q∈M,(A1d q.1 q.2.q).Nodup∧∀e∈A1d q.1 q.2.q,levels e.2.1=q.1):(A1l M).Nodup:=by
 induction M with
 |nil=>exact List.nodup_nil
 |cons q M ih=>
  rw[B5,G0] at hn
  unfold A1l
  rw[D8,G3]
  refine⟨(h1 q (B6 ..)).1,ih hn.2 (fun q' ed=>h1 q' (C2 _ ed)),fun a ha b hb e=>?_⟩
  subst e
  obtain⟨q',ed,hm⟩:=T8.1 hb
  have e1:=(h1 q (B6 ..)).2 a ha
  have e2:=(h1 q' (C2 _ ed)).2 a hm
  exact hn.1 (E3.2 ⟨q',ed,by rw[←e2,e1]⟩)
theorem B2E{rb:Nat}{N:Nds}{L:List Ent}(hT:A0t rb N)(hA:A1e N L)(hk:QOK N):(A1l N).Perm L:=by
 have vT:∀q∈N,A4q N q.1=A1d q.1 q.2.q:=fun q hq=>B6y (A2Z hT.keys hq)
 have au:(A1l N).Nodup:=C1i hT.keys fun q hq=>by
  rw[←vT q hq]
  exact⟨A6h hk _,fun e he=>((A2r hA hk _ _).1 he).2⟩
 refine(P8 au hA.dE.nodup).2 fun e=>?_
 unfold A1l
 rw[T8]
 constructor
 ·rintro⟨q,hq,he⟩
  rw[←vT q hq] at he
  exact((A2r hA hk _ _).1 he).1
 ·intro he
  have h1:=(A2r hA hk (levels e.2.1) e).2 ⟨he,rfl⟩
  unfold A4q at h1
  cases hp:X0 N (levels e.2.1) with
  |none=>rw[hp] at h1;simp at h1
  |some nd=>
   rw[hp] at h1
   exact⟨(levels e.2.1,nd),A4k hp,h1⟩
theorem B7d{ys L:List Ent}{c:Ent→Bool}(ha:Asc L)(hp:ys.Perm (L.filter c))(hs:ys.Pairwise fun a b=>¬ltK (j3 b) (j3 a)):ys=L.filter c:=C1B hp (ha.filter _) hs
theorem B9e:∀{h':Heap},e8 eS 1 h' ⟨none,0,0⟩ []:=fun{h'}=>⟨rfl,D9 _,fun i x hx=>by simp at hx⟩
theorem C0d{t:Nat}{L:List Ent}(ht:TP h0){n:B4p}(hsz:n.size≤9223372036854775807)(hl:L.length≤10000)(hs:sat h (j5 t L::old h0::R)){Q:Value→Heap→Prop}
  (hq:∀(s:Slc) h',sat h' (V1 b6 3 s (L.filter fun x=>Z8 x.2.1 n)::j5 t L::old h0::R)→Q (.slice s.a s.len s.cap) h'):
  V9 prog 80 #[at9 t,.string n] h Q:=by
 refine A8J (some ⟨t,0,none⟩) n h Q ?_
 delta A8r bn cc cu cx ie kp nn pu rq vs vz
 refine W0 (fun x h'=>sat h' (old h0::j5 t L::R)∧x.1= !(a8 n)) ?_ ?_
 ·rw[V4,if_neg (by simp)]
  refine V3 (A3A hs.p1 ht hsz fun h1 aa=>⟨A2X n,rfl,aa,?_⟩)
  unfold A2X
  cases a8 n<;>rfl
 clear hs
 rintro⟨x,⟨⟩⟩ h1 ⟨aa,hx⟩
 simp only at hx
 subst hx
 rw[V4]
 by_cases hn:a8 n=true
 case neg=>
  rw[if_pos (by simpa using hn)]
  have e:(L.filter fun x=>Z8 x.2.1 n)=[]:=by
   rw[J3]
   intro x _ hx
   unfold Z8 at hx
   simp only[E8] at hx
   exact hn hx.1.1.2
  rw[e] at hq
  exact hq ⟨none,0,0⟩ h1 (Z2 aa.p1)
 rw[if_neg (by simp[hn])]
 obtain⟨N,C,hA,hC,ae⟩:=A0e.1 aa.p1
 obtain⟨cd,qG⟩:=B47 ae
 have hk:QOK N:=fun p nd hp=>(qG p nd hp).1
 obtain⟨rb,cm,hT,bt⟩:=A1M.1 ae
 have ai:sat h1 (cells t (trC rb cm)::old h0::p7 N::mapA A08 A1y cm C::R):=bt.re [0,3,1,2]
 clear bt ae aa
 have lv:=A1a.1 (A4R hn)
 refine⟨_,rfl,some ⟨rb,0,none⟩,by rw[V0];exact ai.cell 0,?_⟩
 (try dsimp only);rw[U7]
 refine⟨n.get! 0,S7 _,A3t (by omega),?_⟩
 refine V3 (A4x ai.p1 ht lv.2.2.1 fun sl h2 bk=>⟨sl,rfl,?_⟩)
 have ak:sat h2 (cells t (trC rb cm)::p7 N::V1 eS 1 sl (levels n)::old h0::mapA A08 A1y cm C::R):=bk.re [2,3,0,1,4]
 clear bk ai
 refine⟨some ⟨rb,0,none⟩,by rw[V0];exact ak.cell 0,rfl,?_⟩
 obtain⟨r,fb,cL⟩:=hT.root
 have ep:(some ⟨rb,0,none⟩:D0p)=(X0 N []).bind fun nd=>o5 nd:=by rw[fb];show _=o5 r;unfold o5;rw[cL]
 have eb:(((n.get! 0).toNat:Int)==36)=decide (n.get! 0=36):=A8i _ 36
 have dG:=C0Q hT hA hk hn
 have hlen:(A2h N [] (levels n) (decide (n.get! 0=36))).length≤10000:=by
  rw[dG.length_eq]
  exact C4 (D2 _ _) hl
 rw[ep,eb]
 refine V3 (C2u hT (hA.fA hk) _ (levels n) [] rfl (A:=V1 eS 1 sl (levels n)) (s1:=⟨none,0,0⟩) (out:=⟨none,0,0⟩) (es:=[]) (by simp only[G1];omega) (fun _=>B9e) (fun af=>af.aN A0Y) ((Z2 (ak.re [1,2,0,3,4])).p1) (by simp only[G1];omega) fun o l h3 hp aj=>⟨o,rfl,?_⟩)
 rw[F0] at aj
 refine u6 (B7i aj.p1 (by have:=hp.length_eq;omega) fun ys h4 gO gj aw=>⟨(),rfl,?_⟩)
 have e:=B7d hA.dE (gO.trans (hp.trans dG)) gj
 subst e
 refine hq o h4 ?_
 have aC:sat h4 (cells t (trC rb cm)::p7 N::mapA A08 A1y cm C::V1 b6 3 o (L.filter fun x=>Z8 x.2.1 n)::old h0::R):=(aw.re [2,3,1,5,0,4]).drop
 exact(A0e.2 ⟨N,C,hA,hC,A1M.2 ⟨rb,cm,hT,aC⟩⟩).p1
abbrev A6w(id:Int)(L:List Ent):List Ent:=L.filter fun x=>decide (x.1=id)
def C2F(x1 x2:Nat)(id:Int)(l:List Ent):Asn:=star (cells x1 #[.int .i64 id]) (exA fun s:Slc=>star (cells x2 #[.slice s.a s.len s.cap]) (V1 b6 3 s (A6w id l)))
theorem A9m{x1 x2:Nat}{id:Int}{l:List Ent}:sat h (C2F x1 x2 id l::R)↔∃s:Slc,sat h (cells x2 #[.slice s.a s.len s.cap]::V1 b6 3 s (A6w id l)::cells x1 #[.int .i64 id]::R):=by
 unfold C2F
 rw[sat.aI]
 constructor
 ·intro hs
  obtain⟨s,aa⟩:=sat.aZ.1 hs.p1
  exact⟨s,sat.aI.1 aa⟩
 ·rintro⟨s,hs⟩
  exact(sat.aZ.2 ⟨s,sat.aI.2 hs⟩).p1
theorem C5i{x1 x2:Nat}{id:Int}{l:List Ent}{e:Ent}(hl:l.length≤100000)(hs:sat h (C2F x1 x2 id l::R)){Q:Value→Heap→Prop}(hq:∀h',sat h' (C2F x1 x2 id (l++[e])::R)→Q (.tuple #[]) h'):
  V9 prog 168 #[.agg #[.int .i64 e.1,.string e.2.1,.int .i64 e.2.2],.pointer (some ⟨x1,0,none⟩),.pointer (some ⟨x2,0,none⟩)] h Q:=by
 refine A7z (e.1,e.2.1,e.2.2,()) ⟨x1,0,none⟩ ⟨x2,0,none⟩ h Q ?_
 delta A6P az bn ie ji lc li nw pu sx ve vi vs
 obtain⟨s,aa⟩:=A9m.1 hs
 refine W5 aa fun x h1 ae=>?_
 refine⟨e.1,by rw[V0];exact ae.cell 0,id,ae.p3.cell 0,?_⟩
 have bZ:(A6w id l).length≤100000:=C4 (D2 _ _) hl
 refine W0 (fun _ h'=>sat h' (C2F x1 x2 id (l++[e])::R)) ?_ ?_
 ·(try dsimp only);rw[V4]
  by_cases hid:e.1=id
  ·rw[if_pos (by simpa using hid)]
   refine⟨s,ae.p1.cell 0,?_⟩
   refine Z3 (ts:=[.int .i64,.str,.int .i64]) (e.1,e.2.1,e.2.2,()) ae rfl ?_
   refine W5 ae fun y h2 ai=>?_
   (try dsimp only);rw[U7]
   refine A0d (enc:=b6) (ys:=[e]) A0U A34 rfl ai.p3 rfl ?_ (by decide) (by decide) (by omega) fun s' h3 ak=>?_
   ·simp only[W4,N5,D8,I1,C1]
    exact ai.reads rfl
   (try dsimp only);rw[U7]
   refine X3 ak.p3 (by simp) rfl fun h4 aj=>?_
   have e1:A6w id (l++[e])=A6w id l++[e]:=by simp[A6w,F4,hid]
   refine A9m.2 ⟨s',?_⟩
   rw[e1]
   exact(aj.re [2,3,0,1,4]).drop.drop
  ·rw[if_neg (by simpa using hid)]
   have e1:A6w id (l++[e])=A6w id l:=by simp[A6w,F4,hid]
   refine A9m.2 ⟨s,?_⟩
   rw[e1]
   exact ae.drop
 rintro⟨⟩ h2 ae
 exact hq h2 ae
theorem C4c{t:Nat}{L:List Ent}{id:Int}(hl:L.length≤10000)(hs:sat h (j5 t L::R)){Q:Value→Heap→Prop}
  (hq:∀(s:Slc) h',sat h' (V1 b6 3 s (A6w id L)::j5 t L::R)→Q (.slice s.a s.len s.cap) h'):
  V9 prog 116 #[at9 t,.int .i64 id] h Q:=by
 refine A9Y (some ⟨t,0,none⟩) id h Q ?_
 delta B0l az cx ie kp lc nn nw pu vi vs vz
 refine W5 hs fun x1 h1 aa=>?_
 (try dsimp only);rw[V4,if_neg (by simp)]
 refine W5 aa fun x2 h2 ae=>?_
 obtain⟨N,C,hA,hC,ai⟩:=A0e.1 ae.p2
 obtain⟨cd,qG⟩:=B47 ai
 have hk:QOK N:=fun p nd hp=>(qG p nd hp).1
 obtain⟨rb,cm,hT,bk⟩:=A1M.1 ai
 have ak:sat h2 (cells t (trC rb cm)::p7 N::mapA A08 A1y cm C::cells x2 #[.slice none 0 0]::cells x1 #[.int .i64 id]::R):=bk
 clear bk ai ae aa hs
 have hp:=B2E hT hA hk
 obtain⟨r,fb,cL⟩:=hT.root
 refine⟨_,rfl,some ⟨rb,0,none⟩,by rw[V0];exact ak.cell 0,?_⟩
 have ep:(Value.pointer (some ⟨rb,0,none⟩))=.pointer (o5 r):=by unfold o5;rw[cL]
 (try dsimp only);rw[ep]
 have hJ:sat h2 (C2F x1 x2 id []::cells t (trC rb cm)::p7 N::mapA A08 A1y cm C::R):=by
  refine A9m.2 ⟨⟨none,0,0⟩,?_⟩
  have:=Z2 (enc:=b6) (size:=3) (ak.re [3,4,0,1,2])
  exact this.p1
 refine u6 (C1F hT (hA.fA hk) (yv:=.func (.func 168) #[] #[.pointer (some ⟨x1,0,none⟩),.pointer (some ⟨x2,0,none⟩)]) (J:=C2F x1 x2 id)
  (fun l e h R Q gB af ed=>⟨_,_,_,rfl,call168,C5i gB af fun h' jT=>⟨(),rfl,ed h' jT⟩⟩)
  _ [] r rfl fb (A:=cells t (trC rb cm)) (s:=⟨none,0,0⟩) (l:=[]) (fun _=>B9e) (by rw[A30];exact hJ.re [2,0,1,3]) (by rw[A30,hp.length_eq];simp;omega) fun l' h3 gC aj=>⟨(),rfl,?_⟩)
 rw[A30] at gC aj
 rw[F0] at aj
 obtain⟨s,aw⟩:=A9m.1 aj.p1
 clear aj ak hJ
 refine⟨s,aw.cell 0,?_⟩
 have xz:l'.length≤10000:=by rw[gC.length_eq,hp.length_eq];exact hl
 refine u6 (B7i aw.p1 (C4 (D2 _ _) (by omega)) fun ys h4 gO gj aC=>⟨(),rfl,?_⟩)
 have e:=B7d hA.dE (gO.trans ((gC.trans hp).filter _)) gj
 subst e
 refine⟨s,aC.p1.cell 0,?_⟩
 refine hq s h4 ?_
 have bq:sat h4 (cells t (trC rb cm)::p7 N::mapA A08 A1y cm C::V1 b6 3 s (A6w id L)::R):=(aC.re [1,2,4,3,5,0]).drop.drop
 exact(A0e.2 ⟨N,C,hA,hC,A1M.2 ⟨rb,cm,hT,bq⟩⟩).p1
end
section
open Go.H Go.Proofs
variable {h h0:Heap} {R:List Asn}
theorem A6L{t:Nat}{L:List Ent}(hs:sat h (j5 t L::R)):(∀x∈L,Y2 x.2.1=true)∧Asc L:=by
 obtain⟨N,C,hA,-,-⟩:=A0e.1 hs
 exact⟨hA.bR,hA.dE⟩
def C0I(D:List Ent)(x:Ent):Bool:= !(D.any fun y=>decide (y=x))
theorem B5Y{D:List Ent}{x:Ent}:C0I D x=true↔x∉D:=by
 unfold C0I
 rw[O2,List.any_eq_false]
 constructor
 ·intro h hx
  have:=h x hx
  simp at this
 ·intro h y hy e
  rw[decide_eq_true_eq] at e
  exact h (e▸hy)
abbrev A1q(id:Int)(L:List Ent):List Ent:=L.filter fun x=> !decide (x.1=id)
theorem C1Y{t:Nat}{L:List Ent}(ht:TP h0){id:Int}(hl:L.length≤10000)(hs:sat h (j5 t L::old h0::R)){Q:Value→Heap→Prop}
  (hq:∀h',sat h' (j5 t (A1q id L)::old h0::R)→Q (.int .i64 ((A6w id L).length:Nat)) h'):
  V9 prog 71 #[at9 t,.int .i64 id] h Q:=by
 refine A8W (some ⟨t,0,none⟩) id h Q ?_
 delta A8X bn cb cc ie ix jt nw pu sn ve vi wi
 obtain⟨bz,fL⟩:=A6L hs
 refine V3 (C4c hl hs fun s h1 aa=>⟨s,rfl,?_⟩)
 have hlen:=aa.aW
 have yO:(A6w id L).length≤L.length:=D2 _ _
 have hD:∀e,e∈A6w id L↔e∈L∧e.1=id:=fun e=>by rw[E6,decide_eq_true_eq]
 have bC:(L.filter fun x=>C0I (A6w id L) x)=A1q id L:=by
  refine L9 fun x hx=>?_
  apply Bool.eq_iff_iff.2
  rw[B5Y,hD,O2,decide_eq_false_iff_not]
  constructor
  ·exact fun h e=>h ⟨hx,e⟩
  ·exact fun h e=>h e.2
 generalize yP:A6w id L=D at*
 (try dsimp only);rw[U7]
 refine o7 (γ:=Nat) (hb:=fun s=>by
   repeat' with_reducible first
    |refine @A0C _ _ _ _ ?_ (fun _=>?_)
    |refine @A1b _ _ _ _ ?_ ?_
    |refine @A2f _ _ _ ?_
   all_goals infer_instance)
  (fun g x h'=>g≤D.length∧x.1=(g:Int)∧sat h' (V1 b6 3 s D::j5 t (L.filter fun x=>C0I (D.take g) x)::old h0::R)) (fun g=>D.length-g) 0
  ⟨C9 _,rfl,by
   have e0:(L.filter fun x=>C0I (D.take 0) x)=L:=H3.2 fun x _=>rfl
   rw[e0];exact aa⟩ ?_
 clear aa hs
 rintro i ⟨ci,⟨⟩⟩ h2 ⟨hi,bN,ae⟩
 simp only at hi bN ae
 subst bN
 have next:IntKind.wrap .i64 ((i:Int)+1)=((i+1:Nat):Int):=by rw[W6 (by omega) (by omega)];rfl
 simp only[V4,decide_eq_true_eq]
 by_cases ah:i<D.length
 ·rw[if_pos (by omega),U7]
  have hx:=B0 ah
  generalize D[i]=e at hx
  have xN:=E9 hx
  obtain⟨vO,qU⟩:=(hD e).1 xN
  refine Y0 (ae.aN A0U) hx fun a ha=>?_
  refine A0A (ts:=[.int .i64,.str,.int .i64]) (e.1,e.2.1,e.2.2,()) (fun j v hv=>ha j v hv) ?_
  refine W5 ae fun x6 h3 ai=>?_
  (try dsimp only);rw[U7]
  refine o4 ai rfl rfl fun h4 bk=>?_
  have ak:sat h4 (j5 t (L.filter fun x=>C0I (D.take i) x)::old h0::V1 b6 3 s D::cells x6 #[.int .i64 e.1,.string e.2.1,.int .i64 e.2.2]::R):=bk.re [2,3,1,0]
  clear bk ai ae
  refine⟨e.2.1,by rw[V0];exact ak.p3.cell 1,?_⟩
  have yM:=A2U (A0o (bz e vO))
  refine V3 (B1y ht (by omega) (C4 (D2 _ _) (by omega)) ak fun h5 aj=>⟨_,rfl,?_⟩)
  have dU:A1S (L.filter fun x=>C0I (D.take i) x) id e.2.1=L.filter fun x=>C0I (D.take (i+1)) x:=by
   unfold A1S
   rw[R7]
   refine L9 fun x wW=>?_
   have pY:D.take (i+1)=D.take i++[e]:=by rw[H5,hx];rfl
   rw[pY]
   have ga:j3 x=(id,e.2.1)↔x=e:=by
    constructor
    ·intro hk
     exact fL.key wW vO (hk.trans (by rw[←qU]))
    ·rintro rfl
     rw[←qU]
   apply Bool.eq_iff_iff.2
   rw[E8,decide_eq_true_eq,B5Y,B5Y,C7,B9]
   constructor
   ·rintro⟨h1,h2⟩ (h3|h3)
    ·exact h2 h3
    ·exact h1 (ga.2 h3)
   ·exact fun h1=>⟨fun h2=>h1 (.inr (ga.1 h2)),fun h2=>h1 (.inl h2)⟩
  rw[dU] at aj
  simp only[D5,E4,V8]
  exact .mk (i+1) (by omega) ⟨by omega,next,(aj.re [3,2,0,1]).drop⟩
 ·rw[if_neg (by omega)]
  have:i=D.length:=by omega
  subst this
  rw[F5,bC] at ae
  simp only[D5,E4,V8]
  rw[hlen]
  exact hq h2 ae.drop
def A0l(r:Nat)(L:List Ent):Asn:=exA fun s:Slc=>star (cells r #[.slice s.a s.len s.cap]) (V1 b6 3 s L)
theorem A06{r:Nat}{L:List Ent}:sat h (A0l r L::R)↔∃s:Slc,sat h (cells r #[.slice s.a s.len s.cap]::V1 b6 3 s L::R):=by
 unfold A0l
 rw[sat.aZ]
 constructor
 ·rintro⟨s,hs⟩;exact⟨s,sat.aI.1 hs⟩
 ·rintro⟨s,hs⟩;exact⟨s,sat.aI.2 hs⟩
theorem A3K{α:Type}{L:List α}{i:Nat}{x:α}(hx:L[i]? =some x)(c:α→Bool):(L.take (i+1)).filter c=(L.take i).filter c++(if c x=true then[x] else[]):=by
 rw[H5,hx,F4]
 simp only[Option.toList_some,I0,J9]
theorem B9k{r:Nat}{L:List Ent}{id:Int}{f:B4p}(hl:L.length≤10000)(hs:sat h (A0l r L::R)){Q:Value→Heap→Prop}
  (hq:∀h',sat h' (A0l r (A1S L id f)::R)→Q (.bool (decide ((A1S L id f).length<L.length))) h'):
  V9 prog 198 #[at9 r,.int .i64 id,.string f] h Q:=by
 refine B03 (some ⟨r,0,none⟩) id f h Q ?_
 delta B1T az bn ie ix kc ki kt nn nw pu sx ve vi vs wi
 obtain⟨s,aa⟩:=A06.1 hs
 have hlen:=aa.p1.aW
 rw[U7]
 refine o7 (γ:=Nat) (hb:=fun s=>by
   repeat' with_reducible first
    |refine @A0C _ _ _ _ ?_ (fun _=>?_)
    |refine @A1b _ _ _ _ ?_ ?_
    |refine @A2f _ _ _ ?_
   all_goals infer_instance)
  (fun g x h'=>g≤L.length∧x.2.1=(g:Int)∧sat h' (cells r #[.slice s.a s.len s.cap]::V1 b6 3 s L::V1 b6 3 x.1 (A1S (L.take g) id f)::R)) (fun g=>L.length-g) 0
  ⟨C9 _,rfl,by simpa[A1S] using(Z2 (enc:=b6) (size:=3) aa).re [1,2,0]⟩ ?_
 clear aa hs
 rintro i ⟨o,ci,⟨⟩⟩ h2 ⟨hi,bN,ae⟩
 simp only at hi bN ae
 subst bN
 have next:IntKind.wrap .i64 ((i:Int)+1)=((i+1:Nat):Int):=by rw[W6 (by omega) (by omega)];rfl
 have cr:∀{h':Heap} {R':List Asn},sat h' (cells r #[.slice s.a s.len s.cap]::R')→W8 h' ⟨r,0,none⟩=some (.slice s.a s.len s.cap):=fun af=>af.cell 0
 refine⟨_,rfl,s,by rw[V0];exact cr ae,?_⟩
 (try dsimp only);rw[V4]
 by_cases ah:i<L.length
 ·rw[if_pos (by simp only[decide_eq_true_eq];omega)]
  have hx:=B0 ah
  generalize L[i]=e at hx
  refine W0 (fun x h'=>h'=h2∧x.1=decide (j3 e≠(id,f))) ?_ ?_
  ·refine⟨_,rfl,s,by rw[V0];exact cr ae,?_⟩
   (try dsimp only);rw[U7]
   refine Y0 (ae.p1.aN A0U) hx fun a ha=>?_
   refine⟨e.1,ha 0 _ rfl,?_⟩
   (try dsimp only);rw[V4]
   by_cases h1:e.1=id
   ·rw[if_neg (by simp[h1])]
    refine⟨_,rfl,s,by rw[V0];exact cr ae,?_⟩
    (try dsimp only);rw[U7]
    refine Y0 (ae.p1.aN A0U) hx fun a ha=>?_
    refine⟨e.2.1,ha 1 _ rfl,rfl,?_⟩
    simp[h1]
   ·rw[if_pos (by simp[h1])]
    exact⟨rfl,by simp[h1]⟩
  rintro⟨x,⟨⟩⟩ h3 ⟨rfl,uN⟩
  simp only at uN
  subst uN
  have dD:=A3K hx (fun x:Ent=>decide (j3 x≠(id,f)))
  have mm:(A1S (L.take i) id f).length≤10000:=C4 (D2 _ _) (by rw[D6];omega)
  refine W0 (fun z h'=>sat h' (cells r #[.slice s.a s.len s.cap]::V1 b6 3 s L::V1 b6 3 z.1 (A1S (L.take (i+1)) id f)::R)) ?_ ?_
  ·(try dsimp only);rw[V4]
   unfold A1S at mm ae⊢
   rw[dD]
   by_cases hk:decide (j3 e≠(id,f))=true
   ·rw[if_pos hk,if_pos hk]
    refine⟨_,rfl,s,by rw[V0];exact cr ae,?_⟩
    (try dsimp only);rw[U7]
    refine Y0 (ae.p1.aN A0U) hx fun a ha=>?_
    refine A0A (ts:=[.int .i64,.str,.int .i64]) (e.1,e.2.1,e.2.2,()) (fun j v hv=>ha j v hv) ?_
    refine W5 ae fun y h4 ai=>?_
    (try dsimp only);rw[U7]
    refine A0d (enc:=b6) (ys:=[e]) A0U A34 rfl ai.p3 rfl ?_ (by decide) (by decide) (by omega) fun s' h5 ak=>?_
    ·simp only[W4,N5,D8,I1,C1]
     exact ai.reads rfl
    exact(ak.re [1,2,3,0]).drop
   ·rw[if_neg hk,if_neg hk,C1]
    exact ae
  rintro⟨o',⟨⟩⟩ h4 ak
  simp only[D5,E4,V8]
  exact .mk (i+1) (by omega) ⟨by omega,next,ak⟩
 ·rw[if_neg (by simp only[decide_eq_true_eq];omega)]
  have:i=L.length:=by omega
  subst this
  rw[F5] at ae
  simp only[D5,E4,V8]
  have gl:=ae.p2.aW
  refine⟨_,rfl,s,by rw[V0];exact cr ae,_,rfl,?_⟩
  (try dsimp only);rw[U7,V0]
  refine X3 ae (by simp) rfl fun h5 aj=>?_
  have:=hq h5 (A06.2 ⟨o,(aj.re [1,0,2]).drop⟩)
  have e1:decide (((o.len:Nat):Int)<((s.len:Nat):Int))=decide ((A1S L id f).length<L.length):=by
   rw[F8,gl,hlen];omega
  rw[←e1] at this
  exact this
theorem C2f{r:Nat}{L:List Ent}{id:Int}(hl:L.length≤10000)(hs:sat h (A0l r L::R)){Q:Value→Heap→Prop}
  (hq:∀h',sat h' (A0l r (A1q id L)::R)→Q (.int .i64 ((A6w id L).length:Nat)) h'):
  V9 prog 134 #[at9 r,.int .i64 id] h Q:=by
 refine B3j (some ⟨r,0,none⟩) id h Q ?_
 delta B5P az bn ie ix kc ki nn nw pu sx ve vi vs wi
 obtain⟨s,aa⟩:=A06.1 hs
 have hlen:=aa.p1.aW
 rw[U7]
 refine o7 (γ:=Nat) (hb:=fun s=>by
   repeat' with_reducible first
    |refine @A0C _ _ _ _ ?_ (fun _=>?_)
    |refine @A1b _ _ _ _ ?_ ?_
    |refine @A2f _ _ _ ?_
   all_goals infer_instance)
  (fun g x h'=>g≤L.length∧x.2.1=(g:Int)∧sat h' (cells r #[.slice s.a s.len s.cap]::V1 b6 3 s L::V1 b6 3 x.1 (A1q id (L.take g))::R)) (fun g=>L.length-g) 0
  ⟨C9 _,rfl,by simpa[A1q] using(Z2 (enc:=b6) (size:=3) aa).re [1,2,0]⟩ ?_
 clear aa hs
 rintro i ⟨o,ci,⟨⟩⟩ h2 ⟨hi,bN,ae⟩
 simp only at hi bN ae
 subst bN
 have next:IntKind.wrap .i64 ((i:Int)+1)=((i+1:Nat):Int):=by rw[W6 (by omega) (by omega)];rfl
 have cr:∀{h':Heap} {R':List Asn},sat h' (cells r #[.slice s.a s.len s.cap]::R')→W8 h' ⟨r,0,none⟩=some (.slice s.a s.len s.cap):=fun af=>af.cell 0
 refine⟨_,rfl,s,by rw[V0];exact cr ae,?_⟩
 (try dsimp only);rw[V4]
 by_cases ah:i<L.length
 ·rw[if_pos (by simp only[decide_eq_true_eq];omega)]
  have hx:=B0 ah
  generalize L[i]=e at hx
  refine⟨_,rfl,s,by rw[V0];exact cr ae,?_⟩
  (try dsimp only);rw[U7]
  refine Y0 (ae.p1.aN A0U) hx fun a ha=>?_
  refine⟨e.1,ha 0 _ rfl,?_⟩
  have dD:=A3K hx (fun x:Ent=> !decide (x.1=id))
  have mm:(A1q id (L.take i)).length≤10000:=C4 (D2 _ _) (by rw[D6];omega)
  refine W0 (fun z h'=>sat h' (cells r #[.slice s.a s.len s.cap]::V1 b6 3 s L::V1 b6 3 z.1 (A1q id (L.take (i+1)))::R)) ?_ ?_
  ·(try dsimp only);rw[V4]
   unfold A1q at mm ae⊢
   rw[dD]
   have eb:(!(e.1==id))=(!decide (e.1=id)):=rfl
   by_cases hk:(!decide (e.1=id))=true
   ·rw[if_pos (by rw[eb];exact hk),if_pos hk]
    refine⟨_,rfl,s,by rw[V0];exact cr ae,?_⟩
    (try dsimp only);rw[U7]
    refine Y0 (ae.p1.aN A0U) hx fun a ha=>?_
    refine A0A (ts:=[.int .i64,.str,.int .i64]) (e.1,e.2.1,e.2.2,()) (fun j v hv=>ha j v hv) ?_
    refine W5 ae fun y h4 ai=>?_
    (try dsimp only);rw[U7]
    refine A0d (enc:=b6) (ys:=[e]) A0U A34 rfl ai.p3 rfl ?_ (by decide) (by decide) (by omega) fun s' h5 ak=>?_
    ·simp only[W4,N5,D8,I1,C1]
     exact ai.reads rfl
    exact(ak.re [1,2,3,0]).drop
   ·rw[if_neg (by rw[eb];exact hk),if_neg hk,C1]
    exact ae
  rintro⟨o',⟨⟩⟩ h4 ak
  simp only[D5,E4,V8]
  exact .mk (i+1) (by omega) ⟨by omega,next,ak⟩
 ·rw[if_neg (by simp only[decide_eq_true_eq];omega)]
  have:i=L.length:=by omega
  subst this
  rw[F5] at ae
  simp only[D5,E4,V8]
  have gl:=ae.p2.aW
  refine⟨_,rfl,s,by rw[V0];exact cr ae,_,rfl,?_⟩
  (try dsimp only);rw[U7,V0]
  refine X3 ae (by simp) rfl fun h5 aj=>?_
  have:=hq h5 (A06.2 ⟨o,(aj.re [1,0,2]).drop⟩)
  have th:(A6w id L).length+(A1q id L).length=L.length:=by
   have:=(List.filter_append_perm (fun x:Ent=>decide (x.1=id)) L).length_eq
   rw[B3] at this
   exact this
  have e1:IntKind.wrap .i64 (((s.len:Nat):Int)-((o.len:Nat):Int))=(((A6w id L).length:Nat):Int):=by
   rw[gl,hlen,W6 (by omega) (by omega)];omega
  (try dsimp only)
  rw[e1]
  exact this
theorem B9l{r:Nat}{L:List Ent}{n:B4p}(hg:∀x∈L,x.2.1.size≤9223372036854775800)(hsz:n.size≤9223372036854775800)(hl:L.length≤10000)(hs:sat h (A0l r L::R)){Q:Value→Heap→Prop}
  (hq:∀(o:Slc) h',sat h' (V1 b6 3 o (L.filter fun x=>Z8 x.2.1 n)::A0l r L::R)→Q (.slice o.a o.len o.cap) h'):
  V9 prog 137 #[at9 r,.string n] h Q:=by
 refine B1U (some ⟨r,0,none⟩) n h Q ?_
 delta B4a az bn cb ie ix kc kt nn nw pu ve vi wi
 obtain⟨s,aa⟩:=A06.1 hs
 have hlen:=aa.p1.aW
 rw[U7]
 refine o7 (γ:=Nat) (hb:=fun s=>by
   repeat' with_reducible first
    |refine @A0C _ _ _ _ ?_ (fun _=>?_)
    |refine @A1b _ _ _ _ ?_ ?_
    |refine @A2f _ _ _ ?_
   all_goals infer_instance)
  (fun g x h'=>g≤L.length∧x.2.1=(g:Int)∧sat h' (cells r #[.slice s.a s.len s.cap]::V1 b6 3 s L::V1 b6 3 x.1 ((L.take g).filter fun x=>Z8 x.2.1 n)::R)) (fun g=>L.length-g) 0
  ⟨C9 _,rfl,by simpa using(Z2 (enc:=b6) (size:=3) aa).re [1,2,0]⟩ ?_
 clear aa hs
 rintro i ⟨o,ci,⟨⟩⟩ h2 ⟨hi,bN,ae⟩
 simp only at hi bN ae
 subst bN
 have next:IntKind.wrap .i64 ((i:Int)+1)=((i+1:Nat):Int):=by rw[W6 (by omega) (by omega)];rfl
 have cr:∀{h':Heap} {R':List Asn},sat h' (cells r #[.slice s.a s.len s.cap]::R')→W8 h' ⟨r,0,none⟩=some (.slice s.a s.len s.cap):=fun af=>af.cell 0
 refine⟨_,rfl,s,by rw[V0];exact cr ae,?_⟩
 (try dsimp only);rw[V4]
 by_cases ah:i<L.length
 ·rw[if_pos (by simp only[decide_eq_true_eq];omega)]
  have hx:=B0 ah
  generalize L[i]=e at hx
  refine⟨_,rfl,s,by rw[V0];exact cr ae,?_⟩
  (try dsimp only);rw[U7]
  refine Y0 (ae.p1.aN A0U) hx fun a ha=>?_
  refine⟨e.2.1,ha 1 _ rfl,?_⟩
  refine V3 (B4e ae (hg e (E9 hx)) hsz fun h3 ai=>⟨Z8 e.2.1 n,rfl,?_⟩)
  have dD:=A3K hx (fun x:Ent=>Z8 x.2.1 n)
  have mm:((L.take i).filter fun x=>Z8 x.2.1 n).length≤10000:=C4 (D2 _ _) (by rw[D6];omega)
  refine W0 (fun z h'=>sat h' (cells r #[.slice s.a s.len s.cap]::V1 b6 3 s L::V1 b6 3 z.1 ((L.take (i+1)).filter fun x=>Z8 x.2.1 n)::R)) ?_ ?_
  ·(try dsimp only);rw[V4,dD]
   by_cases hk:Z8 e.2.1 n=true
   ·rw[if_pos hk,if_pos hk]
    refine⟨_,rfl,s,by rw[V0];exact cr ai,?_⟩
    (try dsimp only);rw[U7]
    refine Y0 (ai.p1.aN A0U) hx fun a ha=>?_
    refine A0A (ts:=[.int .i64,.str,.int .i64]) (e.1,e.2.1,e.2.2,()) (fun j v hv=>ha j v hv) ?_
    refine W5 ai fun y h4 ak=>?_
    (try dsimp only);rw[U7]
    refine A0d (enc:=b6) (ys:=[e]) A0U A34 rfl ak.p3 rfl ?_ (by decide) (by decide) (by omega) fun s' h5 aj=>?_
    ·simp only[W4,N5,D8,I1,C1]
     exact ak.reads rfl
    exact(aj.re [1,2,3,0]).drop
   ·rw[if_neg hk,if_neg hk,C1]
    exact ai
  rintro⟨o',⟨⟩⟩ h4 ak
  simp only[D5,E4,V8]
  exact .mk (i+1) (by omega) ⟨by omega,next,ak⟩
 ·rw[if_neg (by simp only[decide_eq_true_eq];omega)]
  have:i=L.length:=by omega
  subst this
  rw[F5] at ae
  simp only[D5,E4,V8]
  refine hq o h2 ?_
  exact(A06.2 ⟨s,ae.re [0,1,2]⟩).p1
end
section
open Go.H Go.Proofs
variable {h h0:Heap} {R:List Asn}
theorem C3b(hs:sat h R){a b:Ent}{Q:Value→Heap→Prop}(hq:∀h',sat h' R→Q (.bool (decide (ltK (j3 a) (j3 b)))) h'):
  V9 prog 247 #[.agg #[.int .i64 a.1,.string a.2.1,.int .i64 a.2.2],.agg #[.int .i64 b.1,.string b.2.1,.int .i64 b.2.2]] h Q:=by
 refine B1S (a.1,a.2.1,a.2.2,()) (b.1,b.2.1,b.2.2,()) h Q ?_
 delta B39 bn ie ji jt nw pu vi
 refine W5 hs fun x1 h1 aa=>?_
 refine W5 aa fun x2 h2 ae=>?_
 refine W0 (fun z h'=>h'=h2∧z.1=decide (ltK (j3 a) (j3 b))) ?_ ?_
 ·refine⟨a.1,by rw[V0];exact ae.p1.cell 0,b.1,by rw[V0];exact ae.cell 0,?_⟩
  (try dsimp only);rw[V4]
  by_cases h1:a.1<b.1
  ·rw[if_pos (by simpa using h1)]
   exact⟨rfl,(decide_eq_true (.inl h1)).symm⟩
  ·rw[if_neg (by simpa using h1)]
   refine⟨a.1,by rw[V0];exact ae.p1.cell 0,b.1,by rw[V0];exact ae.cell 0,?_⟩
   (try dsimp only);rw[V4]
   by_cases h2:a.1=b.1
   ·rw[if_pos (by simpa using h2)]
    refine⟨a.2.1,by rw[V0];exact ae.p1.cell 1,b.2.1,by rw[V0];exact ae.cell 1,rfl,?_⟩
    apply Bool.eq_iff_iff.2
    rw[B6a,decide_eq_true_eq,decide_eq_true_eq]
    constructor
    ·intro h3;exact .inr ⟨h2,h3⟩
    ·rintro(h3|h3)
     ·exact absurd h3 h1
     ·exact h3.2
   ·rw[if_neg (by simpa using h2)]
    refine⟨rfl,(decide_eq_false ?_).symm⟩
    rintro(h3|h3)
    ·exact h1 h3
    ·exact h2 h3.1
 rintro⟨z,⟨⟩⟩ h3 ⟨rfl,hz⟩
 simp only at hz
 subst hz
 exact hq h3 ae.drop.drop
theorem C6G{L:List Ent}{i:Nat}{x:Ent}(hx:L[i]? =some x)(k:Int):A1i (L.take (i+1)) k=A1i (L.take i) k+if x.1=k then 1 else 0:=by
 unfold A1i
 rw[H5,hx,B8,List.count_append]
 simp[List.count_cons]
theorem C4w{r:Nat}{L:List Ent}{id q:Int}{f:B4p}(hsz:f.size≤9223372036854775800)(hl:L.length≤10000)(hs:sat h (A0l r L::R)){Q:Value→Heap→Prop}
  (al:Y2 f=false→∀h',sat h' (A0l r L::R)→Q (.int .i64 143) h')
  (fy:Y2 f=true→(q<0∨2<q)→∀h',sat h' (A0l r L::R)→Q (.int .i64 155) h')
  (eZ:Y2 f=true→0≤q→q≤2→∀i x,L[i]? =some x→j3 x=(id,f)→(∀y∈L.take i,j3 y≠(id,f))→∀h',sat h' (A0l r (L.set i (id,f,q))::R)→Q (.int .i64 0) h')
  (ax:Y2 f=true→0≤q→q≤2→(∀x∈L,j3 x≠(id,f))→64≤A1i L id→∀h',sat h' (A0l r L::R)→Q (.int .i64 151) h')
  (jl:Y2 f=true→0≤q→q≤2→(∀x∈L,j3 x≠(id,f))→A1i L id<64→∀h',sat h' (A0l r (A2z ltK j3 (id,f,q) L)::R)→Q (.int .i64 0) h'):
  V9 prog 196 #[at9 r,C5p id f q] h Q:=by
 refine B4R (some ⟨r,0,none⟩) (id,f,q,()) h Q ?_
 delta B8d az bn cb ci ie ix ji jt kc ki kt nn nw pu sx ve vi vs wi
 refine W5 hs fun x1 h1 aa=>?_
 have hE:∀{h':Heap} {R':List Asn},sat h' (cells x1 #[.int .i64 id,.string f,.int .i64 q]::R')→W8 h' ⟨x1,0,none⟩=some (.int .i64 id)∧W8 h' ⟨x1,1,none⟩=some (.string f)∧W8 h' ⟨x1,2,none⟩=some (.int .i64 q):=fun af=>⟨af.cell 0,af.cell 1,af.cell 2⟩
 refine⟨f,by rw[V0];exact(hE aa).2.1,?_⟩
 refine V3 (A52 aa hsz fun h2 ae=>⟨B0E f,rfl,?_⟩)
 clear aa hs
 (try dsimp only);rw[V4]
 unfold B0E
 by_cases hf:Y2 f=true
 case neg=>
  rw[if_neg hf,if_pos (by decide)]
  exact al (by simpa using hf) h2 ae.drop
 rw[if_pos hf,if_neg (by decide)]
 clear al
 refine W0 (fun x h'=>h'=h2∧(x.1=true↔(q<0∨2<q))) ?_ ?_
 ·refine⟨q,by rw[V0];exact(hE ae).2.2,?_⟩
  (try dsimp only);rw[V4]
  by_cases g1:q<0
  ·rw[if_pos (by simpa using g1)]
   exact⟨rfl,by simp[g1]⟩
  ·rw[if_neg (by simpa using g1)]
   exact⟨q,by rw[V0];exact(hE ae).2.2,rfl,by simp[g1]⟩
 rintro⟨x,⟨⟩⟩ h3 ⟨rfl,hx⟩
 simp only at hx
 rw[V4]
 by_cases g:q<0∨2<q
 ·rw[if_pos (hx.2 g)]
  exact fy hf g h3 ae.drop
 rw[if_neg (fun e=>g (hx.1 e))]
 clear hx fy
 have i':0≤q:=by omega
 have fc:q≤2:=by omega
 clear g
 obtain⟨s,bt⟩:=A06.1 ae.p1
 have ai:sat h3 (cells r #[.slice s.a s.len s.cap]::V1 b6 3 s L::cells x1 #[.int .i64 id,.string f,.int .i64 q]::R):=bt
 clear bt ae
 have hlen:=ai.p1.aW
 have cr:∀{h':Heap} {R':List Asn},sat h' (cells r #[.slice s.a s.len s.cap]::R')→W8 h' ⟨r,0,none⟩=some (.slice s.a s.len s.cap):=fun af=>af.cell 0
 have cntb:∀g,A1i (L.take g) id≤10000:=fun g=>C4 (B63 _ _) (by rw[D6];omega)
 rw[U7]
 refine o7 (γ:=Nat) (hb:=fun s=>by
   repeat' with_reducible first
    |refine @A0C _ _ _ _ ?_ (fun _=>?_)
    |refine @A1b _ _ _ _ ?_ ?_
    |refine @A2f _ _ _ ?_
    |refine @C4E _ _ _ _ _ _ (fun _=>?_) (fun _=>?_)
   all_goals infer_instance)
  (fun g x h'=>g≤L.length∧x.2.1=(g:Int)∧x.1=(A1i (L.take g) id:Int)∧(∀y∈L.take g,j3 y≠(id,f))∧
   sat h' (cells r #[.slice s.a s.len s.cap]::V1 b6 3 s L::cells x1 #[.int .i64 id,.string f,.int .i64 q]::R)) (fun g=>L.length-g) 0
  ⟨C9 _,rfl,by simp[A1i],by simp,ai⟩ ?_
 clear ai
 rintro i ⟨n,ci,⟨⟩⟩ h4 ⟨hi,bN,cd,ay,ak⟩
 simp only at hi bN cd ay ak
 subst bN
 have next:IntKind.wrap .i64 ((i:Int)+1)=((i+1:Nat):Int):=by rw[W6 (by omega) (by omega)];rfl
 refine⟨_,rfl,s,by rw[V0];exact cr ak,?_⟩
 (try dsimp only);rw[V4]
 by_cases ah:i<L.length
 ·rw[if_pos (by simp only[decide_eq_true_eq];omega)]
  have hx:=B0 ah
  generalize L[i]=e at hx
  have gG:=C6G hx id
  have yN:=cntb i
  have nokey:j3 e≠(id,f)→∀y∈L.take (i+1),j3 y≠(id,f):=by
   intro he y hy
   rw[H5,hx] at hy
   rcases C7.1 hy with hy|hy
   ·exact ay y hy
   ·simp at hy;subst hy;exact he
  refine W0 (fun z h'=>(∃m,z=.inl (m,())∧m=(A1i (L.take (i+1)) id:Int)∧j3 e≠(id,f)∧sat h' (cells r #[.slice s.a s.len s.cap]::V1 b6 3 s L::cells x1 #[.int .i64 id,.string f,.int .i64 q]::R))∨
   (z=.inr (.inr (.inr (0,())))∧j3 e=(id,f)∧sat h' (cells r #[.slice s.a s.len s.cap]::V1 b6 3 s (L.set i (id,f,q))::cells x1 #[.int .i64 id,.string f,.int .i64 q]::R))) ?_ ?_
  ·refine⟨_,rfl,s,by rw[V0];exact cr ak,?_⟩
   (try dsimp only);rw[U7]
   refine Y0 (ak.p1.aN A0U) hx fun a ha=>?_
   refine⟨e.1,ha 0 _ rfl,id,by rw[V0];exact(hE ak.p2).1,?_⟩
   (try dsimp only);rw[V4]
   by_cases h1:e.1=id
   ·rw[if_neg (by simp[h1])]
    rw[if_pos h1] at gG
    refine⟨_,rfl,s,by rw[V0];exact cr ak,?_⟩
    (try dsimp only);rw[U7]
    refine Y0 (ak.p1.aN A0U) hx fun a ha=>?_
    refine⟨e.2.1,ha 1 _ rfl,f,by rw[V0];exact(hE ak.p2).2.1,?_⟩
    (try dsimp only);rw[V4]
    by_cases h2:e.2.1=f
    ·rw[if_pos (by simpa using h2)]
     refine⟨_,rfl,s,by rw[V0];exact cr ak,q,by rw[V0];exact(hE ak.p2).2.2,?_⟩
     (try dsimp only);rw[U7]
     refine B9F A0U ak.p1 hx fun p hp bF=>?_
     (try dsimp only);rw[U7]
     refine bF 2 _ (id,f,q) _ (by decide) (by simp[h1,h2]) rfl fun h5 aj=>?_
     exact .inr ⟨rfl,by rw[←h1,←h2],aj.p1⟩
    ·rw[if_neg (by simpa using h2)]
     refine .inl ⟨_,rfl,?_,fun hk=>h2 (congrArg Prod.snd hk),ak⟩
     rw[cd,W6 (by omega) (by omega),gG]
     rfl
   ·rw[if_pos (by simp[h1])]
    rw[if_neg h1] at gG
    exact .inl ⟨_,rfl,by rw[cd,gG];rfl,fun hk=>h1 (congrArg Prod.fst hk),ak⟩
  rintro z h5 (⟨m,rfl,hm,hk,aj⟩|⟨rfl,hk,aj⟩)
  ·simp only[D5,E4,V8]
   exact .mk (i+1) (by omega) ⟨by omega,next,hm,nokey hk,aj⟩
  ·simp only[D5,E4,V8]
   exact eZ hf i' fc i e hx hk ay h5 (A06.2 ⟨s,(aj.re [2,0,1]).drop⟩)
 rw[if_neg (by simp only[decide_eq_true_eq];omega)]
 have:i=L.length:=by omega
 subst this
 rw[F5] at cd ay
 simp only[D5,E4,V8]
 clear eZ next ah hi
 rw[V4]
 by_cases bZ:64≤A1i L id
 ·rw[if_pos (by rw[cd];simp only[decide_eq_true_eq];omega)]
  exact ax hf i' fc ay bZ h4 (A06.2 ⟨s,(ak.re [2,0,1]).drop⟩)
 rw[if_neg (by rw[cd];simp only[decide_eq_true_eq];omega)]
 clear ax
 refine W0 (fun x h'=>(if x.1=true then ∃out,out=A2z ltK j3 (id,f,q) L∧sat h' (V1 b6 3 x.2.1 out::cells r #[.slice s.a s.len s.cap]::V1 b6 3 s L::cells x1 #[.int .i64 id,.string f,.int .i64 q]::R)
   else ∃out,out++[(id,f,q)]=A2z ltK j3 (id,f,q) L∧sat h' (V1 b6 3 x.2.1 out::cells r #[.slice s.a s.len s.cap]::V1 b6 3 s L::cells x1 #[.int .i64 id,.string f,.int .i64 q]::R))) ?_ ?_
 ·refine o7 (γ:=Nat×List Ent) (hb:=fun s=>by
    repeat' with_reducible first
     |refine @A0C _ _ _ _ ?_ (fun _=>?_)
     |refine @A1b _ _ _ _ ?_ ?_
     |refine @A2f _ _ _ ?_
    all_goals infer_instance)
   (fun g x h'=>g.1≤L.length∧x.2.2.1=(g.1:Int)∧g.2.length≤2*g.1∧(if x.1=true then g.2++L.drop g.1=A2z ltK j3 (id,f,q) L else g.2++A2z ltK j3 (id,f,q) (L.drop g.1)=A2z ltK j3 (id,f,q) L)∧
    sat h' (V1 b6 3 x.2.1 g.2::cells r #[.slice s.a s.len s.cap]::V1 b6 3 s L::cells x1 #[.int .i64 id,.string f,.int .i64 q]::R)) (fun g=>L.length-g.1) (0,[])
   ⟨C9 _,rfl,by simp,by simp,Z2 ak⟩ ?_
  clear ak
  rintro⟨i,out⟩ ⟨put,o,ci,⟨⟩⟩ h5 ⟨hi,bN,gl,hJ,aj⟩
  simp only at hi bN gl hJ aj
  subst bN
  have next:IntKind.wrap .i64 ((i:Int)+1)=((i+1:Nat):Int):=by rw[W6 (by omega) (by omega)];rfl
  refine⟨_,rfl,s,by rw[V0];exact cr aj.p1,?_⟩
  (try dsimp only);rw[V4]
  by_cases ah:i<L.length
  ·rw[if_pos (by simp only[decide_eq_true_eq];omega)]
   have fI:=E0 ah
   have hx:=B0 ah
   generalize L[i]=e at hx fI
   refine Z3 (ts:=[.int .i64,.str,.int .i64]) (id,f,q,()) aj.p3 rfl ?_
   refine⟨_,rfl,s,by rw[V0];exact cr aj.p1,?_⟩
   (try dsimp only);rw[U7]
   refine Y0 (aj.p2.aN A0U) hx fun a ha=>?_
   refine A0A (ts:=[.int .i64,.str,.int .i64]) (e.1,e.2.1,e.2.2,()) (fun j v hv=>ha j v hv) ?_
   refine V3 (C3b (a:=(id,f,q)) (b:=e) aj fun h6 aw=>⟨_,rfl,?_⟩)
   refine W0 (fun z h'=>h'=h6∧z.1=(decide (ltK (id,f) (j3 e))&& !put)) ?_ ?_
   ·(try dsimp only);rw[V4]
    by_cases h1:ltK (id,f) (j3 e)
    ·rw[if_pos (by simpa using h1)];exact⟨rfl,by simp[h1]⟩
    ·rw[if_neg (by simpa using h1)];exact⟨rfl,by simp[h1]⟩
   rintro⟨z,⟨⟩⟩ h7 ⟨rfl,hz⟩
   simp only at hz
   subst hz
   refine W0 (fun z h'=>∃out',out'.length≤out.length+1∧(if z.2.1=true then out'++e::L.drop (i+1)=A2z ltK j3 (id,f,q) L else out'++e::A2z ltK j3 (id,f,q) (L.drop (i+1))=A2z ltK j3 (id,f,q) L)∧
    sat h' (V1 b6 3 z.1 out'::cells r #[.slice s.a s.len s.cap]::V1 b6 3 s L::cells x1 #[.int .i64 id,.string f,.int .i64 q]::R)) ?_ ?_
   ·(try dsimp only);rw[V4]
    rw[fI] at hJ
    by_cases hc:(decide (ltK (id,f) (j3 e))&& !put)=true
    ·rw[if_pos hc]
     rw[E8,decide_eq_true_eq,O2] at hc
     obtain⟨bf,rfl⟩:=hc
     refine Z3 (ts:=[.int .i64,.str,.int .i64]) (id,f,q,()) aw.p3 rfl ?_
     refine W5 aw fun y h8 bq=>?_
     (try dsimp only);rw[U7]
     refine A0d (enc:=b6) (ys:=[(id,f,q)]) A0U A34 rfl bq.p1 rfl ?_ (by decide) (by decide) (by omega) fun s' h9 eA=>?_
     ·simp only[W4,N5,D8,I1,C1]
      exact bq.reads rfl
     refine⟨out++[(id,f,q)],by simp,?_,(eA.re [1,0,2,3,4]).drop⟩
     rw[if_neg (by simp)] at hJ
     rw[if_pos rfl,←hJ,A2z,if_pos bf,D7]
     rfl
    ·rw[if_neg hc]
     refine⟨out,by omega,?_,aw⟩
     (try dsimp only)
     cases put with
     |true=>exact hJ
     |false=>
      rw[if_neg (by simp)] at hJ⊢
      rw[A2z,if_neg (by simpa using hc)] at hJ
      exact hJ
   rintro⟨o',put',⟨⟩⟩ h8 ⟨out',xp,pq,bq⟩
   simp only at pq bq
   refine⟨_,rfl,s,by rw[V0];exact cr bq.p1,?_⟩
   (try dsimp only);rw[U7]
   refine Y0 (bq.p2.aN A0U) hx fun a ha=>?_
   refine A0A (ts:=[.int .i64,.str,.int .i64]) (e.1,e.2.1,e.2.2,()) (fun j v hv=>ha j v hv) ?_
   refine W5 bq fun y h9 eA=>?_
   (try dsimp only);rw[U7]
   refine A0d (enc:=b6) (ys:=[e]) A0U A34 rfl eA.p1 rfl ?_ (by decide) (by decide) (by omega) fun s' gm gv=>?_
   ·simp only[W4,N5,D8,I1,C1]
    exact eA.reads rfl
   simp only[D5,E4,V8]
   refine .mk (i+1,out'++[e]) (by simp only[];omega) ⟨by simp only[];omega,next,by simp only[B3,B7,G1];omega,?_,(gv.re [1,0,2,3,4]).drop⟩
   simp only[D7,List.singleton_append]
   exact pq
  ·rw[if_neg (by simp only[decide_eq_true_eq];omega)]
   have:i=L.length:=by omega
   subst this
   rw[K9] at hJ
   simp only[D5,E4,V8]
   cases put with
   |true=>
    rw[if_pos rfl] at hJ⊢
    rw[C1] at hJ
    exact⟨out,hJ,aj⟩
   |false=>
    rw[if_neg (by simp)] at hJ⊢
    exact⟨out,hJ,aj⟩
 clear ak
 rintro⟨put,o,ci,⟨⟩⟩ h5 aj
 simp only at aj
 have cF:(A2z ltK j3 (id,f,q) L).length=L.length+1:=(A1U ltK j3 _ L).length_eq
 refine W0 (fun z h'=>sat h' (V1 b6 3 z.1 (A2z ltK j3 (id,f,q) L)::cells r #[.slice s.a s.len s.cap]::V1 b6 3 s L::R)) ?_ ?_
 ·(try dsimp only);rw[V4]
  cases put with
  |true=>
   rw[if_neg (by simp)]
   rw[if_pos rfl] at aj
   obtain⟨out,rfl,aw⟩:=aj
   exact(aw.re [3,0,1,2]).drop
  |false=>
   rw[if_pos (by simp)]
   rw[if_neg (by simp)] at aj
   obtain⟨out,ho,aw⟩:=aj
   have gl:out.length≤20000:=by
    have:=congrArg List.length ho
    rw[B3,cF] at this
    simp at this
    omega
   refine Z3 (ts:=[.int .i64,.str,.int .i64]) (id,f,q,()) aw.p3 rfl ?_
   refine W5 aw fun y h8 bq=>?_
   (try dsimp only);rw[U7]
   refine A0d (enc:=b6) (ys:=[(id,f,q)]) A0U A34 rfl bq.p1 rfl ?_ (by decide) (by decide) (by omega) fun s' h9 eA=>?_
   ·simp only[W4,N5,D8,I1,C1]
    exact bq.reads rfl
   rw[ho] at eA
   exact(eA.re [1,4,0,2,3]).drop.drop
 rintro⟨o',⟨⟩⟩ h6 aw
 simp only at aw
 refine⟨_,rfl,?_⟩
 (try dsimp only);rw[U7,V0]
 refine X3 aw.p1 (by simp) rfl fun h7 aC=>?_
 exact jl hf i' fc ay (by omega) h7 (A06.2 ⟨o',(aC.re [2,0,1]).drop⟩)
end
section
open Go.H Go.Proofs
structure Z7 where
 c:Int
 aG:Int
 bE:Bool
 aX:MsT
structure i6 where
 last:Int
 aG:List W7
 aH:List Ent
 kept:List l7
 aB:List Z7
structure u5 where
 conn:Int
 pk:PkO
 close:Bool
structure V6 where
 b:i6
 outs:List u5
 aT:List MsT
structure PkI where
 kind:Int
 dH:Bool
 eT:Int
 id:Int
 cD:B4p
 cU:B4p
 code:Int
 props:List r8
 aD:B4p
 clean:Bool
 bE:Bool
 aX:MsT
 aH:List (B4p×Int×Bool×Bool×Int)
 bO:List B4p
abbrev A03(k id:Int)(cs:List Int):PkO:=⟨k,false,false,0,id,e0S,e0S,0,[],cs,false⟩
abbrev A2b(s:Bool):PkO:=⟨2,false,false,0,0,e0S,e0S,0,[],[],s⟩
abbrev B4B(E:List Ent)(B:i6):i6:=⟨B.last,B.aG,E,B.kept,B.aB⟩
abbrev B1n(C:List Z7)(B:i6):i6:=⟨B.last,B.aG,B.aH,B.kept,C⟩
abbrev tB(B:i6)(T:V6):V6:=⟨B,T.outs,T.aT⟩
abbrev A0S(A:List W7)(T:V6):V6:=⟨⟨T.b.last,A,T.b.aH,T.b.kept,T.b.aB⟩,T.outs,T.aT⟩
abbrev C0e(K:List l7)(T:V6):V6:=⟨⟨T.b.last,T.b.aG,T.b.aH,K,T.b.aB⟩,T.outs,T.aT⟩
abbrev A1z(E:List Ent)(T:V6):V6:=⟨⟨T.b.last,T.b.aG,E,T.b.kept,T.b.aB⟩,T.outs,T.aT⟩
def Y4(k:Int)(f:W7→W7)(A:List W7):List W7:=A.map fun s=>if s.id=k then f s else s
def A5x(k:Int)(A:List W7):Option W7:=A.find? fun s=>decide (s.id=k)
def ofS(c:B4p)(A:List W7):Option W7:=A.find? fun s=>decide (s.aD=c)
def A1I(c:Int)(l:List Z7):Option Z7:=l.find? fun x=>decide (x.c=c)
abbrev A0N(o:u5)(t:V6):V6:={t with outs:=t.outs++[o]}
def A2v(l:List Z7)(id:Int)(ps:List PkO):List u5:=(l.filter fun x=>decide (x.aG=id)).flatMap fun x=>ps.map fun p=>⟨x.c,p,false⟩
abbrev u0(id:Int)(ps:List PkO)(t:V6):V6:={t with outs:=t.outs++A2v t.b.aB id ps}
abbrev Y9(o:b7)(s:W7):W7:={s with out:=o}
abbrev k9(p:y9)(s:W7):W7:={s with bA:=p}
def A01(id:Int)(f:b7→b7×List PkO)(t:V6):V6:=match A5x id t.b.aG with
 |none=>t
 |some s=>u0 id (f s.out).2 (A0S (Y4 id (Y9 (f s.out).1) t.b.aG) t)
def A5w:Option Int→List Ent→List Int
 |_,[]=>[]
 |p,e::l=>if p=some e.1 then A5w p l else e.1::A5w (some e.1) l
def A2L(l:List Ent)(id:Int):Int:=(l.filter fun e=>decide (e.1=id)).foldl (fun q e=>max q e.2.2) 0
noncomputable def A1o(m:MsT)(l:List Ent)(t:V6)(id:Int):V6:=A01 id (fun o=>(Z1 o (m.1,m.2.1,min m.2.2.1 (A2L l id),false,e0S)).1) t
def A2i(m:MsT)(t:V6):V6:=if m.2.2.2.1=true then C0e (B0R 64 t.b.kept (m.1,m.2.1,m.2.2.1,())).2 t else t
noncomputable def A0Q(m:MsT)(t:V6):V6:=
 (A5w none (t.b.aH.filter fun x=>Z8 x.2.1 m.1)).foldl (A1o m (t.b.aH.filter fun x=>Z8 x.2.1 m.1)) (A2i m t)
noncomputable def A4d(m:MsT)(t:V6):V6:={A0Q m t with aT:=(A0Q m t).aT++[m]}
def A8O(s:W7):W7:={s with on:=false,out:={s.out with on:=false}}
def A9q(k:Int)(b:i6):i6:=match A5x k b.aG with
 |none=>b
 |some s=>if s.on=false then b
  else if s.aO=true then{b with aG:=Y4 k A8O b.aG}
  else{b with aG:=b.aG.filter (fun x=>decide (x.id≠k)),aH:=A1q k b.aH}
noncomputable def A4U(full:Bool)(c:Int)(aX:Bool)(t:V6):V6:=match A1I c t.b.aB with
 |none=>t
 |some x=>
  let t1:V6:=tB (A9q x.aG (B1n (t.b.aB.filter fun y=>decide (y.c≠c)) t.b)) t
  if aX=true∧x.bE=true∧full=false then A4d x.aX t1 else t1
noncomputable def A0O(full:Bool)(c code:Int)(t:V6):V6:=A4U full c true (A0N ⟨c,l6 14 0 code,true⟩ t)
instance(c:B4p):Decidable (i7 c):=by unfold i7;infer_instance
def A6J(p:PkI)(b:i6):Int:=
 if p.bE=true∧a8 p.aX.1=false then 144
 else if 64≤b.aB.length then 151
 else if ¬i7 p.aD then 133
 else if ofS p.aD b.aG=none∧32≤b.aG.length then 151
 else 0
def A02(id:Int)(l:List r8):Option r8:=l.find? fun p=>decide (p.1=id)
noncomputable def A3q(full:Bool)(s:W7)(t:V6):V6:=match t.b.aB.find? fun x=>decide (x.aG=s.id) with
 |none=>t
 |some x=>A0O full x.c 142 t
def j8(aD:B4p)(clean aO:Bool)(b:i6):(Int×Bool)×i6:=match ofS aD b.aG with
 |some s=>if clean=false then((s.id,true),{b with aG:=Y4 s.id (fun s=>{s with on:=true,aO:=aO}) b.aG})
  else((b.last+1,false),{b with last:=b.last+1,aG:=b.aG.filter (fun x=>decide (x.id≠s.id))++[A2E (b.last+1) aD aO]})
 |none=>((b.last+1,false),{b with last:=b.last+1,aG:=b.aG++[A2E (b.last+1) aD aO]})
def A1Y(l:List r8):Int:=match A02 33 l with
 |some p=>p.2.1
 |none=>64
def A0n(l:List r8):Bool:=match A02 17 l with
 |some p=>decide (0<p.2.1)
 |none=>false
noncomputable def C2z(full:Bool)(c:Int)(p:PkI)(t:V6):V6:=
 let old:=ofS p.aD t.b.aG
 let t1:=match old with|some s=>A3q full s t|none=>t
 let r:=j8 p.aD p.clean (A0n p.props) t1.b
 let b2:=match old with|some s=>if s.id≠r.1.1 then B4B (A1q s.id r.2.aH) r.2 else r.2|none=>r.2
 let b3:=B1n (b2.aB++[⟨c,r.1.1,p.bE,(p.aX.1,p.aX.2.1,p.aX.2.2.1,p.aX.2.2.2.1,e0S)⟩]) b2
 A01 r.1.1 (fun o=>A0z o (A1Y p.props)) (A0N ⟨c,A2b r.1.2,false⟩ (tB b3 t1))
noncomputable def A1T(full:Bool)(c:Int)(p:PkI)(t:V6):V6:=
 if A6J p t.b≠0 then A0N ⟨c,l6 2 0 (A6J p t.b),true⟩ t else C2z full c p t
def A31(a:Option (Int×Int))(id:Int):List PkO:=match a with
 |some (k,c)=>[l6 k id c]
 |none=>[]
noncomputable def A8t(full:Bool)(x:Z7)(p:PkI)(t:V6):V6:=
 if p.kind=3∧a8 p.cD=false then A0O full x.c 144 t
 else match A5x x.aG t.b.aG with
  |none=>t
  |some s=>
   let r:=q7 s.bA p.kind p.eT p.id (if full=true then 151 else 0)
   let t1:V6:=A0S (Y4 x.aG (k9 ⟨s.bA.most,s.bA.taken,r.2.2.2⟩) t.b.aG) t
   if r.2.2.1≠0 then A0O full x.c r.2.2.1 t1
   else
    let t2:=u0 x.aG (A31 r.2.1 p.id) t1
    if r.1=true∧full=false then A4d (p.cD,p.cU,p.eT,p.dH,e0S) t2 else t2
noncomputable def A37(full:Bool)(x:Z7)(p:PkI)(t:V6):V6:=match A5x x.aG t.b.aG with
 |none=>t
 |some s=>if(A09 s.out p.kind p.id p.code).2≠0 then A0O full x.c (A09 s.out p.kind p.id p.code).2 t
  else A01 x.aG (fun o=>(A09 o p.kind p.id p.code).1) t
def A2P(L:List Ent)(id:Int)(f:B4p)(q:Int):Int×List Ent:=
 if Y2 f=false then(143,L)
 else if q<0∨2<q then(155,L)
 else match L.findIdx? (fun x=>decide (j3 x=(id,f))) with
  |some i=>(0,L.set i (id,f,q))
  |none=>if 64≤A1i L id then(151,L) else(0,A2z ltK j3 (id,f,q) L)
abbrev A0L:=B4p×Int×Bool×Bool×Int
def l9(id:Int):List A0L→List Ent→List Ent×List Int
 |[],L=>(L,[])
 |s::l,L=>
  let r:=A2P L id s.1 s.2.1
  let z:=l9 id l r.2
  (z.1,(if r.1=0 then s.2.1 else r.1)::z.2)
def added(id:Int):List A0L→List Ent→List A0L
 |[],_=>[]
 |s::l,L=>(if(A2P L id s.1 s.2.1).1=0 then[s] else[])++added id l (A2P L id s.1 s.2.1).2
noncomputable def A0X(id:Int)(s:A0L)(t:V6)(m:l7):V6:=A01 id (fun o=>(Z1 o (m.1,m.2.1,min m.2.2.1 s.2.1,true,e0S)).1) t
noncomputable def l0(id:Int)(t:V6)(s:A0L):V6:=if s.2.2.2.2=2 then t else(A6z t.b.kept s.1).foldl (A0X id s) t
noncomputable def A1u(x:Z7)(p:PkI)(t:V6):V6:=
 (added x.aG p.aH t.b.aH).foldl (l0 x.aG)
  (A0N ⟨x.c,A03 9 p.id (l9 x.aG p.aH t.b.aH).2,false⟩ (A1z (l9 x.aG p.aH t.b.aH).1 t))
def A0Z(id:Int):List B4p→List Ent→List Ent×List Int
 |[],L=>(L,[])
 |f::l,L=>
  let z:=A0Z id l (A1S L id f)
  (z.1,(if(A1S L id f).length<L.length then 0 else 17)::z.2)
def A1L(x:Z7)(p:PkI)(t:V6):V6:=
 A0N ⟨x.c,A03 11 p.id (A0Z x.aG p.bO t.b.aH).2,false⟩ (A1z (A0Z x.aG p.bO t.b.aH).1 t)
noncomputable def B06(full:Bool)(x:Z7)(p:PkI)(t:V6):V6:=
 if p.kind=3∨p.kind=6 then A8t full x p t
 else if p.kind=4∨p.kind=5∨p.kind=7 then A37 full x p t
 else if p.kind=8∧1≤p.id∧p.id≤65535∧p.aH≠[] then A1u x p t
 else if p.kind=10∧1≤p.id∧p.id≤65535∧p.bO≠[] then A1L x p t
 else if p.kind=12 then A0N ⟨x.c,l6 13 0 0,false⟩ t
 else if p.kind=14 then A4U full x.c (decide (p.code=4)) t
 else A0O full x.c 130 t
noncomputable def j9(full:Bool)(c:Int)(p:PkI)(b:i6):V6:=match A1I c b.aB with
 |some x=>B06 full x p ⟨b,[],[]⟩
 |none=>if p.kind=1 then A1T full c p ⟨b,[],[]⟩ else⟨b,[⟨c,l6 14 0 130,true⟩],[]⟩
noncomputable def A8z(full:Bool)(c:Int)(b:i6):V6:=A4U full c true ⟨b,[],[]⟩
noncomputable def A1r(m:MsT)(b:i6):V6:=A0Q m ⟨b,[],[]⟩
def A2d(b:i6):i6:=(b.aB.map (·.c)).foldl (fun b c=>match A1I c b.aB with
 |none=>b
 |some x=>A9q x.aG (B1n (b.aB.filter fun y=>decide (y.c≠c)) b)) b
variable {h h0:Heap} {L L' L1 L2 R:List Asn} {Q:Value→Heap→Prop}
abbrev OuT:=Int×Pk×Bool
abbrev A1p(k:IntKind)(x:OuT):D0r:=.int .i64 x.1::(X4 k x.2.1++[.bool x.2.2])
instance(k:IntKind):Enc (A1p k) 28:=⟨fun _=>rfl,fun x v hv=>by
 have:(A1p k x).all (fun v=>v.oneCell')=true:=rfl
 exact J1.1 this v hv,by decide⟩
abbrev ouF(t:Slc×Slc×u5):OuT:=(t.2.2.conn,pkT t.2.2.pk t.1 t.2.1,t.2.2.close)
def ouB(k:IntKind)(t:Slc×Slc×u5):Asn:=pkB k (t.1,t.2.1,t.2.2.pk)
def W3(k:IntKind)(s:Slc)(os:List u5):Asn:=exA fun T:List (Slc×Slc×u5)=>star (pr (T.map (·.2.2)=os)) (star (V1 (A1p k) 28 s (T.map ouF)) (b8 (ouB k) T))
theorem A3m{k:IntKind}{s:Slc}{os:List u5}:sat h (W3 k s os::R)↔∃T:List (Slc×Slc×u5),T.map (·.2.2)=os∧sat h (V1 (A1p k) 28 s (T.map ouF)::b8 (ouB k) T::R):=by
 unfold W3
 rw[sat.aZ]
 simp only[sat.aI,sat.bB]
theorem B18{k:IntKind}(hs:sat h R):sat h (W3 k ⟨none,0,0⟩ []::R):=A3m.2 ⟨[],rfl,Z2 (A2F.2 hs)⟩
theorem C88{β:Type}{k:IntKind}{s:Slc}{os:List u5}{o:u5}{c p:Slc}{elem:TypeId}{bytes b:Nat}{cs:D0q}{zero:D0q}{f:Slc→HM β}{Q':β→Heap→Prop}{L3:List Asn}
  (hw:∀s',W (W3 k s' (os++[o])::L3) (f s') Q')(hb:(os.length+1)*bytes≤140737488355328)(hx:Has L (W3 k s os) L1:=by repeat first|with_reducible exact V5|apply V7)(hy:Has L1 (pkB k (c,p,o.pk)) L2:=by repeat first|with_reducible exact V5|apply V7)(hc:Has L2 (cells b cs) L3:=by repeat first|with_reducible exact V5|apply V7)
  (he:cs=(A1p k (o.conn,pkT o.pk c p,o.close)).toArray:=by rfl)(hz:zero.size=28:=by rfl)(gI:0<bytes:=by decide):
  W L (HM.bind (HM.append elem 28 bytes zero s 1 (W4 28 ⟨some ⟨b,0,none⟩,1,1⟩)) f) Q':=fun h hs=>by
 obtain⟨X,rfl,h1⟩:=A3m.1 ((hx.cQ hy hc).s hs)
 have hlen:(X.map ouF).length=(X.map (·.2.2)).length:=by simp
 refine B0k (L:=V1 (A1p k) 28 s (X.map ouF)::cells b cs::b8 (ouB k) X::pkB k (c,p,o.pk)::L3) (xs:=X.map ouF) (enc:=A1p k) ((o.conn,pkT o.pk c p,o.close):OuT) (fun s'=>?_) (by rw[hlen];exact hb) V5 V5 he hz gI h (h1.re [0,3,1,2])
 intro h' af
 refine hw s' h' (A3m.2 ⟨X++[(c,p,o)],by simp,?_⟩)
 rw[B8]
 exact(A5G.2 (((A3Z (f:=ouB k) (x:=(c,p,o))).2 (af.re [2,0,1])).re [2,0,1])).p1
abbrev tC:List Tag:=[.int .i64,.bool,.str,.str,.int .i64,.bool,.str]
abbrev B8M(x:Z7):Tup tC:=(x.aG,x.bE,x.aX.1,x.aX.2.1,x.aX.2.2.1,x.aX.2.2.2.1,x.aX.2.2.2.2,())
abbrev A0g(x:Z7):Int×Tup tC:=(x.c,B8M x)
abbrev eVC:Tup tC→Value:=Kind.val (.agg tC)
def A1k(b:Nat)(K:List l7):Asn:=exA fun l:List (B4p×l7)=>star (pr (Sto 64 l K)) (B7t b 64 l)
def A1g(b:Nat)(last:Int)(A:List W7):Asn:=exA fun L:List (Nat×W7)=>star (pr (L.map (·.2)=A)) (A1P b last L)
theorem A0j{b:Nat}{last:Int}{A:List W7}:sat h (A1g b last A::R)↔∃L:List (Nat×W7),L.map (·.2)=A∧sat h (A1P b last L::R):=by
 unfold A1g
 rw[sat.aZ]
 simp only[sat.aI,sat.bB]
theorem A3V{b:Nat}{K:List l7}:sat h (A1k b K::R)↔∃l:List (B4p×l7),Sto 64 l K∧sat h (B7t b 64 l::R):=by
 unfold A1k
 rw[sat.aZ]
 simp only[sat.aI,sat.bB]
structure C3k where
 tb:Nat
 sb:Nat
 kb:Nat
 cm:Nat
abbrev A6I(p:C3k):D0q:=#[at0 p.tb,at9 p.sb,B14 p.kb,.map (some p.cm)]
def A0r(b:Nat)(B:i6):Asn:=exA fun p:C3k=>A00 [cells b (A6I p),A1g p.tb B.last B.aG,j5 p.sb B.aH,A1k p.kb B.kept,mapA eKI eVC p.cm (B.aB.map A0g)]
theorem A0I{b:Nat}{B:i6}:sat h (A0r b B::R)↔∃p:C3k,sat h (cells b (A6I p)::A1g p.tb B.last B.aG::j5 p.sb B.aH::A1k p.kb B.kept::mapA eKI eVC p.cm (B.aB.map A0g)::R):=by
 unfold A0r
 rw[sat.aZ]
 simp only[sat.bW]
 rfl
def thA(t b:Nat)(full:Bool)(os:List u5)(ps:List MsT):Asn:=exA fun x:Slc×Slc=>A00 [cells t #[at0 b,.bool full,.slice x.1.a x.1.len x.1.cap,.slice x.2.a x.2.len x.2.cap],W3 .u8 x.1 os,V1 Z5 5 x.2 ps]
theorem A2H{t b:Nat}{full:Bool}{os:List u5}{ps:List MsT}:sat h (thA t b full os ps::R)↔∃(so sp:Slc),sat h (cells t #[at0 b,.bool full,.slice so.a so.len so.cap,.slice sp.a sp.len sp.cap]::W3 .u8 so os::V1 Z5 5 sp ps::R):=by
 unfold thA
 rw[sat.aZ]
 simp only[sat.bW]
 exact⟨fun⟨x,hh⟩=>⟨x.1,x.2,hh⟩,fun⟨a,b,hh⟩=>⟨(a,b),hh⟩⟩
def Y3(t b:Nat)(full:Bool)(T:V6):Asn:=star (thA t b full T.outs T.aT) (A0r b T.b)
theorem A04{t b:Nat}{full:Bool}{T:V6}:sat h (Y3 t b full T::R)↔sat h (thA t b full T.outs T.aT::A0r b T.b::R):=sat.aI
theorem p9{t b:Nat}{full:Bool}{T:V6}(hs:sat h (Y3 t b full T::R)):∃(so sp:Slc) (p:C3k),sat h (cells t #[at0 b,.bool full,.slice so.a so.len so.cap,.slice sp.a sp.len sp.cap]::W3 .u8 so T.outs::V1 Z5 5 sp T.aT::
   cells b (A6I p)::A1g p.tb T.b.last T.b.aG::j5 p.sb T.b.aH::A1k p.kb T.b.kept::mapA eKI eVC p.cm (T.b.aB.map A0g)::R):=by
 obtain⟨so,sp,h1⟩:=A2H.1 (A04.1 hs)
 obtain⟨p,h2⟩:=A0I.1 (h1.re [3,0,1,2])
 exact⟨so,sp,p,h2.re [5,6,7,0,1,2,3,4]⟩
theorem B5h{t b:Nat}{full:Bool}{T:V6}{so sp:Slc}{p:C3k}(hs:sat h (cells t #[at0 b,.bool full,.slice so.a so.len so.cap,.slice sp.a sp.len sp.cap]::W3 .u8 so T.outs::V1 Z5 5 sp T.aT::
   cells b (A6I p)::A1g p.tb T.b.last T.b.aG::j5 p.sb T.b.aH::A1k p.kb T.b.kept::mapA eKI eVC p.cm (T.b.aB.map A0g)::R)):sat h (Y3 t b full T::R):=by
 have h1:=A0I.2 ⟨p,hs.re [3,4,5,6,7,0,1,2]⟩
 exact A04.2 (A2H.2 ⟨so,sp,h1.re [1,2,3,0]⟩)
theorem W.bJ{α:Type}{m:HM α}{Q':α→Heap→Prop}{t b:Nat}{full:Bool}{M1 M2 M3 M4 M5 M6 M7 M8:List Asn}(T:V6)(so sp:Slc)(p:C3k)(hw:W (Y3 t b full T::M8) m Q')
  (h1:Has L (cells t #[at0 b,.bool full,.slice so.a so.len so.cap,.slice sp.a sp.len sp.cap]) M1:=by repeat first|with_reducible exact V5|apply V7)(h2:Has M1 (W3 .u8 so T.outs) M2:=by repeat first|with_reducible exact V5|apply V7)(h3:Has M2 (V1 Z5 5 sp T.aT) M3:=by repeat first|with_reducible exact V5|apply V7)(h4:Has M3 (cells b (A6I p)) M4:=by repeat first|with_reducible exact V5|apply V7)(h5:Has M4 (A1g p.tb T.b.last T.b.aG) M5:=by repeat first|with_reducible exact V5|apply V7)(h6:Has M5 (j5 p.sb T.b.aH) M6:=by repeat first|with_reducible exact V5|apply V7)(h7:Has M6 (A1k p.kb T.b.kept) M7:=by repeat first|with_reducible exact V5|apply V7)(h8:Has M7 (mapA eKI eVC p.cm (T.b.aB.map A0g)) M8:=by repeat first|with_reducible exact V5|apply V7):W L m Q':=fun h hs=>hw h (B5h ((Sub.cons h1 (Sub.cons h2 (Sub.cons h3 (Sub.cons h4 (Sub.cons h5 (Sub.cons h6 (Sub.cons h7 (Sub.cons h8 Sub.rfl)))))))).s hs))
theorem At.bJ{q:Heap→Prop}{t b:Nat}{full:Bool}{M1 M2 M3 M4 M5 M6 M7 M8:List Asn}(T:V6)(so sp:Slc)(p:C3k)(hw:At (Y3 t b full T::M8) q)
  (h1:Has L (cells t #[at0 b,.bool full,.slice so.a so.len so.cap,.slice sp.a sp.len sp.cap]) M1:=by repeat first|with_reducible exact V5|apply V7)(h2:Has M1 (W3 .u8 so T.outs) M2:=by repeat first|with_reducible exact V5|apply V7)(h3:Has M2 (V1 Z5 5 sp T.aT) M3:=by repeat first|with_reducible exact V5|apply V7)(h4:Has M3 (cells b (A6I p)) M4:=by repeat first|with_reducible exact V5|apply V7)(h5:Has M4 (A1g p.tb T.b.last T.b.aG) M5:=by repeat first|with_reducible exact V5|apply V7)(h6:Has M5 (j5 p.sb T.b.aH) M6:=by repeat first|with_reducible exact V5|apply V7)(h7:Has M6 (A1k p.kb T.b.kept) M7:=by repeat first|with_reducible exact V5|apply V7)(h8:Has M7 (mapA eKI eVC p.cm (T.b.aB.map A0g)) M8:=by repeat first|with_reducible exact V5|apply V7):At L q:=fun h hs=>hw h (B5h ((Sub.cons h1 (Sub.cons h2 (Sub.cons h3 (Sub.cons h4 (Sub.cons h5 (Sub.cons h6 (Sub.cons h7 (Sub.cons h8 Sub.rfl)))))))).s hs))
theorem C3r{t b:Nat}{full:Bool}{os:List u5}{ps:List MsT}{c:Int}{o:PkO}{ci pi:Slc}(hb:os.length≤100000000)(hq:At (thA t b full (os++[⟨c,o,false⟩]) ps::L2) (Q (.tuple #[])))
  (hx:Has L (thA t b full os ps) L1:=by repeat first|with_reducible exact V5|apply V7)(hy:Has L1 (pkB .u8 (ci,pi,o)) L2:=by repeat first|with_reducible exact V5|apply V7):FW prog 67 #[at0 t,.int .i64 c,A2B .u8 (pkT o ci pi)] L Q:=by
 refine fun h hs=>A8k (some ⟨t,0,none⟩) c (pkT o ci pi) h Q ((?_:W (thA t b full os ps::pkB .u8 (ci,pi,o)::L2) _ _) h ((hx.then hy).s hs))
 clear hs h hx hy
 have dA:(os.length+1)*344≤140737488355328:=by omega
 delta A7p az bn A1h kc nn nw pu rq sx vi vs w10 w11 w12 w13 w14 w15 w16 w17 w18 w19 w20 w21 w22 w23 w24 w25 w5 w6 w7 w8 w9
 refine Y8 fun x1=>?_
 refine W9 ?_
 refine A7t (fun h R=>A2H.1) fun so sp=>?_
 refine j0 (v:=so) ?_
 refine u7 (v:=pkT o ci pi) ?_
 refine Y8 fun x5=>?_
 refine j0 (v:=so) ?_
 refine A1t ?_ rfl
 refine C88 (k:=.u8) (s:=so) (os:=os) (o:=⟨c,o,false⟩) (c:=ci) (p:=pi) (fun s'=>?_) dA
 refine W9 ?_
 refine A4v (cs':=#[at0 b,.bool full,.slice s'.a s'.len s'.cap,.slice sp.a sp.len sp.cap]) ?_
 refine B0j (A:=thA t b full (os++[⟨c,o,false⟩]) ps) (fun h hs=>A2H.2 ⟨s',sp,hs⟩) ?_
 exact U9 hq.sub
theorem B87{t b:Nat}{full:Bool}{T:V6}{c:Int}{o:PkO}{ci pi:Slc}(hb:T.outs.length≤100000000)(hq:At (Y3 t b full (A0N ⟨c,o,false⟩ T)::L2) (Q (.tuple #[])))
  (hx:Has L (Y3 t b full T) L1:=by repeat first|with_reducible exact V5|apply V7)(hy:Has L1 (pkB .u8 (ci,pi,o)) L2:=by repeat first|with_reducible exact V5|apply V7):FW prog 67 #[at0 t,.int .i64 c,A2B .u8 (pkT o ci pi)] L Q:=fun h hs=>by
 have h1:=(hx.then hy).s hs
 exact C3r (L:=thA t b full T.outs T.aT::A0r b T.b::pkB .u8 (ci,pi,o)::L2) hb (fun h' af=>hq h' (A04.2 af)) V5 (V7 V5) h (A04.1 h1)
theorem C6I{t b:Nat}{full:Bool}{os:List u5}{ps:List MsT}{c:Int}{o:PkO}{ci pi:Slc}(hb:os.length≤100000000)(hq:At (thA t b full (os++[⟨c,o,true⟩]) ps::L2) (Q (.tuple #[])))
  (hx:Has L (thA t b full os ps) L1:=by repeat first|with_reducible exact V5|apply V7)(hy:Has L1 (pkB .u8 (ci,pi,o)) L2:=by repeat first|with_reducible exact V5|apply V7):FW prog 34 #[at0 t,.int .i64 c,A2B .u8 (pkT o ci pi)] L Q:=by
 refine fun h hs=>A7r (some ⟨t,0,none⟩) c (pkT o ci pi) h Q ((?_:W (thA t b full os ps::pkB .u8 (ci,pi,o)::L2) _ _) h ((hx.then hy).s hs))
 clear hs h hx hy
 have dA:(os.length+1)*344≤140737488355328:=by omega
 delta A6n az bn A1h kc nn nw pu rq sx vi vs w10 w11 w12 w13 w14 w15 w16 w17 w18 w19 w20 w21 w22 w23 w24 w25 w5 w6 w7 w8 w9
 refine Y8 fun x1=>?_
 refine W9 ?_
 refine A7t (fun h R=>A2H.1) fun so sp=>?_
 refine j0 (v:=so) ?_
 refine u7 (v:=pkT o ci pi) ?_
 refine Y8 fun x5=>?_
 refine j0 (v:=so) ?_
 refine A1t ?_ rfl
 refine C88 (k:=.u8) (s:=so) (os:=os) (o:=⟨c,o,true⟩) (c:=ci) (p:=pi) (fun s'=>?_) dA
 refine W9 ?_
 refine A4v (cs':=#[at0 b,.bool full,.slice s'.a s'.len s'.cap,.slice sp.a sp.len sp.cap]) ?_
 refine B0j (A:=thA t b full (os++[⟨c,o,true⟩]) ps) (fun h hs=>A2H.2 ⟨s',sp,hs⟩) ?_
 exact U9 hq.sub
theorem B91{t b:Nat}{full:Bool}{T:V6}{c:Int}{o:PkO}{ci pi:Slc}(hb:T.outs.length≤100000000)(hq:At (Y3 t b full (A0N ⟨c,o,true⟩ T)::L2) (Q (.tuple #[])))
  (hx:Has L (Y3 t b full T) L1:=by repeat first|with_reducible exact V5|apply V7)(hy:Has L1 (pkB .u8 (ci,pi,o)) L2:=by repeat first|with_reducible exact V5|apply V7):FW prog 34 #[at0 t,.int .i64 c,A2B .u8 (pkT o ci pi)] L Q:=fun h hs=>by
 have h1:=(hx.then hy).s hs
 exact C6I (L:=thA t b full T.outs T.aT::A0r b T.b::pkB .u8 (ci,pi,o)::L2) hb (fun h' af=>hq h' (A04.2 af)) V5 (V7 V5) h (A04.1 h1)
end
section
open Go.H Go.Proofs
structure l8(B:i6):Prop where
 aH:B.aH.length≤10000
 bM:∀s∈B.aG,X5 s.out
 live:∀e∈B.aH,∃s∈B.aG,s.id=e.1
 one:∀id:Int,(B.aB.filter fun x=>decide (x.aG=id)).length≤1
 nd:(B.aG.map (·.id)).Nodup
 cl:∀x∈B.aB,∃s∈B.aG,s.id=x.aG
 dR:∀x∈B.aB,∀s∈B.aG,s.id=x.aG→s.on=true
 wl:∀x∈B.aB,x.aX.1.size≤9223372036854775807∧ -9223372036854775808≤x.c∧x.c≤9223372036854775807
theorem C07{k:Int}{A:List W7}{s:W7}(h:A5x k A=some s):s∈A∧s.id=k:=⟨H2 h,by simpa using N3 h⟩
theorem A3u{k:Int}{A:List W7}{s:W7}(hn:(A.map (·.id)).Nodup)(hs:s∈A)(hk:s.id=k):A5x k A=some s:=by
 unfold A5x
 obtain⟨l1,l2,rfl⟩:=H0 hs
 rw[B8,B5,G3] at hn
 rw[P5,R6 (by simpa using hk),E7.2,Option.none_or]
 intro x hx
 have:=hn.2.2 _ (B4 (f:=(·.id)) hx) _ (B6 ..)
 rw[hk] at this
 simpa using this
theorem A6U{k:Int}{f:W7→W7}(hf:∀s,(f s).id=s.id)(A:List W7):(Y4 k f A).map (·.id)=A.map (·.id):=by
 unfold Y4
 rw[F3]
 refine I2 fun s _=>?_
 simp only[Function.comp]
 split
 ·exact hf s
 ·rfl
theorem A4b{k:Int}{f:W7→W7}{A:List W7}{x:W7}(h:x∈Y4 k f A):x∈A∨∃s∈A,s.id=k∧x=f s:=by
 unfold Y4 at h
 obtain⟨s,hs,rfl⟩:=E3.1 h
 split
 ·exact .inr ⟨s,hs,by assumption,rfl⟩
 ·exact .inl hs
theorem A3g{k:Int}{f:W7→W7}(hf:∀s,(f s).id=s.id){A:List W7}{i:Int}(h:∃s∈A,s.id=i):∃s∈Y4 k f A,s.id=i:=by
 obtain⟨s,hs,rfl⟩:=h
 refine⟨if s.id=k then f s else s,B4 hs,?_⟩
 split
 ·exact hf s
 ·rfl
theorem A9A{l:List Z7}{id:Int}(ps:List PkO)(h:(l.filter fun x=>decide (x.aG=id)).length≤1):(A2v l id ps).length≤ps.length:=by
 unfold A2v
 generalize l.filter (fun x=>decide (x.aG=id))=k at h
 match k,h with
 |[],_=>simp
 |[x],_=>simp
theorem l8.set{B:i6}(h:l8 B){k:Int}{o:b7}(ho:X5 o):l8 {B with aG:=Y4 k (Y9 o) B.aG} where
 aH:=h.aH
 bM:=fun s hs=>by
  rcases A4b hs with hs|⟨s',_,_,rfl⟩
  ·exact h.bM s hs
  ·exact ho
 live:=fun e he=>A3g (f:=Y9 o) (fun _=>rfl) (h.live e he)
 one:=h.one
 nd:=by
  show((Y4 k (Y9 o) B.aG).map (·.id)).Nodup
  rw[A6U (f:=Y9 o) fun _=>rfl];exact h.nd
 cl:=fun x hx=>A3g (f:=Y9 o) (fun _=>rfl) (h.cl x hx)
 dR:=fun x hx s hs e=>by
  rcases A4b hs with hs|⟨s',af,_,rfl⟩
  ·exact h.dR x hx s hs e
  ·exact h.dR x hx s' af e
 wl:=h.wl
theorem l8.fF{B:i6}(h:l8 B){k:Int}{i:y9}:l8 {B with aG:=Y4 k (k9 i) B.aG} where
 aH:=h.aH
 bM:=fun s hs=>by
  rcases A4b hs with hs|⟨s',af,_,rfl⟩
  ·exact h.bM s hs
  ·exact h.bM s' af
 live:=fun e he=>A3g (f:=k9 i) (fun _=>rfl) (h.live e he)
 one:=h.one
 nd:=by
  show((Y4 k (k9 i) B.aG).map (·.id)).Nodup
  rw[A6U (f:=k9 i) fun _=>rfl];exact h.nd
 cl:=fun x hx=>A3g (f:=k9 i) (fun _=>rfl) (h.cl x hx)
 dR:=fun x hx s hs e=>by
  rcases A4b hs with hs|⟨s',af,_,rfl⟩
  ·exact h.dR x hx s hs e
  ·exact h.dR x hx s' af e
 wl:=h.wl
theorem l8.aO{B:i6}(h:l8 B)(K:List l7):l8 {B with kept:=K}:=⟨h.aH,h.bM,h.live,h.one,h.nd,h.cl,h.dR,h.wl⟩
structure A0J(T T':V6)(n:Nat):Prop where
 ok:l8 T'.b
 outs:T'.outs.length≤T.outs.length+n
 aT:T'.aT.length≤T.aT.length+n
 aH:T'.b.aH=T.b.aH
 aB:T'.b.aB=T.b.aB
 last:T'.b.last=T.b.last
theorem A0J.trans{T T' T'':V6}{n n':Nat}(h:A0J T T' n)(h':A0J T' T'' n'):A0J T T'' (n+n'):=⟨h'.ok,by have:=h.outs;have:=h'.outs;omega,by have:=h.aT;have:=h'.aT;omega,h'.aH.trans h.aH,h'.aB.trans h.aB,h'.last.trans h.last⟩
theorem A0J.mono{T T':V6}{n n':Nat}(h:A0J T T' n)(hn:n≤n'):A0J T T' n':=⟨h.ok,by have:=h.outs;omega,by have:=h.aT;omega,h.aH,h.aB,h.last⟩
theorem A0J.refl{T:V6}(h:l8 T.b):A0J T T 0:=⟨h,D9 _,D9 _,rfl,rfl,rfl⟩
theorem B5X{id:Int}{f:b7→b7×List PkO}{T:V6}(h:l8 T.b)(hf:∀o,X5 o→X5 (f o).1∧(f o).2.length≤320):A0J T (A01 id f T) 320:=by
 unfold A01
 cases hg:A5x id T.b.aG with
 |none=>exact(A0J.refl h).mono (by decide)
 |some s=>
  have dj:=hf _ (h.bM s (C07 hg).1)
  refine⟨h.set dj.1,?_,L7 _ _,rfl,rfl,rfl⟩
  show(T.outs++A2v T.b.aB id (f s.out).2).length≤_
  rw[B3]
  have:=A9A (f s.out).2 (h.one id)
  omega
theorem B9H{α:Type}{g:V6→α→V6}{n:Nat}(hg:∀T x,l8 T.b→A0J T (g T x) n):∀(l:List α) {T:V6},l8 T.b→A0J T (l.foldl g T) (l.length*n)
 |[],T,h=>(A0J.refl h).mono (by simp)
 |x::l,T,h=>((hg T x h).trans (B9H hg l (hg T x h).ok)).mono (by rw[B7,J7];omega)
def B9v(l:List Ent):Int:=l.foldl (fun q e=>max q e.2.2) 0
theorem B6m:∀(p:Option Int) (l:List Ent),(A5w p l).length≤l.length
 |_,[]=>D9 _
 |p,e::l=>by
  unfold A5w
  split
  ·exact Nat.le_succ_of_le (B6m p l)
  ·exact Nat.succ_le_succ (B6m _ l)
theorem B8y{i:Int}:∀{tk rs:List Ent},(∀y∈tk,y.1=i)→(∀y∈rs.head?,y.1≠i)→A5w (some i) (tk++rs)=A5w none rs
 |[],[],_,_=>rfl
 |[],y::rs,_,h=>by
  have:=h y (by simp)
  simp only[F0,A5w,F6,reduceCtorEq,if_false]
  rw[if_neg (fun e=>this e.symm)]
 |y::tk,rs,h1,h2=>by
  have:=h1 y (B6 ..)
  rw[G7,A5w,if_pos (by rw[this])]
  exact B8y (fun z hz=>h1 z (C2 _ hz)) h2
theorem C2C{i:Int}{e:Ent}{rest tk rs:List Ent}(he:e.1=i)(hz:tk++rs=e::rest)(h1:∀y∈tk,y.1=i)(h2:∀y∈rs.head?,y.1≠i):A5w none (e::rest)=i::A5w none rs:=by
 rw[A5w,if_neg (by simp),he]
 congr 1
 cases tk with
 |nil=>
  rw[F0] at hz
  subst hz
  exact absurd he (h2 e (by simp))
 |cons y tk=>
  rw[G7] at hz
  cases hz
  exact B8y (fun z hz=>h1 z (C2 _ hz)) h2
theorem C4x{i:Int}{done tk rs:List Ent}(h0:∀y∈done,y.1≠i)(h1:∀y∈tk,y.1=i)(h2:∀y∈rs,y.1≠i):A2L (done++(tk++rs)) i=B9v tk:=by
 unfold A2L B9v
 rw[F4,F4,J3.2 (fun y hy=>by simpa using h0 y hy),H3.2 (fun y hy=>by simpa using h1 y hy),J3.2 (fun y hy=>by simpa using h2 y hy),C1,F0]
theorem C80{L:List Ent}(h:Asc L):L.Pairwise fun a b=>a.1≤b.1:=h.imp fun{a b} dg=>by
 rcases dg with h|⟨h,_⟩
 ·exact Int.le_of_lt h
 ·exact Int.le_of_eq h
theorem B6e{m:MsT}{T:V6}(h:l8 T.b):A0J T (A2i m T) 0:=by
 unfold A2i
 split
 ·exact⟨h.aO _,D9 _,D9 _,rfl,rfl,rfl⟩
 ·exact A0J.refl h
theorem B1e{m:MsT}{l:List Ent}(T:V6)(id:Int)(h:l8 T.b):A0J T (A1o m l T id) 320:=B5X h fun o ho=>⟨(A4c ho _).1,by have:=(A4c ho (m.1,m.2.1,min m.2.2.1 (A2L l id),false,e0S)).2;omega⟩
theorem B6n{m:MsT}{T:V6}(h:l8 T.b):A0J T (A0Q m T) 3200000:=by
 have h1:=B6e (m:=m) h
 have h2:=B9H (B1e (m:=m) (l:=T.b.aH.filter fun x=>Z8 x.2.1 m.1)) (A5w none (T.b.aH.filter fun x=>Z8 x.2.1 m.1)) h1.ok
 refine(h1.trans h2).mono ?_
 have a:=B6m none (T.b.aH.filter fun x=>Z8 x.2.1 m.1)
 have b:=D2 (fun x=>Z8 x.2.1 m.1) T.b.aH
 have c:=h.aH
 omega
theorem C2l{id:Int}{f:b7→b7×List PkO}{T:V6}:(A01 id f T).aT=T.aT:=by
 unfold A01;split<;>rfl
theorem B8B{α:Type}{g:V6→α→V6}(hg:∀T x,(g T x).aT=T.aT):∀(l:List α) {T:V6},(l.foldl g T).aT=T.aT
 |[],_=>rfl
 |x::l,T=>(B8B hg l).trans (hg T x)
theorem A74{m:MsT}{T:V6}:(A0Q m T).aT=T.aT:=by
 unfold A0Q
 rw[B8B (g:=A1o m (T.b.aH.filter fun x=>Z8 x.2.1 m.1)) fun T x=>C2l]
 unfold A2i;split<;>rfl
theorem A88{m:MsT}{T:V6}(h:l8 T.b):A0J T (A4d m T) 3200000:=let r:=B6n (m:=m) h;⟨r.ok,r.outs,by
 show((A0Q m T).aT++[m]).length≤_
 rw[B3,A74];simp only[B7,G1];omega,r.aH,r.aB,r.last⟩
theorem A1V{c:Int}{l:List Z7}{x:Z7}(h:A1I c l=some x):x∈l∧x.c=c:=⟨H2 h,by simpa using N3 h⟩
def A4T(k:Int)(A:List W7):Bool×List W7:=match A5x k A with
 |none=>(false,A)
 |some s=>if s.on=false then(false,A) else if s.aO=true then(false,Y4 k A8O A) else(true,A.filter fun x=>decide (x.id≠k))
theorem B5c{k:Int}{B:i6}:A9q k B=⟨B.last,(A4T k B.aG).2,if(A4T k B.aG).1=true then A1q k B.aH else B.aH,B.kept,B.aB⟩:=by
 unfold A9q A4T
 cases A5x k B.aG with
 |none=>rfl
 |some s=>
  simp only
  by_cases h1:s.on=false
  ·simp[h1]
  ·by_cases h2:s.aO=true
   ·simp[h1,h2]
   ·simp[h1,h2]
theorem l8.conn{B:i6}(h:l8 B)(p:Z7→Bool):l8 (B1n (B.aB.filter p) B) where
 aH:=h.aH
 bM:=h.bM
 live:=h.live
 one:=fun id=>by
  refine C4 ?_ (h.one id)
  exact(List.Sublist.filter _ I5).length_le
 nd:=h.nd
 cl:=fun x hx=>h.cl x (E6.1 hx).1
 dR:=fun x hx=>h.dR x (E6.1 hx).1
 wl:=fun x hx=>h.wl x (E6.1 hx).1
theorem l8.other{B:i6}(h:l8 B){x y:Z7}(hx:x∈B.aB)(hy:y∈B.aB)(bS:y.c≠x.c):y.aG≠x.aG:=fun e=>by
 have h1:=h.one x.aG
 have m1:x∈B.aB.filter (fun z=>decide (z.aG=x.aG)):=E6.2 ⟨hx,by simp⟩
 have m2:y∈B.aB.filter (fun z=>decide (z.aG=x.aG)):=E6.2 ⟨hy,by simp[e]⟩
 generalize B.aB.filter (fun z=>decide (z.aG=x.aG))=k at h1 m1 m2
 match k,h1 with
 |[],_=>cases m1
 |[z],_=>
  rw[B9.1 m1,B9.1 m2] at bS
  exact bS rfl
theorem B9N{k:Int}{B:i6}(h:l8 B)(hc:∀y∈B.aB,y.aG≠k):l8 (A9q k B)∧(A9q k B).aB=B.aB∧(A9q k B).last=B.last∧(A9q k B).kept=B.kept:=by
 unfold A9q
 split
 ·exact⟨h,rfl,rfl,rfl⟩
 ·rename_i s hg
  split
  ·exact⟨h,rfl,rfl,rfl⟩
  ·split
   ·refine⟨⟨h.aH,fun x hx=>?_,fun e he=>A3g (f:=A8O) (fun _=>rfl) (h.live e he),h.one,?_,fun x hx=>A3g (f:=A8O) (fun _=>rfl) (h.cl x hx),fun x hx s hs e=>?_,h.wl⟩,rfl,rfl,rfl⟩
    ·rcases A4b hx with hx|⟨y,hy,_,rfl⟩
     ·exact h.bM x hx
     ·exact(h.bM y hy).off false
    ·show((Y4 k A8O B.aG).map (·.id)).Nodup
     rw[A6U (f:=A8O) fun _=>rfl];exact h.nd
    ·rcases A4b hs with hs|⟨s',af,hk,rfl⟩
     ·exact h.dR x hx s hs e
     ·exact absurd (e.symm.trans hk) (hc x hx)
   ·refine⟨⟨C4 (D2 _ _) h.aH,fun x hx=>h.bM x (E6.1 hx).1,fun e he=>?_,h.one,?_,fun x hx=>?_,fun x hx s hs=>h.dR x hx s (E6.1 hs).1,h.wl⟩,rfl,rfl,rfl⟩
    ·obtain⟨dm,da⟩:=E6.1 he
     obtain⟨y,hy,kr⟩:=h.live e dm
     refine⟨y,E6.2 ⟨hy,?_⟩,kr⟩
     rw[kr]
     simpa using da
    ·exact h.nd.sublist (List.Sublist.map _ I5)
    ·obtain⟨y,hy,kr⟩:=h.cl x hx
     refine⟨y,E6.2 ⟨hy,?_⟩,kr⟩
     rw[kr]
     simpa using hc x hx
theorem l8.gone{B:i6}(h:l8 B){c:Int}{x:Z7}(hg:A1I c B.aB=some x):∀y∈B.aB.filter (fun y=>decide (y.c≠c)),y.aG≠x.aG:=fun y hy=>by
 obtain⟨h1,h2⟩:=E6.1 hy
 obtain⟨h3,h4⟩:=A1V hg
 exact h.other h3 h1 (by rw[h4];simpa using h2)
theorem B9P{full:Bool}{c:Int}{w:Bool}{T:V6}(h:l8 T.b):l8 (A4U full c w T).b∧(A4U full c w T).outs.length≤T.outs.length+3200000∧(A4U full c w T).aT.length≤T.aT.length+3200000∧(A4U full c w T).b.aB=T.b.aB.filter (fun y=>decide (y.c≠c))∧(A4U full c w T).b.last=T.b.last:=by
 unfold A4U
 cases hg:A1I c T.b.aB with
 |none=>
  have hf:T.b.aB.filter (fun y=>decide (y.c≠c))=T.b.aB:=H3.2 fun y hy=>by
   have:=E7.1 hg y hy
   simpa using this
  exact⟨h,L7 _ _,L7 _ _,hf.symm,rfl⟩
 |some x=>
  have h1:=B9N (k:=x.aG) (h.conn fun y=>decide (y.c≠c)) (h.gone hg)
  simp only
  split
  ·have h2:=A88 (m:=x.aX) (T:=tB (A9q x.aG (B1n (T.b.aB.filter fun y=>decide (y.c≠c)) T.b)) T) h1.1
   exact⟨h2.ok,h2.outs,h2.aT,h2.aB.trans h1.2.1,h2.last.trans h1.2.2.1⟩
  ·exact⟨h1.1,L7 _ _,L7 _ _,h1.2.1,h1.2.2.1⟩
theorem B0W{full:Bool}{c code:Int}{T:V6}(h:l8 T.b):l8 (A0O full c code T).b∧(A0O full c code T).outs.length≤T.outs.length+3200001∧(A0O full c code T).aT.length≤T.aT.length+3200001∧(A0O full c code T).b.aB=T.b.aB.filter (fun y=>decide (y.c≠c))∧(A0O full c code T).b.last=T.b.last:=by
 have h1:=B9P (full:=full) (c:=c) (w:=true) (T:=A0N ⟨c,l6 14 0 code,true⟩ T) h
 refine⟨h1.1,?_,?_,h1.2.2.2.1,h1.2.2.2.2⟩
 ·refine C4 h1.2.1 ?_
  have e:(A0N ⟨c,l6 14 0 code,true⟩ T).outs.length=T.outs.length+1:=by rw[B3];rfl
  omega
 ·have e:(A0N ⟨c,l6 14 0 code,true⟩ T).aT.length=T.aT.length:=rfl
  have:=h1.2.2.1
  unfold A0O
  omega
open Go.H Go.Proofs Go.Shelf
def A9J:Go.Shelf.Ren:=⟨fun n=>match n with|7=>78|10=>124|n=>n,fun n=>match n with|23=>170|26=>3|3=>198|28=>123|0=>0|27=>122|33=>196|4=>4|n=>n,fun n=>n⟩
theorem C71:SlLaysZI.n7 prog A9J where
 mixed:=by kernel_rfl
 f7:=⟨f78.name,by kernel_rfl,func78.trans (congrArg some (by kernel_rfl))⟩
 f10:=⟨f124.name,by kernel_rfl,func124.trans (congrArg some (by kernel_rfl))⟩
 t0:=underlying0
 a0:=isAgg0
 z0:=sizeOf0
 v0:=zeroValue0
 t4:=underlying4
 a4:=isAgg4
 z4:=sizeOf4
 v4:=zeroValue4
 t23:=underlying170
 a23:=isAgg170
 z23:=sizeOf170
 v23:=zeroValue170
 t26:=underlying3
 a26:=isAgg3
 z26:=sizeOf3
 v26:=zeroValue3
 t27:=underlying122
 a27:=isAgg122
 z27:=sizeOf122
 v27:=zeroValue122
 t28:=underlying123
 a28:=isAgg123
 z28:=sizeOf123
 v28:=zeroValue123
 t33:=underlying196
 a33:=isAgg196
 z33:=sizeOf196
 v33:=zeroValue196
abbrev InT:=Int×B4p×Bool×Bool
abbrev B6B(x:InT):D0r:=[.int .i64 x.1,.string x.2.1,.bool x.2.2.1,.bool x.2.2.2]
def x9(s:W7):InT:=(s.id,s.aD,s.aO,s.on)
theorem B2d{α β:Type}(f:α→β){l:List α}(hn:(l.map f).Nodup):l.Nodup:=
 List.Pairwise.of_map f (fun a b bS dg=>bS (congrArg f dg)) hn
def C9X(xs ys:List InT):Prop:=∀x∈xs,x∈ys
theorem C6A(x:InT):(B6B x).length=4:=rfl
theorem C3T(x:InT):∀v∈B6B x,v.oneCell'=true:=by
 intro v hv;simp at hv;rcases hv with rfl|rfl|rfl|rfl<;>rfl
theorem B9n{α β:Type}{f:α→β}{l1 l2:List α}(hm:(l1.map f).Perm (l2.map f))(hn:(l2.map f).Nodup)(hs:∀x∈l1,x∈l2):l1.Perm l2:=by
 have ig:(l1.map f).Nodup:=hm.nodup_iff.2 hn
 refine(P8 (B2d f ig) (B2d f hn)).2 fun y=>⟨hs y,fun hy=>?_⟩
 obtain⟨x,hx,he⟩:=E3.1 (hm.mem_iff.2 (B4 hy))
 have lW:=hs x hx
 have:x=y:=by
  obtain⟨a,b,rfl⟩:=H0 hy
  rw[B8,B5,G3] at hn
  rcases C7.1 lW with h|h
  ·exact absurd he (hn.2.2 _ (B4 h) _ (B6 ..))
  ·rcases D3.1 h with h|h
   ·exact h
   ·have h3:=(G0.1 hn.2.1).1
    rw[←he] at h3
    exact absurd (B4 h) h3
 exact this▸hx
theorem C5h{h:Heap}{R:List Asn}{b:Nat}{last:Int}{L:List (Nat×W7)}(hs:sat h (A1P b last L::R))(fe:last<4611686018427387904)(hid:∀p∈L,0≤p.2.id∧p.2.id≤last)(hlen:L.length≤32){Q:Value→Heap→Prop}
  (hq:∀(sl:Slc) (xs:List InT) h',xs.map (·.1)=Z0 (L.map (·.2.id))→xs.Perm (L.map fun p=>x9 p.2)→sat h' (V1 B6B 4 sl xs::A1P b last L::R)→Q (.slice sl.a sl.len sl.cap) h'):
  V9 prog 42 #[at0 b] h Q:=by
 refine A6s _ h Q ?_
 obtain⟨m,hs⟩:=s7.1 hs
 have c1:W8 h ⟨b,1,none⟩=some (.map (some m)):=hs.cell 1
 have tX:(L.map (·.2.id)).Nodup:=by
  have:=hs.p1.bK
  rw[F3] at this
  exact this
 delta A5f az bn cc g9 ie ix km li nn nw pu vi wi
 simp[c1]
 refine B09 (ρk:=A9J) C71 (some m) ?_
 simp only[C5q]
 have ae:=(hs.bI (T:=A9J.t 23) (cs:=#[.map (some m)]))
 refine A7B (ρk:=A9J) (ρs:=A5X) (ρt:=A7C) C71 B82 C12 rfl (enters_of func76 (by kernel_rfl) rfl) (enters_of func124 (by kernel_rfl) rfl) ae.p2
  (fun p hp=>?_) ?_ (ae.cell 0) fun sl h' ai=>?_
 ·obtain⟨q,ed,rfl⟩:=E3.1 hp
  have:=hid q ed
  simp[Lit.wf,IntKind.min,IntKind.max,IntKind.bits,IntKind.signed,q9]
  omega
 ·simp;omega
 ·have e0:(L.map q9).map (·.1)=L.map (·.2.id):=by rw[F3];rfl
  rw[e0] at ai
  simp only[C1R]
  have ak:=(ai.re [2,0,1]).drop
  clear ae ai
  have iz:(Z0 (L.map (·.2.id))).length=L.length:=by simp[Z0,O9]
  have cA:=ak.aW
  rw[iz] at cA
  refine o7 (γ:=Nat×List InT) (hb:=fun s=>by
   repeat' with_reducible first
    |refine @A0C _ _ _ _ ?_ (fun _=>?_)
    |refine @A1b _ _ _ _ ?_ ?_
   all_goals infer_instance)
   (fun g c aY=>c.2.1=(g.1:Int)∧g.1≤L.length∧g.2.map (·.1)=(Z0 (L.map (·.2.id))).take g.1∧C9X g.2 (L.map fun p=>x9 p.2)∧
    sat aY (V1 B6B 4 c.1 g.2::V1 eI 1 sl (Z0 (L.map (·.2.id)))::mapA eKI eVP m (L.map q9)::cells b #[.int .i64 last,.map (some m)]::b8 (fun p=>A3N p.1 p.2) L::R))
   (fun g=>L.length-g.1) (0,[]) ⟨rfl,C9 _,rfl,fun x hx=>(by simp at hx),Z2 ak⟩ ?_
  rintro⟨i,xs⟩ ⟨out,c,⟨⟩⟩ h1 ⟨hc,hi,gK,lW,aj⟩
  simp only at hc hi gK lW aj
  subst hc
  have next:IntKind.wrap .i64 ((i:Int)+1)=((i+1:Nat):Int):=by rw[W6 (by omega) (by omega)];rfl
  simp
  by_cases ah:i<L.length
  ·rw[if_pos (by omega)]
   have bf:i<(Z0 (L.map (·.2.id))).length:=by omega
   refine Y0 (aj.p1.aN (by intro x;rfl)) (B0 bf) fun a ha=>?_
   generalize hk:(Z0 (L.map (·.2.id)))[i]=k at ha
   have e1:W8 h1 a=some (.int .i64 k):=by simpa[Go.H.add_zero] using ha 0 _ rfl
   have d1:W8 h1 ⟨b,1,none⟩=some (.map (some m)):=by rw[(aj.re [3,0,1,2]).cell];rfl
   have rU:k∈L.map (·.2.id):=by
    have:=H6 bf
    rw[hk] at this
    exact(R1 _ _).mem_iff.1 this
   obtain⟨p,hp,dF⟩:=E3.1 rU
   simp[e1,d1]
   refine A0b kI (kind:=.one .ptr) (z:=none) rfl (aj.re [2,0,1]) ?_
   have hg:X0 (L.map q9) k=some (some ⟨p.1,0,none⟩):=by
    obtain⟨l1,l2,rfl⟩:=H0 hp
    cases vK:X0 ((l1++p::l2).map q9) k with
    |none=>
     have:=(A1x _ _).1 vK
     exact absurd (by rw[F3];exact rU) this
    |some v=>
     obtain⟨q,ed,e⟩:=E3.1 (A4k vK)
     have e2:q.2.id=k:=congrArg Prod.fst e
     have e3:some ⟨q.1,0,none⟩=v:=congrArg Prod.snd e
     have xf:q9 q=q9 p:=by
      have au:=(aj.re [2,0,1]).bK
      have hA:q9 q∈(l1++p::l2).map q9:=B4 ed
      have hB:q9 p∈(l1++p::l2).map q9:=B4 hp
      obtain⟨u1,u2,hu⟩:=H0 hB
      rw[hu] at hA au
      rw[B8,B5,G3] at au
      have gk:(q9 q).1=(q9 p).1:=e2.trans dF.symm
      rcases C7.1 hA with h|h
      ·exact absurd gk (au.2.2 _ (B4 h) _ (B6 ..))
      ·rcases D3.1 h with h|h
       ·exact h
       ·have h3:=(G0.1 au.2.1).1
        rw[←gk] at h3
        exact absurd (B4 h) h3
     have:=congrArg Prod.snd xf
     rw[←e3]
     exact congrArg some this
   rw[hg]
   simp
   obtain⟨R',aw⟩:=A9v hp (aj.re [4,0,1,2,3])
   obtain⟨ob,ib,aC⟩:=A1Q.1 aw
   refine A0A (ts:=[.int .i64,.str,.bool,.bool]) (p.2.id,p.2.aD,p.2.aO,p.2.on,()) (fun j v hv=>?_) ?_
   ·rw[V0,aC.cell]
    match j,hv with
    |0,hv=>exact hv
    |1,hv=>exact hv
    |2,hv=>exact hv
    |3,hv=>exact hv
    |j+4,hv=>cases(show(none:Option Value)=some v from hv)
   ·try simp only[U7]
    refine A0H (x:=x9 p.2) C6A C3T rfl aj (by decide) (by decide) ?_ fun fk h2 bq=>?_
    ·have:xs.length=i:=by
      have:=congrArg List.length gK
      simp at this
      omega
     omega
    ·refine .mk (i+1,xs++[x9 p.2]) (by simp only[];omega) ⟨next,by simp only[];omega,?_,fun x hx=>?_,bq⟩
     ·simp only[B8,B5,I3,gK]
      rw[C3 bf,hk,←dF]
      rfl
     ·rcases C7.1 hx with h|h
      ·exact lW x h
      ·rw[B9.1 h]
       exact B4 hp
  ·rw[if_neg (by omega)]
   rw[D1 (by omega)] at gK
   refine hq out xs h1 gK (B9n (f:=(·.1)) ?_ ?_ lW) ?_
   ·rw[gK,F3]
    exact R1 _ _
   ·rw[F3]
    exact tX
   ·exact((s7.2 ⟨m,aj.re [3,2,4,0,1]⟩).re [2,1,0]).drop
theorem C6i{h:Heap}{R:List Asn}(hs:sat h R){Q:Value→Heap→Prop}(hq:∀h',sat h' R→Q (.tuple #[.agg #[.int .i64 0,.string (ByteArray.mk #[]),.bool false,.bool false],.bool false]) h'):V9 prog 97 #[.pointer none] h Q:=by
 refine A5e none h Q ?_
 delta A7G az g9 ie nn nw pu sn ve vi
 refine W5 hs fun b h1 aa=>?_
 simp only[V4,Option.isNone_none,if_true]
 refine o4 aa rfl rfl fun h2 ae=>?_
 refine Z3 (ts:=[.int .i64,.str,.bool,.bool]) (0,ByteArray.mk #[],false,false,()) ae rfl ?_
 exact hq h2 ae.drop
variable {h:Heap} {R:List Asn}
theorem C2M{α β:Type}{f:α→β}{xs ys:List α}(hp:xs.Perm ys)(hn:(ys.map f).Nodup)(he:xs.map f=ys.map f):xs=ys:=by
 refine List.ext_getElem hp.length_eq fun i h1 h2=>?_
 have hm:xs[i]∈ys:=hp.mem_iff.1 (H6 h1)
 have hk:f xs[i]=f ys[i]:=by
  have:=List.getElem_of_eq he (i:=i) (by simpa using h1)
  simpa using this
 obtain⟨j,hj,oW⟩:=List.getElem_of_mem hm
 have oa:j=i:=by
  refine(List.getElem_inj (xs:=ys.map f) (i:=j) (j:=i) (h₀:=by simpa using hj) (h₁:=by simpa using h2) hn).1 ?_
  simp only[List.getElem_map]
  rw[oW,hk]
 subst oa
 exact oW.symm
theorem B83{l:List Int}(hr:l.Pairwise (·< ·)):Z0 l=l:=
 List.mergeSort_of_pairwise (hr.imp fun{a b} dg=>by simpa using(show a≤b by omega))
theorem B9f{l:List Int}(hr:l.Pairwise (·< ·)):l.Nodup:=hr.imp fun{a b} dg=>by omega
theorem C7v{L:List (Nat×W7)}{xs:List InT}(hr:(L.map (·.2.id)).Pairwise (·< ·))(h1:xs.map (·.1)=Z0 (L.map (·.2.id)))(h2:xs.Perm (L.map fun p=>x9 p.2)):xs=L.map fun p=>x9 p.2:=by
 have e:(L.map fun p=>x9 p.2).map (·.1)=L.map (·.2.id):=by rw[F3];rfl
 refine C2M h2 (f:=(·.1)) ?_ ?_
 ·rw[e];exact B9f hr
 ·rw[e,h1,B83 hr]
def A3E:Option InT→(Int×B4p×Bool×Bool×Unit)×Bool×Unit
 |some x=>((x.1,x.2.1,x.2.2.1,x.2.2.2,()),true,())
 |none=>((0,ByteArray.mk #[],false,false,()),false,())
abbrev B8w(o:Option InT):Value:=.tuple (s6.cC [.agg [.int .i64,.str,.bool,.bool],.one .bool] (A3E o)).toArray
theorem C4L{b:Nat}{s:W7}{ob ib:Nat}(hs:sat h (cells b (B86 s ob ib)::R)){Q:Value→Heap→Prop}(hq:∀h',sat h' (cells b (B86 s ob ib)::R)→Q (B8w (some (x9 s))) h'):
  V9 prog 97 #[at0 b] h Q:=by
 refine A5e (some ⟨b,0,none⟩) h Q ?_
 delta A7G az g9 ie nn nw pu sn ve vi
 refine W5 hs fun x1 h1 aa=>?_
 (try dsimp only);rw[V4,if_neg (by simp)]
 refine⟨_,rfl,?_⟩
 refine A0A (ts:=[.int .i64,.str,.bool,.bool]) (s.id,s.aD,s.aO,s.on,()) (fun j v hv=>?_) ?_
 ·rw[V0,V0,(aa.p1).cell]
  match j,hv with
  |0,hv=>exact hv
  |1,hv=>exact hv
  |2,hv=>exact hv
  |3,hv=>exact hv
  |j+4,hv=>cases(show(none:Option Value)=some v from hv)
 refine o4 aa rfl rfl fun h2 ae=>?_
 refine Z3 (ts:=[.int .i64,.str,.bool,.bool]) (s.id,s.aD,s.aO,s.on,()) ae rfl ?_
 exact hq h2 ae.drop
theorem C7y{b:Nat}{last:Int}{L:List (Nat×W7)}{p:Nat×W7}(hp:p∈L)(hs:sat h (A1P b last L::R)){Q:Value→Heap→Prop}(hq:∀h',sat h' (A1P b last L::R)→Q (B8w (some (x9 p.2))) h'):
  V9 prog 97 #[at0 p.1] h Q:=by
 obtain⟨l1,l2,rfl⟩:=H0 hp
 obtain⟨m,ob,ib,aa⟩:=C0c hs
 refine C4L (s:=p.2) (aa.re [2,0,1]) fun h' ae=>hq h' ?_
 exact C0b (o:=p.2.out) (ae.re [1,2,0])
theorem C5j{b:Nat}{last:Int}{L:List (Nat×W7)}{c:B4p}(hs:sat h (A1P b last L::R)){Q:Value→Heap→Prop}
  (ay:(∀p∈L,p.2.aD≠c)→∀h',sat h' (A1P b last L::R)→Q (B8w none) h')(db:∀p∈L,p.2.aD=c→∀h',sat h' (A1P b last L::R)→Q (B8w (some (x9 p.2))) h'):
  V9 prog 55 #[at0 b,.string c] h Q:=by
 refine A6t _ c h Q ?_
 delta A5g az bn cp g9 nw pu sn
 refine W5 hs fun x1 h1 aa=>?_
 have fin:∀{o:Option InT} {h':Heap},(∀h',sat h' (A1P b last L::R)→Q (B8w o) h')→sat h' (A1P b last L::cells x1 #[.int .i64 0,.string (ByteArray.mk #[]),.bool false,.bool false]::R)→
   (HM.bind (α:=Unit) (B0I ⟨x1,0,none⟩ [.int .i64 (A3E o).1.1,.string (A3E o).1.2.1,.bool (A3E o).1.2.2.1,.bool (A3E o).1.2.2.2.1]) fun(_:Unit)=>
    HM.bind (α:=Int×B4p×Bool×Bool×Unit) (o9 [.int .i64,.str,.bool,.bool] ⟨x1,0,none⟩) fun(x4:Int×B4p×Bool×Bool×Unit)=>
    X8 ((x4.1,x4.2.1,x4.2.2.1,x4.2.2.2.1,()),(A3E o).2.1,())) h' fun x h'=>Q (.tuple #[.agg #[.int .i64 x.1.1,.string x.1.2.1,.bool x.1.2.2.1,.bool x.1.2.2.2.1],.bool x.2.1]) h':=fun ed af=>by
  refine o4 af.p1 rfl rfl fun h3 ai=>?_
  refine Z3 (ts:=[.int .i64,.str,.bool,.bool]) (A3E _).1 ai rfl ?_
  exact ed h3 ai.drop
 refine W0 (fun x h'=>(x=none∧(∀p∈L,p.2.aD≠c)∧sat h' (A1P b last L::cells x1 #[.int .i64 0,.string (ByteArray.mk #[]),.bool false,.bool false]::R))∨
  (∃p,p∈L∧x=some ⟨p.1,0,none⟩∧p.2.aD=c∧sat h' (A1P b last L::cells x1 #[.int .i64 0,.string (ByteArray.mk #[]),.bool false,.bool false]::R))) ?_ ?_
 ·exact C3E aa.p1 (fun hn h' af=>⟨none,rfl,.inl ⟨rfl,hn,af⟩⟩) (fun p hp hc h' af=>⟨some ⟨p.1,0,none⟩,rfl,.inr ⟨p,hp,rfl,hc,af⟩⟩)
 rintro x h2 (⟨rfl,hn,ae⟩|⟨p,hp,rfl,hc,ae⟩)
 ·refine u6 (C6i ae fun h3 ai=>⟨A3E none,rfl,?_⟩)
  exact fin (o:=none) (ay hn) ai
 ·refine u6 (C7y hp ae fun h3 ai=>⟨A3E (some (x9 p.2)),rfl,?_⟩)
  exact fin (o:=some (x9 p.2)) (db p hp hc) ai
end
section
open Go.H Go.Proofs
variable {h:Heap} {R:List Asn}
theorem C2n{b:Nat}{o:b7}{m:MsT}(hs:sat h (v7 b o::R))(ag:X5 o){Q:Value→Heap→Prop}
  (hq:∀S h',sat h' (v7 b (Z1 o m).1.1::r6 .u8 S (Z1 o m).1.2::R)→Q (.tuple #[.slice S.a S.len S.cap,.int .u8 (Z1 o m).2]) h'):
  V9 prog 81 #[at0 b,vMs m] h Q:=by
 refine A68 (some ⟨b,0,none⟩) (toU m) h Q ?_
 obtain⟨pb,fl,wt,dW⟩:=u3.1 hs
 have eY:wt.len=o.waiting.length:=(dW.re [3,0,1,2]).aW
 delta A55 az bn cc g7 ie ji kb kc nn nw pu rq sx vs vz
 refine W5 dW fun mb h1 bx=>?_
 have aa:sat h1 (cells mb (Z5 m).toArray::cells b #[at0 pb,.int .i64 o.most,.bool o.on,.slice fl.a fl.len fl.cap,.slice wt.a wt.len wt.cap]::A1A pb o.aU::V1 u4 7 fl o.aF::V1 Z5 5 wt o.waiting::R):=bx
 clear bx dW hs
 have hM:W8 h1 ⟨mb,2,none⟩=some (.int .i64 m.2.2.1):=aa.cell 2
 have stay:∀{c:Int},Z1 o m=((o,[]),c)→Q (.tuple #[.slice none 0 0,.int .u8 c]) h1:=fun{c} he=>by
  have:=hq ⟨none,0,0⟩ h1
  rw[he] at this
  exact this ((A1X (u3.2 ⟨pb,fl,wt,aa.drop⟩)).p1)
 (try dsimp only);rw[V4,if_neg (by simp)]
 refine cut (fun x h'=>h'=h1∧x.1=decide (m.2.2.1<0∨2<m.2.2.1)) ?_ ?_
 ·intro K hK
  refine⟨m.2.2.1,by rw[V0];exact hM,?_⟩
  (try dsimp only);rw[V4]
  by_cases h0:m.2.2.1<0
  ·rw[if_pos (by simpa using h0)]
   exact hK _ _ ⟨rfl,by simp[h0]⟩
  ·rw[if_neg (by simpa using h0)]
   exact⟨m.2.2.1,by rw[V0];exact hM,hK _ _ ⟨rfl,by simp[h0]⟩⟩
 rintro⟨x,⟨⟩⟩ h2 ⟨rfl,hx⟩
 simp only at hx
 subst hx
 (try dsimp only);rw[V4]
 by_cases al:m.2.2.1<0∨2<m.2.2.1
 ·rw[if_pos (by simpa using al)]
  exact stay (by unfold Z1;rw[if_pos al])
 rw[if_neg (by simpa using al)]
 refine cut (fun x h'=>h'=h2∧x.1=decide (m.2.2.1=0∧o.on=false)) ?_ ?_
 ·intro K hK
  refine⟨m.2.2.1,by rw[V0];exact hM,?_⟩
  (try dsimp only);rw[V4]
  by_cases h0:m.2.2.1=0
  ·rw[if_pos (by simpa using h0)]
   refine⟨_,rfl,o.on,by rw[V0];exact aa.p1.cell 2,hK _ _ ⟨rfl,?_⟩⟩
   cases o.on<;>simp[h0]
  ·rw[if_neg (by simpa using h0)]
   exact hK _ _ ⟨rfl,by simp[h0]⟩
 rintro⟨x,⟨⟩⟩ h3 ⟨rfl,hx⟩
 simp only at hx
 subst hx
 (try dsimp only);rw[V4]
 by_cases dL:m.2.2.1=0∧o.on=false
 ·rw[if_pos (by simpa using dL)]
  exact stay (by unfold Z1;rw[if_neg al,if_pos dL])
 rw[if_neg (by simpa using dL)]
 refine⟨_,rfl,wt,by rw[V0];exact aa.p1.cell 4,?_⟩
 (try dsimp only);rw[V4]
 by_cases ax:256≤o.waiting.length
 ·rw[if_pos (by rw[eY];simp only[decide_eq_true_eq];omega)]
  exact stay (by unfold Z1;rw[if_neg al,if_neg dL,if_pos ax])
 rw[if_neg (by rw[eY];simp only[decide_eq_true_eq];omega)]
 refine⟨_,rfl,wt,by rw[V0];exact aa.p1.cell 4,?_⟩
 refine Z3 (ts:=[.str,.str,.int .i64,.bool,.str]) (toU m) aa rfl ?_
 refine W5 aa fun pO h4 ba=>?_
 have ae:sat h4 (cells pO (Z5 m).toArray::cells mb (Z5 m).toArray::cells b #[at0 pb,.int .i64 o.most,.bool o.on,.slice fl.a fl.len fl.cap,.slice wt.a wt.len wt.cap]::A1A pb o.aU::V1 u4 7 fl o.aF::V1 Z5 5 wt o.waiting::R):=ba
 clear ba
 refine⟨wt,by rw[V0];exact ae.p2.cell 4,rfl,?_⟩
 (try dsimp only);rw[U7]
 refine A0d (enc:=Z5) (ys:=[m]) A6i B2F rfl ae.p5 rfl ?_ (by decide) (by decide) (by omega) fun wt' h5 ai=>?_
 ·simp only[W4,N5,D8,I1,C1]
  exact ae.reads rfl
 refine⟨_,rfl,?_⟩
 (try dsimp only);rw[U7,V0]
 refine X3 ai.p3 (by simp) rfl fun h6 ak=>?_
 have aj:sat h6 (v7 b {o with waiting:=o.waiting++[m]}::r6 .u8 ⟨none,0,0⟩ []::R):=by
  refine(A1X (u3.2 ⟨pb,fl,wt',?_⟩)).p1
  exact(ak.re [0,4,5,1,2,3]).p4.p5.drop.drop
 have hw:=ag.wait (m:=m) ⟨by omega,by omega⟩ ax
 have he:Z1 o m=(Z6 {o with waiting:=o.waiting++[m]},0):=by unfold Z1;rw[if_neg al,if_neg dL,if_neg ax]
 rw[he] at hq
 refine V3 (B3C aj hw (by simp) fun h7 S aw=>⟨S,rfl,?_⟩)
 exact hq S h7 aw
theorem C26{n:Int}{Q:Value→Heap→Prop}(hq:Q (.int .i64 (max 1 (min n 64))) h):V9 prog 117 #[.int .i64 n] h Q:=by
 refine A3D n h Q ?_
 delta A8y pu
 have e:(if 1<(if 64<n then(64:Int) else n) then(if 64<n then 64 else n) else 1)=max 1 (min n 64):=by
  split<;>split<;>omega
 rw[e]
 exact hq
abbrev FlU:=Int×B4p×B4p×Int×Bool×B4p×Bool×Unit
abbrev C39(f:FlT):FlU:=(f.1,f.2.1.1,f.2.1.2.1,f.2.1.2.2.1,f.2.1.2.2.2.1,f.2.1.2.2.2.2,f.2.2,())
theorem C0H{b:Nat}{o:b7}{most:Int}(hs:sat h (v7 b o::R))(ag:X5 o){Q:Value→Heap→Prop}
  (hq:∀S h',sat h' (v7 b (A0z o most).1::r6 .u8 S (A0z o most).2::R)→Q (.slice S.a S.len S.cap) h'):
  V9 prog 73 #[at0 b,.int .i64 most] h Q:=by
 refine A6v (some ⟨b,0,none⟩) most h Q ?_
 obtain⟨pb,fl,wt,dW⟩:=u3.1 hs
 delta A5s ad az bn cc ci g5 g7 ie ix jb ji kc nn nw pu sn sx ve vi vs vz wi
 (try dsimp only);rw[V4,if_neg (by simp)]
 refine V3 (C26 ⟨_,rfl,?_⟩)
 refine⟨_,rfl,?_⟩
 (try dsimp only);rw[U7,V0]
 refine X3 dW (by simp) rfl fun h1 aa=>?_
 refine⟨_,rfl,?_⟩
 (try dsimp only);rw[U7,V0]
 refine X3 aa (by simp) rfl fun h2 ba=>?_
 have ae:sat h2 (cells b #[at0 pb,.int .i64 (max 1 (min most 64)),.bool true,.slice fl.a fl.len fl.cap,.slice wt.a wt.len wt.cap]::A1A pb o.aU::V1 u4 7 fl o.aF::V1 Z5 5 wt o.waiting::R):=ba
 clear ba aa dW hs
 refine⟨_,rfl,fl,by rw[V0];exact ae.cell 3,?_⟩
 have bZ:fl.len=o.aF.length:=ae.p2.aW
 have gF:=ag.f64
 (try dsimp only);rw[U7]
 refine B2j o.aF.length (fun i x h'=>x.2.1=(i:Int)∧sat h' (cells b #[at0 pb,.int .i64 (max 1 (min most 64)),.bool true,.slice fl.a fl.len fl.cap,.slice wt.a wt.len wt.cap]::A1A pb o.aU::V1 u4 7 fl o.aF::V1 Z5 5 wt o.waiting::r6 .u8 x.1 ((o.aF.take i).map A1E)::R))
  ⟨rfl,by simpa using(A1X (k:=.u8) ae).re [1,2,3,4,0]⟩ (fun i x h hi hJ=>by rw[hJ.1,bZ];exact F8.2 (by omega)) (fun x h hJ K hd=>?_) (fun i x h ah hJ K bh hd=>?_)
 ·obtain⟨hx,ai⟩:=hJ
  rw[F5] at ai
  refine hd _ _ ?_
  have ak:sat h (v7 b {o with on:=true,most:=max 1 (min most 64)}::r6 .u8 x.1 (o.aF.map A1E)::R):=u3.2 ⟨pb,fl,wt,ai⟩
  have h1:X5 {o with on:=true,most:=max 1 (min most 64)}:=⟨ag.pm,ag.pk,by simp only;omega,by simp only;omega,ag.ids,ag.wl,ag.fq,ag.wq⟩
  refine V3 (B3C ak h1 (by rw[C0];omega) fun h7 S aw=>⟨S,rfl,?_⟩)
  exact hq S h7 aw
 ·obtain⟨out,ci,⟨⟩⟩:=x
  obtain⟨hx,ai⟩:=hJ
  simp only at hx ai
  subst hx
  have hy:=B0 ah
  have aR:(o.aF.take (i+1)).map A1E=(o.aF.take i).map A1E++[A1E o.aF[i]]:=by rw[H5,hy,B8];rfl
  generalize o.aF[i]=f at hy aR
  (try dsimp only);rw[U7]
  refine Y0 (ai.p2.aN A2A) hy fun a ha=>?_
  refine A0A (ts:=[.int .i64,.str,.str,.int .i64,.bool,.str,.bool]) (C39 f) ha ?_
  refine W5 ai fun lR h4 ak=>?_
  (try dsimp only);rw[U7]
  refine o4 ak rfl rfl fun h5 fv=>?_
  have aj:sat h5 (cells lR (u4 f).toArray::cells b #[at0 pb,.int .i64 (max 1 (min most 64)),.bool true,.slice fl.a fl.len fl.cap,.slice wt.a wt.len wt.cap]::A1A pb o.aU::V1 u4 7 fl o.aF::V1 Z5 5 wt o.waiting::r6 .u8 out ((o.aF.take i).map A1E)::R):=fv
  clear fv ak
  refine⟨f.2.2,by rw[V0];exact aj.cell 6,?_⟩
  have mm:((o.aF.take i).map A1E).length≤64:=by rw[C0,D6];omega
  refine cut (fun z h'=>sat h' (r6 .u8 z.1 ((o.aF.take (i+1)).map A1E)::cells b #[at0 pb,.int .i64 (max 1 (min most 64)),.bool true,.slice fl.a fl.len fl.cap,.slice wt.a wt.len wt.cap]::A1A pb o.aU::V1 u4 7 fl o.aF::V1 Z5 5 wt o.waiting::R)) ?_ ?_
  ·intro K2 aQ
   rw[aR] at aQ
   (try dsimp only);rw[V4]
   unfold A1E at aQ
   by_cases hr:f.2.2=true
   ·rw[if_pos hr]
    rw[if_pos hr] at aQ
    refine⟨f.1,by rw[V0];exact aj.cell 0,?_⟩
    have aw:=A3j (k:=.u8) (o:=l6 6 f.1 0) rfl rfl aj
    refine A5o (t:=(⟨none,0,0⟩,⟨none,0,0⟩,l6 6 f.1 0)) (aw.re [6,0,1,2,3,4,5]) rfl (by decide) (by omega) fun s' h6 aC=>?_
    exact aQ _ _ aC.p1.drop
   ·rw[if_neg hr]
    rw[if_neg hr] at aQ
    refine A0A (ts:=[.str,.str,.int .i64,.bool,.str]) (toU f.2.1) (fun j v hv=>?_) ?_
    ·rw[V0,Addr.bL,aj.cell]
     match j,hv with
     |0,hv=>exact hv
     |1,hv=>exact hv
     |2,hv=>exact hv
     |3,hv=>exact hv
     |4,hv=>exact hv
     |n+5,hv=>exact absurd hv (by show ¬(Z5 f.2.1)[n+5]? =some v;simp)
    refine⟨f.1,by rw[V0];exact aj.cell 0,?_⟩
    refine V3 (B8k (m:=f.2.1) (id:=f.1) (dup:=true) aj fun c p h6 aw=>⟨pkT (A0G f.2.1 f.1 true) c p,rfl,?_⟩)
    refine A5o (t:=(c,p,A0G f.2.1 f.1 true)) (aw.re [6,0,1,2,3,4,5]) rfl (by decide) (by omega) fun s' h7 aC=>?_
    exact aQ _ _ aC.p1.drop
  rintro⟨out',⟨⟩⟩ h6 aw
  exact bh _ _ ⟨by rw[W6 (by omega) (by omega)];rfl,aw.re [1,2,3,4,0]⟩
theorem C5W{α:Type}{enc:α→D0r}{size:Nat}(ao:∀x,(enc x).length=size){s:Slc}{xs:List α}(hs:sat h (V1 enc size s xs::R)):W4 size s h (xs.flatMap enc).toArray:=by
 rcases A0T hs with⟨h1,h2,rfl,-⟩|⟨b,o,cs,ho,af⟩
 ·unfold W4
  rw[h1,R9]
  cases s.a with
  |none=>simp[A5n]
  |some a=>exact⟨rfl,fun i v hv=>by simp at hv⟩
 ·unfold W4
  rw[ho.a]
  refine⟨by rw[List.size_toArray,y5 ao,←ho.len],fun i v hv=>?_⟩
  have hf:=ho.front
  have kB:(xs.flatMap enc)[i]? =some v:=by simpa using hv
  rw[←hf] at kB
  have hi:i<s.len*size:=by
   have:=(D4.1 kB).1
   rw[D6] at this
   omega
  rw[List.getElem?_take_of_lt hi,J5] at kB
  rw[Addr.bL,af.cell]
  simpa using kB
theorem C1q{α:Type}{enc:α→D0r}{size:Nat}(ao:∀x,(enc x).length=size)(cH:∀x,∀v∈enc x,v.oneCell'=true){s:Slc}{xs:List α}(hs:sat h (V1 enc size s xs::R)){elem T:TypeId}{bytes:Nat}{zero:D0q}(hz:zero.size=size)(hsz:0<size)(gI:0<bytes)(hb:xs.length*bytes≤140737488355328)
  {Q:Slc→Heap→Prop}(hq:∀s' h',sat h' (V1 enc size s' xs::V1 enc size s xs::R)→Q s' h'):
  HM.new (.cells #[] T) h fun b h'=>HM.append elem size bytes zero ⟨some ⟨b,0,none⟩,0,0⟩ s.len (W4 size s) h' Q:=by
 refine W5 hs fun b h1 aa=>?_
 have hlen:s.len=xs.length:=hs.aW
 have fo:=C5W ao aa.p1
 have ae:=A43 (enc:=enc) (size:=size) (a:=some ⟨b,0,none⟩) aa.drop
 refine A0d (ys:=xs) ao cH hz ae hlen.symm fo hsz gI (by rw[hlen];simpa using hb) fun s' h2 ai=>?_
 rw[F0] at ai
 exact hq s' h2 ai
theorem C5k{s:Slc}{xs:List MsT}(hs:sat h (V1 Z5 5 s xs::R))(hl:xs.length≤300){Q:Value→Heap→Prop}
  (hq:∀(s':Slc) h',sat h' (V1 Z5 5 s' xs::V1 Z5 5 s xs::R)→Q (.slice s'.a s'.len s'.cap) h'):
  V9 prog 101 #[.slice s.a s.len s.cap] h Q:=by
 refine A5d s h Q ?_
 delta A4a az bn ie nw pu
 (try dsimp only);rw[V4]
 cases ha:s.a with
 |none=>
  rw[if_pos (by rfl)]
  rcases A0T hs with⟨h1,h2,rfl,-⟩|⟨b,o,cs,ho,-⟩
  ·exact hq ⟨none,0,0⟩ h (Z2 hs)
  ·rw[ho.a] at ha;cases ha
 |some a=>
  rw[if_neg (by simp)]
  exact C1q A6i B2F hs rfl (by decide) (by decide) (by omega) hq
theorem B7z{b:Nat}{o:b7}(hs:sat h (v7 b o::R))(hl:o.waiting.length≤300){Q:Value→Heap→Prop}
  (hq:∀(s':Slc) h',sat h' (V1 Z5 5 s' o.waiting::v7 b o::R)→Q (.slice s'.a s'.len s'.cap) h'):
  V9 prog 58 #[at0 b] h Q:=by
 refine A5q (some ⟨b,0,none⟩) h Q ?_
 obtain⟨pb,fl,wt,hs⟩:=u3.1 hs
 delta A4g cc ie kc nn pu vs
 (try dsimp only);rw[V4,if_neg (by simp)]
 refine⟨_,rfl,wt,by rw[V0];exact hs.cell 4,?_⟩
 refine V3 (C5k (hs.re [3,0,1,2]) hl fun s' h2 aa=>⟨s',rfl,?_⟩)
 have h3:sat h2 (v7 b o::V1 Z5 5 s' o.waiting::R):=u3.2 ⟨pb,fl,wt,aa.re [2,3,4,1,0]⟩
 exact hq s' h2 h3.p1
theorem C5l{s:Slc}{xs:List FlT}(hs:sat h (V1 u4 7 s xs::R))(hl:xs.length≤300){Q:Value→Heap→Prop}
  (hq:∀(s':Slc) h',sat h' (V1 u4 7 s' xs::V1 u4 7 s xs::R)→Q (.slice s'.a s'.len s'.cap) h'):
  V9 prog 100 #[.slice s.a s.len s.cap] h Q:=by
 refine A5K s h Q ?_
 delta A4G az bn ie nw pu
 (try dsimp only);rw[V4]
 cases ha:s.a with
 |none=>
  rw[if_pos (by rfl)]
  rcases A0T hs with⟨h1,h2,rfl,-⟩|⟨b,o,cs,ho,-⟩
  ·exact hq ⟨none,0,0⟩ h (Z2 hs)
  ·rw[ho.a] at ha;cases ha
 |some a=>
  rw[if_neg (by simp)]
  exact C1q A2A A9S hs rfl (by decide) (by decide) (by omega) hq
theorem B7B{b:Nat}{o:b7}(hs:sat h (v7 b o::R))(hl:o.aF.length≤300){Q:Value→Heap→Prop}
  (hq:∀(s':Slc) h',sat h' (V1 u4 7 s' o.aF::v7 b o::R)→Q (.slice s'.a s'.len s'.cap) h'):
  V9 prog 57 #[at0 b] h Q:=by
 refine A5r (some ⟨b,0,none⟩) h Q ?_
 obtain⟨pb,fl,wt,hs⟩:=u3.1 hs
 delta A4h cc ie kc nn pu vs
 (try dsimp only);rw[V4,if_neg (by simp)]
 refine⟨_,rfl,fl,by rw[V0];exact hs.cell 3,?_⟩
 refine V3 (C5l (hs.re [2,0,1,3]) hl fun s' h2 aa=>⟨s',rfl,?_⟩)
 have h3:sat h2 (v7 b o::V1 u4 7 s' o.aF::R):=u3.2 ⟨pb,fl,wt,aa.re [2,3,1,4,0]⟩
 exact hq s' h2 h3.p1
end
end Go.Proofs.YtidlldnlphdhcaaGreatDoor
namespace Go.H
section
variable {α:Type} {enc:α→D0r} {size:Nat} {h:Heap} {s:Slc} {xs:List α} {R:List Asn}
def C9J(elem:TypeId)(size bytes:Nat)(zero:D0q)(p0:Slc)(p1:Int)(p2:Int):HM (Slc×Unit):=
 HM.bind (HM.slice p0 (some p1) (some p2) (some ((p0.len:Nat):Int)) size) fun x1=>
 A1G (p1==p2) (
 X8 (p0,())) (
 HM.bind (HM.slice p0 none (some p1) none size) fun x2=>
 HM.bind (HM.slice p0 (some p2) none none size) fun x3=>
 HM.bind (HM.append elem size bytes zero x2 x3.len (W4 size x3)) fun x4=>
 HM.bind (HM.slice x4 (some ((x4.len:Nat):Int)) (some ((p0.len:Nat):Int)) none size) fun x5=>
 HM.bind (B8S zero x5) fun _=>
 X8 (x4,()))
theorem B7U(ao:∀x,(enc x).length=size):∀(l:List α) (n:Nat),(l.flatMap enc).take (n*size)=(l.take n).flatMap enc∧(l.flatMap enc).drop (n*size)=(l.drop n).flatMap enc:=by
 intro l
 induction l with
 |nil=>intro n;simp
 |cons x l ih=>
  intro n
  cases n with
  |zero=>simp
  |succ n=>
   have hx:=ao x
   rw[D8,J7,List.take_succ_cons,List.drop_succ_cons,D8]
   refine⟨?_,?_⟩
   ·rw[List.take_append,hx,D1 (by omega),show n*size+size-size=n*size from by omega,(ih n).1]
   ·rw[List.drop_append,hx,N0 (by omega),show n*size+size-size=n*size from by omega,(ih n).2,F0]
theorem C2Z(ao:∀x,(enc x).length=size)(cH:∀x,∀v∈enc x,v.oneCell'=true){elem:TypeId}{bytes:Nat}{zero:D0q}(hz:zero.size=size)(sT:zero.toList.all (fun v=>v.oneCell')=true)(hsz:0<size)
  {i:Nat}(hs:sat h (V1 enc size s xs::R))(hi:i<xs.length){Q:Slc×Unit→Heap→Prop}
  (hq:∀s' h',sat h' (V1 enc size s' (xs.eraseIdx i)::R)→Q (s',()) h'):C9J elem size bytes zero s (i:Int) ((i:Int)+1) h Q:=by
 have hl:=hs.aW
 have hc:=hs.eE
 have sT:∀v∈(Builtin.zeroCells zero 1).toList,v.oneCell'=true:=by
  intro v hv
  rw[Array.mem_toList_iff] at hv
  unfold Builtin.zeroCells at hv
  obtain⟨j,-,rfl⟩:=Array.mem_map.1 hv
  have hj:j % zero.size<zero.size:=Nat.mod_lt _ (by omega)
  rw[getElem!_pos zero _ hj]
  exact J1.1 sT _ (by rw[Array.mem_toList_iff];exact Array.getElem_mem hj)
 have sR:(Builtin.zeroCells zero 1).toList.length=size:=by simp[Builtin.zeroCells,hz]
 rcases A0T hs with⟨-,-,rfl,-⟩|⟨b,o,cs,ho,aa⟩
 ·simp at hi
 have uY:=ho.a
 have gG:=ho.dO
 unfold C9J
 refine⟨i,i+1,s.len,⟨rfl,hc⟩,⟨by omega,by omega⟩,⟨rfl,by omega⟩,?_⟩
 (try dsimp only);rw[V4,if_neg (by simp;omega)]
 refine⟨0,i,s.cap,rfl,⟨rfl,by omega⟩,rfl,?_⟩
 refine⟨i+1,s.len,s.cap,rfl,⟨rfl,rfl⟩,⟨by omega,by omega⟩,?_⟩
 have e2:o0 s 0 i s.cap size=⟨some ⟨b,o*size,none⟩,i,s.cap⟩:=by
  unfold o0
  rw[uY,if_neg (by omega)]
  simp[Addr.bL]
 have e3:(o0 s (i+1) s.len s.cap size).len=s.len-(i+1):=rfl
 have hmul:s.len*size=i*size+size+(s.len-(i+1))*size:=by
  rw[←J7,←J8];congr 1;omega
 have hle:(o+s.len)*size≤cs.size:=C4 (Q8 _ (by omega)) gG
 have vm:(o+s.len)*size=o*size+s.len*size:=J8 ..
 have bZ:=y5 ao (xs.drop (i+1))
 rw[R3,←hl] at bZ
 have fI:(xs.drop (i+1)).flatMap enc=(xs.flatMap enc).drop ((i+1)*size):=((B7U ao xs (i+1)).2).symm
 rw[e2]
 (try dsimp only);rw[U7,e3]
 refine⟨fun _=>?_,fun ou=>absurd ou (by simp only;omega)⟩
 refine⟨((xs.drop (i+1)).flatMap enc).toArray,?_,?_⟩
 ·unfold W4
  have ha:(o0 s (i+1) s.len s.cap size).a=some ⟨b,if s.cap=i+1 then o*size else o*size+(i+1)*size,none⟩:=by
   unfold o0
   simp only[uY]
   split<;>simp[Addr.bL]
  rw[ha,e3]
  refine⟨by simpa using bZ,fun j v hv=>?_⟩
  have kB:((xs.drop (i+1)).flatMap enc)[j]? =some v:=by simpa using hv
  have hj:=(D4.1 kB).1
  rw[bZ] at hj
  rw[if_neg (by intro e;rw[show s.len-(i+1)=0 by omega] at hj;omega)]
  rw[Addr.bL,aa.cell]
  rw[fI,←ho.front,J5,List.getElem?_take_of_lt (by rw[J7];omega),J5] at kB
  rw[show o*size+(i+1)*size+j=o*size+((i+1)*size+j) by omega]
  simpa using kB
 dsimp only
 rw[Addr.bL]
 have tW:o*size+i*size+((xs.drop (i+1)).flatMap enc).length≤cs.size:=by rw[bZ];omega
 refine⟨by
  have:=A3w (o:=o*size+i*size) (vs:=(xs.drop (i+1)).flatMap enc) aa tW (fun v hv=>by
   obtain⟨x,_,hx⟩:=T8.1 hv
   exact cH x v hx)
  simpa using this,?_⟩
 obtain⟨px,f1,f2,ae⟩:=sat.setCells ((xs.drop (i+1)).flatMap enc) cs (o*size+i*size) 0 aa (by omega)
 have e4:i+(s.len-(i+1))=s.len-1:=by omega
 rw[e4]
 refine⟨s.len-1,s.len,s.cap,rfl,⟨rfl,hc⟩,⟨rfl,by omega⟩,?_⟩
 have e5:o0 ⟨some ⟨b,o*size,none⟩,s.len-1,s.cap⟩ (s.len-1) s.len s.cap size=⟨some ⟨b,o*size+(s.len-1)*size,none⟩,1,s.cap-(s.len-1)⟩:=by
  unfold o0
  rw[if_neg (by omega)]
  simp only[S0,Addr.bL]
  congr 1
  omega
 rw[e5]
 (try dsimp only);rw[U7]
 unfold B8S
 dsimp only
 rw[if_neg (by decide)]
 have vw:s.len*size=(s.len-1)*size+size:=by
  rw[←J7];congr 1;omega
 have tV:o*size+(s.len-1)*size+(Builtin.zeroCells zero 1).toList.length≤px.size:=by rw[sR,f1];omega
 refine⟨by
  have:=A3w (o:=o*size+(s.len-1)*size) (vs:=(Builtin.zeroCells zero 1).toList) ae tV sT
  simpa using this,?_⟩
 obtain⟨yq,g1,g2,ai⟩:=sat.setCells (Builtin.zeroCells zero 1).toList px (o*size+(s.len-1)*size) 0 ae (by omega)
 refine hq _ _ (A1N (b:=b) (o:=o) (cs:=yq) ⟨rfl,by simp only;omega,?_,by rw[g1,f1];exact gG,?_⟩ ai)
 ·rw[List.length_eraseIdx_of_lt hi];simp only;omega
 rw[g2,O7,D7]
 have qX:px.toList.length=cs.size:=by simp[f1]
 have bg:cs.toList.length=cs.size:=by simp
 have t1:((px.toList.take (o*size+(s.len-1)*size)++((Builtin.zeroCells zero 1).toList++px.toList.drop (o*size+(s.len-1)*size+(Builtin.zeroCells zero 1).toList.length))).drop (o*size)).take ((s.len-1)*size)
   =(px.toList.drop (o*size)).take ((s.len-1)*size):=by
  rw[P1 (by rw[D6,qX];omega),P2 (by rw[R3,D6,qX];omega),List.drop_take,List.take_take]
  congr 1
  omega
 rw[t1,f2,O7,D7]
 rw[P1 (by rw[D6,bg];omega),List.drop_take,show o*size+i*size-o*size=i*size by omega]
 have t2:(cs.toList.drop (o*size)).take (i*size)=(xs.take i).flatMap enc:=by
  rw[←(B7U ao xs i).1,←ho.front,List.take_take]
  congr 1
  omega
 rw[t2,List.eraseIdx_eq_take_drop_succ,I7,←D7]
 rw[P2,D1]
 ·rw[B3,bZ,y5 ao,D6,Nat.min_eq_left (by omega)];omega
 ·rw[B3,bZ,y5 ao,D6,Nat.min_eq_left (by omega)];omega
end
end Go.H
namespace Go.Proofs.YtidlldnlphdhcaaGreatDoor
open Go.H
open Go.Proofs.Tryz
section
open Go.H Go.Proofs
variable {h:Heap} {R:List Asn}
theorem B2R(a:Addr)(m n:Nat):(a.add m).add n=a.add (m+n):=by
 unfold Addr.add
 by_cases hn:n=0
 ·subst hn;simp
 ·by_cases hm:m=0
  ·subst hm;simp
  ·rw[if_neg hn,if_neg hm,if_neg (by omega),Nat.add_assoc]
theorem B8G{xs:List FlT}(hn:(xs.map (·.1)).Nodup):∀{i:Nat} {f:FlT},xs[i]? =some f→xs.eraseIdx i=xs.filter fun g=>decide (g.1≠f.1):=by
 induction xs with
 |nil=>intro i f hf;simp at hf
 |cons x xs ih=>
  intro i f hf
  rw[B5,G0] at hn
  cases i with
  |zero=>
   rw[P3] at hf
   cases hf
   rw[List.eraseIdx_cons_zero,I0,if_neg (by simp)]
   refine(H3.2 fun g hg=>?_).symm
   simp only[decide_eq_true_eq]
   intro e
   exact hn.1 (e▸B4 hg)
  |succ i=>
   rw[P4] at hf
   have hx:x.1≠f.1:=fun e=>hn.1 (e▸B4 (E9 hf))
   rw[List.eraseIdx_cons_succ,I0,if_pos (by simpa using hx),ih hn.2 hf]
theorem C3p{xs:List FlT}(hn:(xs.map (·.1)).Nodup):∀{i:Nat} {f:FlT},xs[i]? =some f→xs.set i (f.1,f.2.1,true)=xs.map fun g=>if g.1=f.1 then(g.1,g.2.1,true) else g:=by
 induction xs with
 |nil=>intro i f hf;simp at hf
 |cons x xs ih=>
  intro i f hf
  rw[B5,G0] at hn
  cases i with
  |zero=>
   rw[P3] at hf
   cases hf
   rw[List.set_cons_zero,B5,if_pos rfl]
   congr 1
   conv=>lhs;rw[←U2 xs]
   refine I2 fun g hg=>?_
   rw[if_neg (fun e:g.1=x.1=>hn.1 (e▸B4 hg))]
   rfl
  |succ i=>
   rw[P4] at hf
   have hx:x.1≠f.1:=fun e=>hn.1 (e▸B4 (E9 hf))
   rw[List.set_cons_succ,B5,if_neg hx,ih hn.2 hf]
theorem C1d{xs:List FlT}{id:Int}(hn:(xs.map (·.1)).Nodup){i:Nat}{f:FlT}(hf:xs[i]? =some f)(he:f.1=id):xs.find? (fun g=>decide (g.1=id))=some f:=by
 induction xs generalizing i with
 |nil=>simp at hf
 |cons x xs ih=>
  rw[B5,G0] at hn
  cases i with
  |zero=>
   rw[P3] at hf
   cases hf
   rw[R6 (by simpa using he)]
  |succ i=>
   rw[P4] at hf
   have hx:x.1≠id:=fun e=>hn.1 ((e.trans he.symm)▸B4 (E9 hf))
   rw[List.find?_cons_of_neg (by simpa using hx),ih hn.2 hf]
theorem B8F{xs:List FlT}{id:Int}(hn:∀f∈xs,f.1≠id):xs.find? (fun g=>decide (g.1=id))=none:=
 E7.2 fun f hf=>by simpa using hn f hf
theorem X5.nd{o:b7}(h:X5 o):(o.aF.map (·.1)).Nodup:=by rw[h.ids];exact h.pk.nodup
theorem C6Q{cb:Nat}{cs:D0q}{id:Int}{f:FlT}(hs:sat h (cells cb cs::R))(hc:cs[4]? =some (.int .i64 id)){Q:Value→Heap→Prop}(hq:∀h',sat h' (cells cb cs::R)→Q (.bool (f.1==id)) h'):
  V9 prog 162 #[.agg (u4 f).toArray,at0 cb] h Q:=by
 refine A4C (C39 f) ⟨cb,0,none⟩ h Q ?_
 delta A3o ji ki nw pu
 refine W5 hs fun x1 h1 aa=>?_
 refine⟨f.1,by rw[V0];exact aa.cell 0,id,by rw[V0];exact(aa.p1.cell 4).trans hc,?_⟩
 exact hq h1 aa.drop
theorem C4M{cb:Nat}{cs:D0q}{id:Int}{s:Slc}{xs:List FlT}(hs:sat h (cells cb cs::V1 u4 7 s xs::R))(hl:xs.length≤300)(hc:cs[4]? =some (.int .i64 id)){Q:Value→Heap→Prop}
  (ay:(∀f∈xs,f.1≠id)→∀h',sat h' (cells cb cs::V1 u4 7 s xs::R)→Q (.int .i64 (-1)) h')
  (db:∀(i:Nat) (f:FlT),xs[i]? =some f→f.1=id→∀h',sat h' (cells cb cs::V1 u4 7 s xs::R)→Q (.int .i64 i) h'):
  V9 prog 161 #[.slice s.a s.len s.cap,.func (.func 162) #[] #[at0 cb]] h Q:=by
 refine A39 s _ h Q ?_
 delta A2T bn g5 ie ix pu wi
 (try dsimp only);rw[U7]
 have cA:s.len=xs.length:=hs.p1.aW
 refine B2j xs.length (fun i x h'=>x.1=(i:Int)∧(∀f∈xs.take i,f.1≠id)∧sat h' (cells cb cs::V1 u4 7 s xs::R))
  ⟨rfl,by simp,hs⟩ (fun i x h hi hJ=>by rw[hJ.1,cA];exact F8.2 (by omega)) (fun x h hJ K hd=>?_) (fun i x h ah hJ K bh hd=>?_)
 ·obtain⟨hx,hn,aa⟩:=hJ
  rw[F5] at hn
  exact hd _ _ (ay hn _ aa)
 ·obtain⟨ci,⟨⟩⟩:=x
  obtain⟨hx,hn,aa⟩:=hJ
  simp only at hx
  subst hx
  have hy:=B0 ah
  have aR:xs.take (i+1)=xs.take i++[xs[i]]:=by rw[H5,hy];rfl
  generalize xs[i]=f at hy aR
  (try dsimp only);rw[U7]
  refine Y0 (aa.p1.aN A2A) hy fun a ha=>?_
  refine A0A (ts:=[.int .i64,.str,.str,.int .i64,.bool,.str,.bool]) (C39 f) ha ?_
  refine⟨_,_,_,rfl,call162,?_⟩
  refine C6Q (f:=f) aa hc fun h2 ae=>⟨_,rfl,?_⟩
  (try dsimp only);rw[V4]
  by_cases e:f.1=id
  ·rw[if_pos (by simpa using e)]
   exact hd _ _ (db i f hy e _ ae)
  ·rw[if_neg (by simpa using e)]
   refine bh _ _ ⟨by rw[W6 (by omega) (by omega)];rfl,fun g hg=>?_,ae⟩
   rw[aR] at hg
   rcases C7.1 hg with hg|hg
   ·exact hn g hg
   ·rw[B9.1 hg];exact e
theorem B9K{s:Slc}{xs:List FlT}{i:Nat}(hs:sat h (V1 u4 7 s xs::R))(hi:i<xs.length){Q:Value→Heap→Prop}
  (hq:∀(s':Slc) h',sat h' (V1 u4 7 s' (xs.eraseIdx i)::R)→Q (.slice s'.a s'.len s'.cap) h'):
  V9 prog 211 #[.slice s.a s.len s.cap,.int .i64 i,.int .i64 ((i:Int)+1)] h Q:=by
 refine A90 s i _ h Q ?_
 exact C2Z (zero:=#[.int .i64 0,.string (ByteArray.mk #[]),.string (ByteArray.mk #[]),.int .i64 0,.bool false,.string (ByteArray.mk #[]),.bool false]) A2A A9S rfl rfl (by decide) hs hi fun s' h' af=>hq s' h' af
theorem C2o{b:Nat}{o:b7}{i:Nat}{f:FlT}(hs:sat h (v7 b o::R))(ag:X5 o)(hf:o.aF[i]? =some f){Q:Value→Heap→Prop}
  (hq:∀h',sat h' (v7 b (A3l o f.1)::R)→Q (.tuple #[]) h'):V9 prog 163 #[at0 b,.int .i64 i] h Q:=by
 refine A66 (some ⟨b,0,none⟩) i h Q ?_
 obtain⟨pb,fl,wt,aa⟩:=u3.1 hs
 delta A53 cb cc ix kc ki kp nn pu sx vi vs wi
 have cF:=(D4.1 hf).1
 have gF:=ag.f64
 refine⟨_,rfl,some ⟨pb,0,none⟩,by rw[V0];exact aa.cell 0,_,rfl,fl,by rw[V0];exact aa.cell 3,?_⟩
 (try dsimp only);rw[U7]
 refine Y0 (aa.p2.aN A2A) hf fun a ha=>?_
 refine⟨f.1,ha 0 _ rfl,?_⟩
 refine V3 (B8U aa.p1 fun h2 ae=>⟨_,rfl,?_⟩)
 refine⟨_,rfl,fl,by rw[V0];exact ae.p1.cell 3,?_⟩
 have w:IntKind.wrap .i64 ((i:Int)+1)=(i:Int)+1:=W6 (by omega) (by omega)
 (try dsimp only);rw[w]
 refine V3 (B9K ae.p2 cF fun s' h3 ai=>⟨s',rfl,?_⟩)
 refine⟨_,rfl,?_⟩
 (try dsimp only);rw[U7,V0]
 refine X3 ai.p2 (by simp) rfl fun h4 ak=>?_
 refine hq h4 (u3.2 ⟨pb,s',wt,?_⟩)
 rw[B8G ag.nd hf] at ak
 exact ak.re [0,2,1,3]
theorem C4B{b:Nat}{o:b7}{p:Pk}(hs:sat h (v7 b o::R))(ag:X5 o){Q:Value→Heap→Prop}
  (hq:∀S h',sat h' (v7 b (A09 o p.1 p.2.2.2.2.1 p.2.2.2.2.2.2.2.1).1.1::r6 .u8 S (A09 o p.1 p.2.2.2.2.1 p.2.2.2.2.2.2.2.1).1.2::R)→Q (.tuple #[.slice S.a S.len S.cap,.int .u8 (A09 o p.1 p.2.2.2.2.1 p.2.2.2.2.2.2.2.1).2]) h'):
  V9 prog 108 #[at0 b,A2B .u8 p] h Q:=by
 refine A5M (some ⟨b,0,none⟩) p h Q ?_
 delta A4J az bn cc ci cx ie ix ji ju kb kc ki nn nw pu sx ve vi vs vz
 refine W5 hs fun cb h1 bx=>?_
 have aa:sat h1 (cells cb (X4 .u8 p).toArray::v7 b o::R):=bx
 clear bx hs
 have k0:∀{h':Heap} {R':List Asn},sat h' (cells cb (X4 .u8 p).toArray::R')→W8 h' ⟨cb,0,none⟩=some (.int .i64 p.1):=fun hs=>hs.cell 0
 have k4:∀{h':Heap} {R':List Asn},sat h' (cells cb (X4 .u8 p).toArray::R')→W8 h' ⟨cb,4,none⟩=some (.int .i64 p.2.2.2.2.1):=fun hs=>hs.cell 4
 have k7:∀{h':Heap} {R':List Asn},sat h' (cells cb (X4 .u8 p).toArray::R')→W8 h' ⟨cb,7,none⟩=some (.int .u8 p.2.2.2.2.2.2.2.1):=fun hs=>hs.cell 7
 have g4:(X4 .u8 p).toArray[4]? =some (.int .i64 p.2.2.2.2.1):=rfl
 generalize hk:p.1=k at*
 generalize hid:p.2.2.2.2.1=id at*
 generalize pg:p.2.2.2.2.2.2.2.1=c at*
 generalize(X4 .u8 p).toArray=cs at*
 have stay:∀{cc:Int} {h':Heap},sat h' (cells cb cs::v7 b o::R)→A09 o k id c=((o,[]),cc)→Q (.tuple #[.slice none 0 0,.int .u8 cc]) h':=fun{cc h'} hs he=>by
  have:=hq ⟨none,0,0⟩ h'
  rw[he] at this
  exact this ((A1X hs.drop).p1)
 (try dsimp only);rw[V4,if_neg (by simp)]
 refine cut (fun x h'=>h'=h1∧x.1=decide (o.on=false∨(k≠4∧k≠5∧k≠7))) ?_ ?_
 ·intro K hK
  obtain⟨pb,fl,wt,ae⟩:=u3.1 aa.p1
  refine⟨_,rfl,o.on,by rw[V0];exact ae.cell 2,?_⟩
  (try dsimp only);rw[V4]
  cases aV:o.on with
  |false=>rw[if_pos (by rfl)];exact hK _ _ ⟨rfl,by simp[aV]⟩
  |true=>
   rw[if_neg (by simp)]
   refine⟨k,by rw[V0];exact k0 aa,?_⟩
   (try dsimp only);rw[V4]
   by_cases h4:k=4
   ·rw[if_neg (by simp[h4])];exact hK _ _ ⟨rfl,by simp[h4,aV]⟩
   ·rw[if_pos (by simp[h4])]
    refine⟨k,by rw[V0];exact k0 aa,?_⟩
    (try dsimp only);rw[V4]
    by_cases h5:k=5
    ·rw[if_neg (by simp[h5])];exact hK _ _ ⟨rfl,by simp[h5,aV]⟩
    ·rw[if_pos (by simp[h5])]
     refine⟨k,by rw[V0];exact k0 aa,hK _ _ ⟨rfl,?_⟩⟩
     by_cases h7:k=7<;>simp[h4,h5,h7,aV]
 rintro⟨x,⟨⟩⟩ h2 ⟨rfl,hx⟩
 simp only at hx
 subst hx
 (try dsimp only);rw[V4]
 by_cases al:o.on=false∨(k≠4∧k≠5∧k≠7)
 ·rw[if_pos (by simpa using al)]
  exact stay aa (by unfold A09;rw[if_pos al])
 rw[if_neg (by simpa using al)]
 obtain⟨pb,fl,wt,ae⟩:=u3.1 aa.p1
 refine⟨_,rfl,fl,by rw[V0];exact ae.cell 3,?_⟩
 have gF:=ag.f64
 refine V3 (C4M (ae.re [4,2,0,1,3]) (by omega) g4 (fun ay h3 ai=>⟨_,rfl,?_⟩) (fun i f hf he h3 bt=>⟨_,rfl,?_⟩))
 ·(try dsimp only);rw[V4,if_pos (by decide)]
  refine stay (sat.p1 (u3.2 ⟨pb,fl,wt,ai.re [2,3,1,4,0]⟩)) ?_
  unfold A09
  rw[if_neg al,B8F ay]
 have ai:sat h3 (cells b #[at0 pb,.int .i64 o.most,.bool o.on,.slice fl.a fl.len fl.cap,.slice wt.a wt.len wt.cap]::cells cb cs::A1A pb o.aU::V1 u4 7 fl o.aF::V1 Z5 5 wt o.waiting::R):=bt.re [2,0,3,1,4]
 clear bt
 have bV:sat h3 (cells cb cs::v7 b o::R):=sat.p1 (u3.2 ⟨pb,fl,wt,ai.re [0,2,3,4,1]⟩)
 have gX:=C1d ag.nd hf he
 have oZ:=E9 hf
 have aJ:A09 o k id c=(if k=4 then(if f.2.1.2.2.1≠1 then((o,[]),130) else(Z6 (A3l o id),0))
   else if k=5 then
    (if f.2.1.2.2.1≠2∨(128≤c∧f.2.2=true) then((o,[]),130)
    else if 128≤c then(Z6 (A3l o id),0)
    else(((Z6 (B24 o id)).1,l6 6 id 0::(Z6 (B24 o id)).2),0))
   else(if f.2.2=false then((o,[]),130) else(Z6 (A3l o id),0))):=by
  unfold A09
  rw[if_neg al,gX]
 (try dsimp only);rw[V4,if_neg (by simp)]
 refine⟨_,rfl,fl,by rw[V0];exact ai.cell 3,?_⟩
 (try dsimp only);rw[U7]
 refine B9F A2A ai.p3 hf fun a ha bF=>?_
 have aq:W8 h3 ((a.add 1).add 2)=some (.int .i64 f.2.1.2.2.1):=by rw[B2R];exact ha 3 _ rfl
 have ar:W8 h3 (a.add 6)=some (.bool f.2.2):=ha 6 _ rfl
 refine⟨k,by rw[V0];exact k0 ai.p1,?_⟩
 refine cut (fun z h'=>match z with
  |.inl x=>∃(o':b7) (os:List PkO),X5 o'∧os.length≤10∧A09 o k id c=(((Z6 o').1,os++(Z6 o').2),0)∧sat h' (v7 b o'::r6 .u8 x.1 os::R)
  |.inr y=>y.1=⟨none,0,0⟩∧A09 o k id c=((o,[]),y.2.1)∧sat h' (cells cb cs::v7 b o::R)) ?_ ?_
 ·intro K hK
  have bad:A09 o k id c=((o,[]),130)→K (.inr (⟨none,0,0⟩,130,())) h3:=fun e=>hK _ _ ⟨rfl,e,bV⟩
  have bR:∀{K2:s6 []→Heap→Prop},(∀h',sat h' (v7 b (A3l o id)::r6 .u8 ⟨none,0,0⟩ []::R)→K2 () h')→V9 prog 163 #[.pointer (some ⟨b,0,none⟩),.int .i64 i] h3 (s6.un [] K2):=fun aQ=>
   C2o bV.p1 ag hf fun h' af=>⟨(),rfl,aQ h' (by rw[he] at af;exact(A1X af.p1.drop).p1)⟩
  have tD:=ag.over id
  (try dsimp only);rw[V4]
  by_cases h4:k=4
  ·rw[if_pos (by simp[h4])]
   rw[if_pos h4] at aJ
   refine⟨_,rfl,f.2.1.2.2.1,aq,?_⟩
   (try dsimp only);rw[V4]
   by_cases iJ:f.2.1.2.2.1=1
   ·rw[if_neg (by simp[iJ])]
    rw[if_neg (by simp[iJ])] at aJ
    refine u6 (bR fun h' af=>?_)
    exact hK _ _ ⟨A3l o id,[],tD,by simp,aJ,af⟩
   ·rw[if_pos (by simp[iJ])]
    rw[if_pos iJ] at aJ
    exact bad aJ
  rw[if_neg (by simp[h4])]
  rw[if_neg h4] at aJ
  refine cut (fun z h'=>match z with
   |.inl x=>∃(o':b7) (os:List PkO),X5 o'∧os.length≤10∧A09 o k id c=(((Z6 o').1,os++(Z6 o').2),0)∧sat h' (v7 b o'::r6 .u8 x.1 os::R)
   |.inr (.inl x)=>False
   |.inr (.inr y)=>y.1=⟨none,0,0⟩∧A09 o k id c=((o,[]),y.2.1)∧sat h' (cells cb cs::v7 b o::R)) ?_ ?_
  ·intro K2 aQ
   have bad:A09 o k id c=((o,[]),130)→K2 (.inr (.inr (⟨none,0,0⟩,130,()))) h3:=fun e=>aQ _ _ ⟨rfl,e,bV⟩
   (try dsimp only);rw[V4]
   by_cases h5:k=5
   ·rw[if_pos (by simp[h5])]
    rw[if_pos h5] at aJ
    refine⟨_,rfl,f.2.1.2.2.1,aq,?_⟩
    refine cut (fun z h'=>h'=h3∧z.1=decide (f.2.1.2.2.1≠2∨(128≤c∧f.2.2=true))) ?_ ?_
    ·intro K3 mo
     (try dsimp only);rw[V4]
     by_cases fc:f.2.1.2.2.1=2
     ·rw[if_neg (by simp[fc])]
      refine cut (fun z h'=>h'=h3∧z.1=decide (128≤c∧f.2.2=true)) ?_ ?_
      ·intro K4 dh
       refine⟨c,by rw[V0];exact k7 ai.p1,?_⟩
       (try dsimp only);rw[V4]
       by_cases fK:128≤c
       ·rw[if_pos (by simpa using fK)]
        refine⟨_,rfl,f.2.2,ar,dh _ _ ⟨rfl,?_⟩⟩
        simp[fK]
       ·rw[if_neg (by simpa using fK)]
        exact dh _ _ ⟨rfl,by simp[fK]⟩
      rintro⟨z,⟨⟩⟩ h4 ⟨rfl,hz⟩
      simp only at hz
      refine mo _ _ ⟨rfl,?_⟩
      simp only[hz]
      simp[fc]
     ·rw[if_pos (by simp[fc])]
      exact mo _ _ ⟨rfl,by simp[fc]⟩
    rintro⟨z,⟨⟩⟩ h4 ⟨rfl,hz⟩
    simp only at hz
    subst hz
    (try dsimp only);rw[V4]
    by_cases dA:f.2.1.2.2.1≠2∨(128≤c∧f.2.2=true)
    ·rw[if_pos (decide_eq_true dA)]
     rw[if_pos dA] at aJ
     exact bad aJ
    rw[if_neg (by rw[decide_eq_true_eq];exact dA)]
    rw[if_neg dA] at aJ
    refine⟨c,by rw[V0];exact k7 ai.p1,?_⟩
    refine cut (fun z h'=>∃(o':b7) (os:List PkO),X5 o'∧os.length≤10∧A09 o k id c=(((Z6 o').1,os++(Z6 o').2),0)∧sat h' (v7 b o'::r6 .u8 z.1 os::R)) ?_ ?_
    ·intro K3 mo
     (try dsimp only);rw[V4]
     by_cases fK:128≤c
     ·rw[if_pos (by simpa using fK)]
      rw[if_pos fK] at aJ
      refine u6 (bR fun h' af=>?_)
      exact mo _ _ ⟨A3l o id,[],tD,by simp,aJ,af⟩
     ·rw[if_neg (by simpa using fK)]
      rw[if_neg fK] at aJ
      refine⟨_,rfl,?_⟩
      (try dsimp only);rw[U7]
      refine bF 6 (.bool true) (f.1,f.2.1,true) _ (by decide) rfl rfl fun h5 aj=>?_
      rw[C3p ag.nd hf,he] at aj
      have aw:sat h5 (cells cb cs::v7 b (B24 o id)::R):=sat.p1 (u3.2 ⟨pb,fl,wt,aj.re [1,3,0,4,2]⟩)
      refine⟨id,by rw[V0];exact k4 aw,?_⟩
      have aC:=A1X (k:=.u8) (A3j (k:=.u8) (o:=l6 6 id 0) rfl rfl aw)
      refine A5o (t:=(⟨none,0,0⟩,⟨none,0,0⟩,l6 6 id 0)) aC rfl (by decide) (by decide) fun s' h6 bq=>?_
      have fc:f.2.1.2.2.1=2:=Classical.not_not.1 fun e=>dA (.inl e)
      have hrel:X5 (B24 o id):=ag.rel fun g hg e=>by rw[ag.one hg oZ (e.trans he.symm)];exact fc
      exact mo _ _ ⟨B24 o id,[l6 6 id 0],hrel,by simp,aJ,bq.p1.drop.re [1,0]⟩
    rintro⟨z,⟨⟩⟩ h4 ⟨o',os,g1,g2,g3,g4⟩
    exact aQ _ _ ⟨o',os,g1,g2,g3,g4⟩
   ·rw[if_neg (by simp[h5])]
    rw[if_neg h5] at aJ
    refine⟨_,rfl,f.2.2,ar,?_⟩
    (try dsimp only);rw[V4]
    cases hr:f.2.2 with
    |false=>
     rw[if_pos (by rfl)]
     rw[if_pos hr] at aJ
     exact bad aJ
    |true=>
     rw[if_neg (by simp)]
     rw[if_neg (by simp[hr])] at aJ
     refine u6 (bR fun h' af=>?_)
     exact aQ _ _ ⟨A3l o id,[],tD,by simp,aJ,af⟩
  rintro z h4 hz
  match z,hz with
  |.inl (x,()),hz=>exact hK _ _ hz
  |.inr (.inr (y1,y2,())),hz=>exact hK _ _ hz
 rintro z h4 hz
 match z,hz with
 |.inl (x,()),⟨o',os,g1,g2,g3,g4⟩=>
  refine V3 (B3C g4 g1 (by omega) fun h7 S aw=>⟨S,rfl,?_⟩)
  have:=hq S h7
  rw[g3] at this
  exact this aw
 |.inr (y1,y2,()),⟨g1,g2,g3⟩=>
  simp only at g1 g2
  subst g1
  exact stay g3 g2
end
section
open Go.H Go.Proofs
variable {h h0:Heap} {L L' L1 L2 L3 R:List Asn} {Q:Value→Heap→Prop}
theorem B49{b:Nat}{o:b7}{m:MsT}(ag:X5 o)(hq:∀S:Slc,At (v7 b (Z1 o m).1.1::r6 .u8 S (Z1 o m).1.2::L1) (Q (.tuple #[.slice S.a S.len S.cap,.int .u8 (Z1 o m).2])))(hx:Has L (v7 b o) L1:=by repeat first|with_reducible exact V5|apply V7):
  FW prog 81 #[at0 b,vMs m] L Q:=fun h hs=>C2n (hx.s hs) ag fun S h' af=>hq S h' af
theorem C51{b:Nat}{o:b7}{most:Int}(ag:X5 o)(hq:∀S:Slc,At (v7 b (A0z o most).1::r6 .u8 S (A0z o most).2::L1) (Q (.slice S.a S.len S.cap)))(hx:Has L (v7 b o) L1:=by repeat first|with_reducible exact V5|apply V7):
  FW prog 73 #[at0 b,.int .i64 most] L Q:=fun h hs=>C0H (hx.s hs) ag fun S h' af=>hq S h' af
theorem C8t{b:Nat}{o:b7}{p:Pk}(ag:X5 o)(hq:∀S:Slc,At (v7 b (A09 o p.1 p.2.2.2.2.1 p.2.2.2.2.2.2.2.1).1.1::r6 .u8 S (A09 o p.1 p.2.2.2.2.1 p.2.2.2.2.2.2.2.1).1.2::L1) (Q (.tuple #[.slice S.a S.len S.cap,.int .u8 (A09 o p.1 p.2.2.2.2.1 p.2.2.2.2.2.2.2.1).2])))
  (hx:Has L (v7 b o) L1:=by repeat first|with_reducible exact V5|apply V7):FW prog 108 #[at0 b,A2B .u8 p] L Q:=fun h hs=>C4B (hx.s hs) ag fun S h' af=>hq S h' af
theorem C6j{f:Nat}{s:y9}{p:Pk}{why:Int}(hq:∀S:Slc,At (A0w f ⟨s.most,s.taken,(q7 s p.1 p.2.2.2.1 p.2.2.2.2.1 why).2.2.2⟩::r6 .u8 S (A31 (q7 s p.1 p.2.2.2.1 p.2.2.2.2.1 why).2.1 p.2.2.2.2.1)::L1)
   (Q (.tuple #[.bool (q7 s p.1 p.2.2.2.1 p.2.2.2.2.1 why).1,.slice S.a S.len S.cap,.int .u8 (q7 s p.1 p.2.2.2.1 p.2.2.2.2.1 why).2.2.1])))(hx:Has L (A0w f s) L1:=by repeat first|with_reducible exact V5|apply V7):
  FW prog 107 #[at0 f,A2B .u8 p,.int .u8 why] L Q:=fun h hs=>by
 refine B9E (hx.s hs) (fun hn h' af=>?_) (fun k c hy b h' af=>?_)
 ·have:=hq ⟨none,0,0⟩
  rw[hn] at this
  exact this h' (A1X af).p1
 ·have:=hq ⟨some ⟨b,0,none⟩,1,1⟩
  rw[hy] at this
  refine this h' ?_
  have h1:sat h' (V1 (X4 .u8) 26 ⟨some ⟨b,0,none⟩,1,1⟩ [pkF (⟨none,0,0⟩,⟨none,0,0⟩,l6 k p.2.2.2.2.1 c)]::A0w f ⟨s.most,s.taken,(q7 s p.1 p.2.2.2.1 p.2.2.2.2.1 why).2.2.2⟩::L1):=
   A1N (o:=0) ⟨rfl,D9 _,rfl,by simp,by rfl⟩ af
  have h2:sat h' (r6 .u8 ⟨some ⟨b,0,none⟩,1,1⟩ [l6 k p.2.2.2.2.1 c]::A0w f ⟨s.most,s.taken,(q7 s p.1 p.2.2.2.1 p.2.2.2.2.1 why).2.2.2⟩::L1):=
   A7L.2 ⟨[(⟨none,0,0⟩,⟨none,0,0⟩,l6 k p.2.2.2.2.1 c)],rfl,(A3Z.2 (A3j (o:=l6 k p.2.2.2.2.1 c) rfl rfl h1)).p1⟩
  exact h2.p1
theorem C3n{b:Nat}{last:Int}{A:List W7}(hs:sat h (A1g b last A::R)):(A.map (·.id)).Nodup:=by
 obtain⟨X,rfl,h1⟩:=A0j.1 hs
 obtain⟨m,h2⟩:=s7.1 h1
 have:=h2.p1.bK
 rw[F3] at this
 rw[F3]
 exact this
def B0L(b:Nat)(last:Int)(A:List W7)(s:W7)(ob ib:Nat):Asn:=exA fun x:List (Nat×W7)×List (Nat×W7)×Nat×Nat=>A00 [pr ((x.1++(x.2.2.1,s)::x.2.1).map (·.2)=A),
 cells x.2.2.1 (B86 s ob ib),cells b #[.int .i64 last,.map (some x.2.2.2)],mapA eKI eVP x.2.2.2 ((x.1++(x.2.2.1,s)::x.2.1).map q9),b8 (fun p=>A3N p.1 p.2) (x.1++x.2.1)]
theorem B1x{b:Nat}{last:Int}{A:List W7}{s:W7}{ob ib:Nat}:sat h (B0L b last A s ob ib::R)↔∃(l1 l2:List (Nat×W7)) (nb m:Nat),(l1++(nb,s)::l2).map (·.2)=A∧
  sat h (cells nb (B86 s ob ib)::cells b #[.int .i64 last,.map (some m)]::mapA eKI eVP m ((l1++(nb,s)::l2).map q9)::b8 (fun p=>A3N p.1 p.2) (l1++l2)::R):=by
 unfold B0L
 rw[sat.aZ]
 simp only[sat.bW,G7,F0,sat.bB]
 exact⟨fun⟨x,hh⟩=>⟨x.1,x.2.1,x.2.2.1,x.2.2.2,hh⟩,fun⟨a,b,c,d,hh⟩=>⟨(a,b,c,d),hh⟩⟩
theorem A42{b:Nat}{last:Int}{A:List W7}{s:W7}(hm:s∈A):∀h R,sat h (A1g b last A::R)→∃ob ib:Nat,sat h (v7 ob s.out::A0w ib s.bA::B0L b last A s ob ib::R):=by
 intro h R hs
 obtain⟨X,rfl,h1⟩:=A0j.1 hs
 obtain⟨⟨nb,s'⟩,hp,rfl⟩:=E3.1 hm
 obtain⟨l1,l2,rfl⟩:=H0 hp
 obtain⟨m,ob,ib,h2⟩:=C0c h1
 refine⟨ob,ib,?_⟩
 have h3:sat h (B0L b last ((l1++(nb,s')::l2).map (·.2)) s' ob ib::v7 ob s'.out::A0w ib s'.bA::R):=B1x.2 ⟨l1,l2,nb,m,rfl,h2.re [2,3,4,5,0,1]⟩
 exact h3.re [1,2,0]
theorem A82{l1 l2:List W7}{s:W7}{f:W7→W7}(hn:((l1++s::l2).map (·.id)).Nodup):Y4 s.id f (l1++s::l2)=l1++f s::l2:=by
 unfold Y4
 rw[B8,B5,G3] at hn
 have e1:l1.map (fun x=>if x.id=s.id then f x else x)=l1:=by
  have:l1.map (fun x=>if x.id=s.id then f x else x)=l1.map id:=I2 fun x hx=>if_neg (hn.2.2 _ (B4 hx) _ (B6 ..))
  rw[this,U2]
 have e2:l2.map (fun x=>if x.id=s.id then f x else x)=l2:=by
  have:l2.map (fun x=>if x.id=s.id then f x else x)=l2.map id:=I2 fun x hx=>by
   rw[if_neg (fun e:x.id=s.id=>(G0.1 hn.2.1).1 (e▸B4 (f:=(·.id)) hx))];rfl
  rw[this,U2]
 rw[B8,B5,e1,e2,if_pos rfl]
theorem B5l{b ob ib:Nat}{last:Int}{A:List W7}{s:W7}{o:b7}{i:y9}:∀h,sat h (v7 ob o::A0w ib i::B0L b last A s ob ib::R)→sat h (A1g b last (Y4 s.id (fun x=>{x with out:=o,bA:=i}) A)::R):=by
 intro h hs
 obtain⟨l1,l2,nb,m,rfl,h1⟩:=B1x.1 (hs.re [2,0,1])
 have au:(((l1++(nb,s)::l2).map (·.2)).map (·.id)).Nodup:=by
  have:=(h1.re [2,0,1]).bK
  rw[F3] at this
  rw[F3]
  exact this
 rw[B8,B5] at au
 rw[B8,B5]
 have e0:=A82 (f:=fun x=>{x with out:=o,bA:=i}) au
 rw[e0]
 refine A0j.2 ⟨l1++(nb,{s with out:=o,bA:=i})::l2,by simp,s7.2 ⟨m,?_⟩⟩
 have e:(l1++(nb,{s with out:=o,bA:=i})::l2).map q9=(l1++(nb,s)::l2).map q9:=by simp[q9]
 rw[e]
 have h2:sat h (A3N nb {s with out:=o,bA:=i}::b8 (fun p=>A3N p.1 p.2) (l1++l2)::cells b #[.int .i64 last,.map (some m)]::mapA eKI eVP m ((l1++(nb,s)::l2).map q9)::R):=
  A1Q.2 ⟨ob,ib,h1.re [0,4,5,3,1,2]⟩
 have h3:sat h (b8 (fun p=>A3N p.1 p.2) (l1++(nb,{s with out:=o,bA:=i})::l2)::cells b #[.int .i64 last,.map (some m)]::mapA eKI eVP m ((l1++(nb,s)::l2).map q9)::R):=k8.2 h2
 exact h3.re [1,2,0]
theorem C9U{b ob ib:Nat}{last:Int}{A:List W7}{s:W7}(hq:At (v7 ob s.out::A0w ib s.bA::B0L b last A s ob ib::L3) (Q (at0 ob)))(hx:Has L (v7 ob s.out) L1:=by repeat first|with_reducible exact V5|apply V7)(hy:Has L1 (A0w ib s.bA) L2:=by repeat first|with_reducible exact V5|apply V7)(hz:Has L2 (B0L b last A s ob ib) L3:=by repeat first|with_reducible exact V5|apply V7):
  FW prog 56 #[at0 b,.int .i64 s.id] L Q:=fun h hs=>by
 have h1:=(hx.cQ hy hz).s hs
 have h2:=hq h h1
 obtain⟨l1,l2,nb,m,rfl,h3⟩:=B1x.1 (h1.re [2,0,1])
 exact C61 (p:=(nb,s)) (o:=s.out) rfl (h3.re [4,5,0,1,2,3]) h2
theorem D0l{b ob ib:Nat}{last:Int}{A:List W7}{s:W7}(hq:At (v7 ob s.out::A0w ib s.bA::B0L b last A s ob ib::L3) (Q (at0 ib)))(hx:Has L (v7 ob s.out) L1:=by repeat first|with_reducible exact V5|apply V7)(hy:Has L1 (A0w ib s.bA) L2:=by repeat first|with_reducible exact V5|apply V7)(hz:Has L2 (B0L b last A s ob ib) L3:=by repeat first|with_reducible exact V5|apply V7):
  FW prog 106 #[at0 b,.int .i64 s.id] L Q:=fun h hs=>by
 have h1:=(hx.cQ hy hz).s hs
 have h2:=hq h h1
 obtain⟨l1,l2,nb,m,rfl,h3⟩:=B1x.1 (h1.re [2,0,1])
 exact C7T (p:=(nb,s)) (o:=s.out) rfl (h3.re [4,5,0,1,2,3]) h2
theorem C4P{k:Int}{A:List W7}{s:W7}(h:A5x k A=some s):s∈A∧s.id=k:=⟨H2 h,by simpa using N3 h⟩
theorem C4Q{k:Int}{A:List W7}(h:A5x k A=none):∀s∈A,s.id≠k:=fun s hs=>by simpa using E7.1 h s hs
theorem C4O{k:Int}{A:List W7}{s t:W7}(hn:(A.map (·.id)).Nodup)(h:A5x k A=some s)(ht:t∈A)(hk:t.id=k):t=s:=by
 obtain⟨h1,h2⟩:=C4P h
 obtain⟨l1,l2,rfl⟩:=H0 h1
 rw[B8,B5,G3] at hn
 rcases C7.1 ht with hm|hm
 ·exact absurd (hk.trans h2.symm) (hn.2.2 _ (B4 hm) _ (B6 ..))
 ·rcases D3.1 hm with rfl|hm
  ·rfl
  ·exact absurd (B4 (f:=(·.id)) hm) (by rw[hk,←h2];exact(G0.1 hn.2.1).1)
theorem B6s{l1 l2:List W7}{s:W7}(hn:((l1++s::l2).map (·.id)).Nodup):(l1++s::l2).filter (fun x=>decide (x.id≠s.id))=l1++l2:=by
 rw[B8,B5,G3] at hn
 rw[F4,G2 (by simp)]
 have e1:l1.filter (fun x=>decide (x.id≠s.id))=l1:=H3.2 fun x hx=>by
  have:=hn.2.2 _ (B4 (f:=(·.id)) hx) _ (B6 ..)
  simpa using this
 have e2:l2.filter (fun x=>decide (x.id≠s.id))=l2:=H3.2 fun x hx=>by
  have:x.id≠s.id:=fun e=>(G0.1 hn.2.1).1 (e▸B4 (f:=(·.id)) hx)
  simpa using this
 rw[e1,e2]
theorem C8j{b:Nat}{last:Int}{A:List W7}{k:Int}(hq:At (A1g b last (A4T k A).2::L1) (Q (.bool (A4T k A).1)))(hx:Has L (A1g b last A) L1:=by repeat first|with_reducible exact V5|apply V7):FW prog 95 #[at0 b,.int .i64 k] L Q:=fun h hs=>by
 have h1:=hx.s hs
 have au:=C3n h1
 obtain⟨X,rfl,h2⟩:=A0j.1 h1
 unfold A4T at hq
 have none_of:(∀p∈X,p.2.id≠k)→A5x k (X.map (·.2))=none:=fun ay=>E7.2 fun s hs=>by
  obtain⟨p,hp,rfl⟩:=E3.1 hs
  simpa using ay p hp
 have some_of:∀p∈X,p.2.id=k→A5x k (X.map (·.2))=some p.2:=fun p hp hk=>by
  cases hg:A5x k (X.map (·.2)) with
  |none=>exact absurd hk (C4Q hg p.2 (B4 hp))
  |some s=>rw[C4O au hg (B4 hp) hk]
 refine C65 h2 (fun ay=>?_) (fun p hp hk dL=>?_) (fun l1 p l2 he hk aV eB h' af=>?_) (fun l1 p l2 he hk aV eB h' af=>?_)
 ·rw[none_of ay] at hq
  exact hq h h1
 ·rw[some_of p hp hk] at hq
  simp only[dL,if_true] at hq
  exact hq h h1
 ·subst he
  rw[some_of p (by simp) hk] at hq
  simp only[aV,eB,if_true,if_neg (show ¬(true=false) by decide)] at hq
  refine hq h' (A0j.2 ⟨_,?_,af⟩)
  subst hk
  rw[B8,B5,B8,B5]
  rw[B8,B5] at au
  rw[A82 au]
  rfl
 ·subst he
  rw[some_of p (by simp) hk] at hq
  simp only[aV,eB,if_neg (show ¬(true=false) by decide),if_neg (show ¬(false=true) by decide)] at hq
  refine hq h' (A0j.2 ⟨_,?_,af⟩)
  subst hk
  rw[B8,B8,B5]
  rw[B8,B5] at au
  rw[B6s au]
end
section
open Go.Proofs Go.Shelf
def A7W:Go.Shelf.Ren:=⟨fun n=>match n with|7=>85|10=>132|n=>n,fun n=>match n with|23=>211|26=>9|3=>4|28=>216|0=>0|27=>215|33=>107|4=>4|n=>n,fun n=>n⟩
theorem C6e:SlLaysZ.n7 prog A7W where
 mixed:=by kernel_rfl
 f7:=⟨f85.name,by kernel_rfl,func85.trans (congrArg some (by kernel_rfl))⟩
 f10:=⟨f132.name,by kernel_rfl,func132.trans (congrArg some (by kernel_rfl))⟩
 t0:=underlying0
 a0:=isAgg0
 z0:=sizeOf0
 v0:=zeroValue0
 t4:=underlying4
 a4:=isAgg4
 z4:=sizeOf4
 v4:=zeroValue4
 t23:=underlying211
 a23:=isAgg211
 z23:=sizeOf211
 v23:=zeroValue211
 t26:=underlying9
 a26:=isAgg9
 z26:=sizeOf9
 v26:=zeroValue9
 t27:=underlying215
 a27:=isAgg215
 z27:=sizeOf215
 v27:=zeroValue215
 t28:=underlying216
 a28:=isAgg216
 z28:=sizeOf216
 v28:=zeroValue216
 t33:=underlying107
 a33:=isAgg107
 z33:=sizeOf107
 v33:=zeroValue107
open Go.H Go.Proofs
variable {h h0:Heap} {R:List Asn}
def A71(f:B4p):List B4p→List B4p
 |[]=>[f]
 |x::l=>if x=f then x::l else if ltS f x then f::x::l else x::A71 f l
theorem B6j(f x:B4p):∀l:List B4p,x∈A71 f l↔x=f∨x∈l
 |[]=>by simp[A71]
 |y::l=>by
  unfold A71
  by_cases h1:y=f
  ·rw[if_pos h1]
   subst h1
   simp
  ·rw[if_neg h1]
   by_cases h2:ltS f y
   ·rw[if_pos h2];simp
   ·rw[if_neg h2,D3,B6j f x l,D3]
    constructor
    ·rintro(h|h|h)<;>simp[h]
    ·rintro(h|h|h)<;>simp[h]
theorem C0Z(f:B4p):∀l:List B4p,(A71 f l).length≤l.length+1
 |[]=>by simp[A71]
 |y::l=>by
  unfold A71
  split
  ·simp
  ·split
   ·simp
   ·have:=C0Z f l
    simp only[B7];omega
theorem C00(f:B4p):∀{l:List B4p},l.Pairwise ltS→(A71 f l).Pairwise ltS
 |[],_=>by simp[A71]
 |y::l,h=>by
  obtain⟨h1,h2⟩:=H4.1 h
  unfold A71
  by_cases e1:y=f
  ·rw[if_pos e1];exact h
  ·rw[if_neg e1]
   by_cases e2:ltS f y
   ·rw[if_pos e2]
    refine H4.2 ⟨fun z hz=>?_,h⟩
    rcases D3.1 hz with rfl|hz
    ·exact e2
    ·exact B7A.trans e2 (h1 z hz)
   ·rw[if_neg e2]
    refine H4.2 ⟨fun z hz=>?_,C00 f h2⟩
    rcases(B6j f z l).1 hz with rfl|hz
    ·rcases B7A.fT y z with e|e|e
     ·exact absurd e e1
     ·exact e
     ·exact absurd e e2
    ·exact h1 z hz
def A0D(L:List Ent):List B4p:=L.foldl (fun out e=>A71 e.2.1 out) []
theorem B6u(L:List Ent)(e:Ent):A0D (L++[e])=A71 e.2.1 (A0D L):=by unfold A0D;rw[List.foldl_append];rfl
theorem A78:∀(n:Nat) (L:List Ent),L.length=n→(A0D L).Pairwise ltS∧(A0D L).length≤L.length∧∀f,f∈A0D L↔f∈L.map (·.2.1)
 |0,L,h=>by
  have:L=[]:=List.eq_nil_of_length_eq_zero h
  subst this
  simp[A0D]
 |n+1,L,h=>by
  have bS:L≠[]:=by intro e;subst e;simp at h
  obtain⟨h1,h2,h3⟩:=A78 n L.dropLast (by simp;omega)
  have e:=List.dropLast_concat_getLast bS
  rw[←e,B6u]
  refine⟨C00 _ h1,?_,fun f=>?_⟩
  ·have:=C0Z (L.getLast bS).2.1 (A0D L.dropLast)
   simp only[B3,B7,G1]
   omega
  ·rw[B6j,h3,B8,C7]
   simp only[B5,I3,B9]
   exact Or.comm
theorem B7C{K V:Type}[DecidableEq K](l:List (K×V))(k a:K)(v:V):a∈(mset l k v).map (·.1)↔a=k∨a∈l.map (·.1):=by
 cases hk:X0 l k with
 |none=>
  rw[A2Y l k v hk,B8,C7]
  simp only[B5,I3,B9]
  exact Or.comm
 |some w=>
  rw[A44 hk]
  constructor
  ·exact .inr
  ·rintro(rfl|h)
   ·exact B4 (f:=(·.1)) (A4k hk)
   ·exact h
theorem C11{M:List (B4p×Bool)}{L:List Ent}(hn:(M.map (·.1)).Nodup)(hm:∀f,f∈M.map (·.1)↔f∈L.map (·.2.1)):A5c (M.map (·.1))=A0D L∧M.length≤L.length:=by
 obtain⟨h1,h2,h3⟩:=A78 _ L rfl
 have au:(A0D L).Nodup:=h1.imp fun dg e=>by subst e;exact B7A.eG _ dg
 have hp:(M.map (·.1)).Perm (A0D L):=(P8 hn au).2 fun f=>(hm f).trans (h3 f).symm
 refine⟨B7W hp h1,?_⟩
 have:=hp.length_eq
 rw[C0] at this
 omega
abbrev C6y:Bool→Value:=Kind.val (.one .bool)
def C4U(x1 x2:Nat)(l:List Ent):Asn:=exA fun M:List (B4p×Bool)=>star (pr (∀f,f∈M.map (·.1)↔f∈l.map (·.2.1))) (star (cells x2 #[.map (some x1)]) (mapA A7m C6y x1 M))
theorem B2z{x1 x2:Nat}{l:List Ent}:sat h (C4U x1 x2 l::R)↔∃M:List (B4p×Bool),(∀f,f∈M.map (·.1)↔f∈l.map (·.2.1))∧sat h (cells x2 #[.map (some x1)]::mapA A7m C6y x1 M::R):=by
 unfold C4U
 rw[sat.aZ]
 simp only[sat.aI,sat.bB]
theorem B7P{x1 x2:Nat}{l:List Ent}{e:Ent}(hs:sat h (C4U x1 x2 l::R)){Q:Value→Heap→Prop}(hq:∀h',sat h' (C4U x1 x2 (l++[e])::R)→Q (.tuple #[]) h'):
  V9 prog 83 #[.agg #[.int .i64 e.1,.string e.2.1,.int .i64 e.2.2],.pointer (some ⟨x2,0,none⟩)] h Q:=by
 refine A48 (e.1,e.2.1,e.2.2,()) ⟨x2,0,none⟩ h Q ?_
 delta A38 bn jt lm nw pu vi
 obtain⟨M,hM,aa⟩:=B2z.1 hs
 refine W5 aa fun x h1 ae=>?_
 refine⟨some x1,ae.p1.cell 0,e.2.1,by rw[V0];exact ae.cell 1,?_⟩
 (try dsimp only);rw[U7]
 refine A33 kS9 C3L (ev:=C6y) (x:=true) (ae.re [2,1,0]) fun h2 ai=>?_
 refine hq h2 (B2z.2 ⟨mset M e.2.1 true,fun f=>?_,(ai.re [1,0,2]).p2.drop⟩)
 rw[B7C,hM,B8,C7]
 simp only[B5,I3,B9]
 exact Or.comm
theorem B7s{t:Nat}{L:List Ent}(hl:L.length≤10000)(hs:sat h (j5 t L::R)){Q:Value→Heap→Prop}
  (hq:∀(s:Slc) h',sat h' (V1 eS 1 s (A0D L)::j5 t L::R)→Q (.slice s.a s.len s.cap) h'):
  V9 prog 44 #[at9 t] h Q:=by
 refine A6Q (some ⟨t,0,none⟩) h Q ?_
 delta A5U az bn cc cx ie kp lm nn nw pu sx vz
 (try dsimp only);rw[V4,if_neg (by simp)]
 have bz:=A6L hs
 refine A57 (ek:=A7m) (ev:=C6y) hs fun x1 h1 aa=>?_
 refine W5 aa fun x2 h2 ae=>?_
 (try dsimp only);rw[U7]
 refine X3 ae (by simp) rfl fun rY ba=>?_
 obtain⟨N,C,hA,hC,ai⟩:=A0e.1 ba.p2
 obtain⟨cd,qG⟩:=B47 ai
 have hk:QOK N:=fun p nd hp=>(qG p nd hp).1
 obtain⟨rb,cm,hT,bk⟩:=A1M.1 ai
 have ak:sat rY (cells t (trC rb cm)::p7 N::mapA A08 A1y cm C::cells x2 #[.map (some x1)]::mapA A7m C6y x1 []::R):=bk
 clear bk ai ae ba aa hs
 have hp:=B2E hT hA hk
 obtain⟨r,fb,cL⟩:=hT.root
 refine⟨_,rfl,some ⟨rb,0,none⟩,by rw[V0];exact ak.cell 0,?_⟩
 have ep:(Value.pointer (some ⟨rb,0,none⟩))=.pointer (o5 r):=by unfold o5;rw[cL]
 (try dsimp only);rw[ep]
 have hJ:sat rY (C4U x1 x2 []::cells t (trC rb cm)::p7 N::mapA A08 A1y cm C::R):=B2z.2 ⟨[],by simp,ak.re [3,4,0,1,2]⟩
 refine u6 (C1F hT (hA.fA hk) (yv:=.func (.func 83) #[] #[.pointer (some ⟨x2,0,none⟩)]) (J:=C4U x1 x2)
  (fun l e h R Q gB af ed=>⟨_,_,_,rfl,call83,B7P af fun h' jT=>⟨(),rfl,ed h' jT⟩⟩)
  _ [] r rfl fb (A:=cells t (trC rb cm)) (s:=⟨none,0,0⟩) (l:=[]) (fun _=>B9e) (by rw[A30];exact hJ.re [2,0,1,3]) (by rw[A30,hp.length_eq];simp;omega) fun l' h3 gC aj=>⟨(),rfl,?_⟩)
 rw[A30] at gC aj
 rw[F0] at aj
 obtain⟨M,hM,aw⟩:=B2z.1 aj.p1
 clear aj ak hJ
 have vY:∀f,f∈M.map (·.1)↔f∈L.map (·.2.1):=fun f=>(hM f).trans ((gC.trans hp).map _).mem_iff
 have au:=aw.p1.bK
 obtain⟨e1,e2⟩:=C11 au vY
 refine⟨some x1,aw.cell 0,?_⟩
 refine V3 ?_
 refine B6d (ρk:=A7W) C6e (some x1) ?_
 refine⟨_,rfl,?_⟩
 have aC:=(aw.bI (T:=A7W.t 23) (cs:=#[.map (some x1)]))
 refine V3 ?_
 refine B1z (ρk:=A7W) (ρs:=A81) (ρt:=B0O) C6e C3o C5A rfl (enters_of func131 (by kernel_rfl) rfl) (enters_of func132 (by kernel_rfl) rfl) (aC.re [2,0,1])
  (fun p ir=>?_) (by omega) (aC.cell 0) fun sl h4 bq=>?_
 ·obtain⟨x,hx,e⟩:=E3.1 ((vY p.1).1 (B4 ir))
  have:=A2U (A0o (bz.1 x hx))
  rw[←e]
  exact C4 this (by decide)
 rw[e1] at bq
 refine⟨sl,rfl,?_⟩
 refine hq sl h4 ?_
 have eA:sat h4 (cells t (trC rb cm)::p7 N::mapA A08 A1y cm C::V1 eS 1 sl (A0D L)::R):=(bq.re [5,4,6,0,1,2,3]).re [0,1,2,3,4,5,6]|>fun hh=>(hh.re [4,5,6,0,1,2,3]).drop.drop.drop
 exact(A0e.2 ⟨N,C,hA,hC,A1M.2 ⟨rb,cm,hT,eA⟩⟩).p1
structure FiS(f:B4p)(F:List B4p)(k:Nat)(put:Bool)(nx:List B4p):Prop where
 eq:nx++(if put=true then F.drop k else A71 f (F.drop k))=A71 f F
 no:put=false→nx=F.take k
 len:nx.length≤k+1
theorem FiS.nil(f:B4p)(F:List B4p):FiS f F 0 false []:=⟨by simp,by simp,by simp⟩
theorem FiS.step{f:B4p}{F nx:List B4p}{k:Nat}{put:Bool}{y:B4p}(h:FiS f F k put nx)(hy:F[k]? =some y):
  FiS f F (k+1) ((put||decide (y=f))||(!(put||decide (y=f))&&decide (ltS f y))) ((if(!(put||decide (y=f))&&decide (ltS f y))=true then nx++[f] else nx)++[y]):=by
 have ah:=(D4.1 hy).1
 have fI:F.drop k=y::F.drop (k+1):=by
  rw[E0 ah]
  rw[B0 ah] at hy
  rw[R8 hy]
 have aR:F.take (k+1)=F.take k++[y]:=by rw[H5,hy];rfl
 obtain⟨he,hn,hl⟩:=h
 rw[fI] at he
 cases put with
 |true=>
  simp only[if_true] at he
  refine⟨by simpa using he,by simp,by simp;omega⟩
 |false=>
  have bh:=hn rfl
  have ke:nx.length≤k:=by rw[bh];simp;omega
  simp only[H7,if_false] at he
  have hi:A71 f (y::F.drop (k+1))=if y=f then y::F.drop (k+1) else if ltS f y then f::y::F.drop (k+1) else y::A71 f (F.drop (k+1)):=rfl
  rw[hi] at he
  by_cases h1:y=f
  ·rw[if_pos h1] at he
   refine⟨by simpa[h1] using he,by simp[h1],by simp[h1];omega⟩
  ·rw[if_neg h1] at he
   by_cases h2:ltS f y
   ·rw[if_pos h2] at he
    refine⟨by simpa[h1,h2] using he,by simp[h1,h2],by simp[h1,h2];omega⟩
   ·rw[if_neg h2] at he
    refine⟨by simpa[h1,h2] using he,by simp[h1,h2,aR,bh],by simp[h1,h2];omega⟩
theorem FiS.done{f:B4p}{F nx:List B4p}{put:Bool}(h:FiS f F F.length put nx):(if put=true then nx else nx++[f])=A71 f F:=by
 obtain⟨he,hn,hl⟩:=h
 rw[K9] at he
 cases put with
 |true=>simpa using he
 |false=>simpa[A71] using he
theorem B7y{r:Nat}{L:List Ent}(hl:L.length≤10000)(hs:sat h (A0l r L::R)){Q:Value→Heap→Prop}
  (hq:∀(o:Slc) h',sat h' (V1 eS 1 o (A0D L)::A0l r L::R)→Q (.slice o.a o.len o.cap) h'):
  V9 prog 52 #[at9 r] h Q:=by
 refine A98 (some ⟨r,0,none⟩) h Q ?_
 delta B0v az bn ie ix kc kt lt nn nw pu ve wi
 obtain⟨s,aa⟩:=A06.1 hs
 have hlen:=aa.p1.aW
 rw[U7]
 refine A6x (γ:=Nat) (fun g x h'=>g≤L.length∧x.2.1=(g:Int)∧sat h' (cells r #[.slice s.a s.len s.cap]::V1 b6 3 s L::V1 eS 1 x.1 (A0D (L.take g))::R)) (fun g=>L.length-g) 0
  ⟨C9 _,rfl,by simpa[A0D] using(Z2 (enc:=eS) (size:=1) aa).re [1,2,0]⟩ ?_
 clear aa hs
 rintro i ⟨o,ci,⟨⟩⟩ h2 ⟨hi,bN,ae⟩ K bh hd
 simp only at hi bN ae
 subst bN
 refine⟨_,rfl,s,by rw[V0];exact ae.cell 0,?_⟩
 (try dsimp only);rw[V4]
 by_cases ah:i<L.length
 ·rw[if_pos (by simp only[decide_eq_true_eq];omega)]
  have hx:=B0 ah
  generalize L[i]=e at hx
  refine⟨_,rfl,s,by rw[V0];exact ae.cell 0,?_⟩
  (try dsimp only);rw[U7]
  refine Y0 (ae.p1.aN A0U) hx fun a ha=>?_
  refine⟨e.2.1,ha 1 _ rfl,?_⟩
  have dD:A0D (L.take (i+1))=A71 e.2.1 (A0D (L.take i)):=by rw[H5,hx];exact B6u _ _
  have mm:(A0D (L.take i)).length≤10000:=C4 (A78 _ _ rfl).2.1 (by rw[D6];omega)
  generalize A0D (L.take i)=F at ae mm dD
  have gl:=ae.p2.aW
  refine cut (fun z h'=>∃nx:List B4p,FiS e.2.1 F F.length z.1 nx∧sat h' (cells r #[.slice s.a s.len s.cap]::V1 b6 3 s L::V1 eS 1 z.2.1 nx::V1 eS 1 o F::R)) ?_ ?_
  ·intro K2 aQ
   refine B2j F.length (fun k z h'=>z.2.2.1=(k:Int)∧∃nx:List B4p,FiS e.2.1 F k z.1 nx∧
     sat h' (cells r #[.slice s.a s.len s.cap]::V1 b6 3 s L::V1 eS 1 z.2.1 nx::V1 eS 1 o F::R))
    ⟨rfl,[],FiS.nil _ _,(Z2 (enc:=eS) (size:=1) ae).re [1,2,0,3]⟩ (fun k z h' hk hJ=>by rw[hJ.1,gl];exact F8.2 (by omega)) (fun z h' hJ K3 qW=>?_) (fun k z h' ah hJ K3 nV qW=>?_)
   ·obtain⟨hz,nx,hF,ai⟩:=hJ
    exact qW _ _ (aQ _ _ ⟨nx,hF,ai⟩)
   ·obtain⟨zb,zs,zi,⟨⟩⟩:=z
    obtain⟨hz,nx,hF,ai⟩:=hJ
    simp only at hz hF ai
    subst hz
    have hy:=B0 ah
    generalize F[k]=y at hy
    have xq:=hF.len
    have bF:=hF.step hy
    have uZ:=ai.p3.aN A0Y
    (try dsimp only);rw[U7]
    refine Y0 uZ hy fun a ha=>?_
    refine⟨y,ha 0 _ rfl,?_⟩
    refine cut (fun w aY=>w.1=(zb||decide (y=e.2.1))∧aY=h') ?_ ?_
    ·intro K4 dh
     (try dsimp only);rw[V4]
     by_cases kr:y=e.2.1
     ·rw[if_pos (by simpa using kr)]
      exact dh _ _ ⟨by simp[kr],rfl⟩
     ·rw[if_neg (by simpa using kr)]
      exact dh _ _ ⟨by simp[kr],rfl⟩
    rintro⟨w,⟨⟩⟩ aY ⟨hw,rfl⟩
    simp only at hw
    rw[←hw] at bF
    refine cut (fun v h4=>v.1=(!w &&decide (ltS e.2.1 y))∧h4=aY) ?_ ?_
    ·intro K4 dh
     (try dsimp only);rw[V4]
     rcases Bool.eq_false_or_eq_true w with pW|pW
     ·rw[if_neg (by simp[pW])]
      exact dh _ _ ⟨by simp[pW],rfl⟩
     ·rw[if_pos (by simp[pW])]
      (try dsimp only);rw[U7]
      refine Y0 uZ hy fun a2 bQ=>?_
      refine⟨y,bQ 0 _ rfl,?_⟩
      exact dh _ _ ⟨by simp only;rw[B6a,pW];simp,rfl⟩
    rintro⟨v,⟨⟩⟩ h4 ⟨hv,rfl⟩
    simp only at hv
    rw[←hv] at bF
    refine cut (fun u h5=>∃nx':List B4p,nx'=(if v=true then nx++[e.2.1] else nx)∧u.2.1=(w||v)∧sat h5 (cells r #[.slice s.a s.len s.cap]::V1 b6 3 s L::V1 eS 1 u.1 nx'::V1 eS 1 o F::R)) ?_ ?_
    ·intro K4 dh
     (try dsimp only);rw[V4]
     rcases Bool.eq_false_or_eq_true v with nM|nM
     ·rw[if_pos nM]
      refine A0H (x:=e.2.1) A0Y A8c rfl ai.p2 (by decide) (by decide) (by omega) fun s' h5 aj=>?_
      exact dh _ _ ⟨nx++[e.2.1],by rw[if_pos nM],by rw[nM];simp,aj.re [1,2,0]⟩
     ·rw[if_neg (by simp[nM])]
      exact dh _ _ ⟨nx,by rw[if_neg (by simp[nM])],by rw[nM];simp,ai⟩
    rintro⟨us,ub,⟨⟩⟩ h5 ⟨nx',qt,uW,aj⟩
    simp only at uW aj
    subst uW
    rw[←qt] at bF
    have yG:nx'.length≤k+2:=by
     rw[qt]
     split
     ·simp;omega
     ·omega
    (try dsimp only);rw[U7]
    refine Y0 (aj.p3.aN A0Y) hy fun a3 hP=>?_
    refine⟨y,hP 0 _ rfl,?_⟩
    refine A0H (x:=y) A0Y A8c rfl aj.p2 (by decide) (by decide) (by omega) fun s' h6 aw=>?_
    exact nV _ _ ⟨by rw[W6 (by omega) (by omega)];rfl,nx'++[y],bF,aw.re [1,2,0]⟩
  rintro⟨zb,zs,zi,⟨⟩⟩ h3 ⟨nx,hF,ai⟩
  simp only at hF ai
  have bC:=hF.done
  have xq:=hF.len
  refine cut (fun u h4=>sat h4 (cells r #[.slice s.a s.len s.cap]::V1 b6 3 s L::V1 eS 1 u.1 (A0D (L.take (i+1)))::R)) ?_ ?_
  ·intro K4 dh
   rw[←bC] at dD
   (try dsimp only);rw[V4]
   cases zb with
   |true=>
    rw[if_pos rfl] at dD
    rw[if_neg (by simp)]
    exact dh _ _ (by rw[dD];exact(ai.re [3,0,1,2]).drop)
   |false=>
    rw[if_neg (by simp)] at dD
    rw[if_pos (by simp)]
    refine A0H (x:=e.2.1) A0Y A8c rfl ai.p2 (by decide) (by decide) (by omega) fun s' h5 aj=>?_
    exact dh _ _ (by rw[dD];exact(aj.re [3,1,2,0]).drop)
  rintro⟨u,⟨⟩⟩ h4 ak
  exact bh (i+1) _ _ (by omega) ⟨ah,by rw[W6 (by omega) (by omega)];rfl,ak⟩
 ·rw[if_neg (by simp only[decide_eq_true_eq];omega)]
  have:i=L.length:=by omega
  subst this
  rw[F5] at ae
  refine hd _ _ (hq o h2 ?_)
  have h3:sat h2 (A0l r L::V1 eS 1 o (A0D L)::R):=A06.2 ⟨s,ae⟩
  exact h3.p1
end
section
open Go.H Go.Proofs
variable {h h0:Heap} {L L' L1 L2 L3 R:List Asn} {Q:Value→Heap→Prop}
instance:Enc b6 3:=⟨A0U,A34,by decide⟩
instance:Enc A0q 3:=⟨A3X,A8d,by decide⟩
instance:Enc B6B 4:=⟨C6A,C3T,by decide⟩
instance:Enc eS 1:=⟨A0Y,A8c,by decide⟩
theorem A7a{c:B4p}{A:List W7}{s:W7}(h:ofS c A=some s):s∈A∧s.aD=c:=⟨H2 h,by simpa using N3 h⟩
theorem C50{c:B4p}{A:List W7}(h:ofS c A=none):∀s∈A,s.aD≠c:=fun s hs=>by simpa using E7.1 h s hs
theorem A7b{α β:Type}{f:α→β}{A:List α}(hn:(A.map f).Nodup){s t:α}(hs:s∈A)(ht:t∈A)(e:f s=f t):s=t:=by
 obtain⟨l1,l2,rfl⟩:=H0 hs
 rw[B8,B5,G3] at hn
 rcases C7.1 ht with hm|hm
 ·exact absurd e.symm (hn.2.2 _ (B4 hm) _ (B6 ..))
 ·rcases D3.1 hm with rfl|hm
  ·rfl
  ·exact absurd (B4 (f:=f) hm) (by rw[←e];exact(G0.1 hn.2.1).1)
theorem B2c{c:B4p}{A:List W7}{s:W7}(hn:(A.map (·.aD)).Nodup)(hs:s∈A)(hc:s.aD=c):ofS c A=some s:=by
 cases hg:ofS c A with
 |none=>exact absurd hc (C50 hg s hs)
 |some t=>
  obtain⟨h1,h2⟩:=A7a hg
  rw[A7b (f:=(·.aD)) hn h1 hs (h2.trans hc.symm)]
theorem B89{b:Nat}{last:Int}{A:List W7}{c:B4p}(hn:(A.map (·.aD)).Nodup)(hq:At (A1g b last A::L1) (Q (B8w ((ofS c A).map x9))))(hx:Has L (A1g b last A) L1:=by repeat first|with_reducible exact V5|apply V7):
  FW prog 55 #[at0 b,.string c] L Q:=fun h hs=>by
 obtain⟨X,rfl,h1⟩:=A0j.1 (hx.s hs)
 refine C5j h1 (fun ay h' af=>?_) (fun p hp hc h' af=>?_)
 ·have e:ofS c (X.map (·.2))=none:=E7.2 fun s hs=>by
   obtain⟨p,hp,rfl⟩:=E3.1 hs
   simpa using ay p hp
  rw[e] at hq
  exact hq h' (A0j.2 ⟨X,rfl,af⟩)
 ·rw[B2c hn (B4 hp) hc] at hq
  exact hq h' (A0j.2 ⟨X,rfl,af⟩)
def A0c(last:Int)(A:List W7)(c:B4p)(clean aO:Bool):(Int×Int×Bool)×Int×List W7:=
 if ¬i7 c then((133,0,false),last,A)
 else match ofS c A with
  |some s=>if clean=false then((0,s.id,true),last,Y4 s.id (fun s=>{s with on:=true,aO:=aO}) A)
   else((0,last+1,false),last+1,A.filter (fun x=>decide (x.id≠s.id))++[A2E (last+1) c aO])
  |none=>if 32≤A.length then((151,0,false),last,A) else((0,last+1,false),last+1,A++[A2E (last+1) c aO])
theorem C0k{b:Nat}{last:Int}{A:List W7}{c:B4p}{clean aO:Bool}(ht:U8 h0)(hsz:c.size≤9223372036854775807)(tR:0≤last)(fe:last<4611686018427387904)(hid:∀s∈A,s.id≤last)(hn:(A.map (·.aD)).Nodup)
  (hq:At (A1g b (A0c last A c clean aO).2.1 (A0c last A c clean aO).2.2::old h0::L2) (Q (.tuple #[.int .i64 (A0c last A c clean aO).1.2.1,.bool (A0c last A c clean aO).1.2.2,.int .u8 (A0c last A c clean aO).1.1])))
  (hx:Has L (A1g b last A) L1:=by repeat first|with_reducible exact V5|apply V7)(hy:Has L1 (old h0) L2:=by repeat first|with_reducible exact V5|apply V7):
  FW prog 69 #[at0 b,.string c,.bool clean,.bool aO] L Q:=fun h hs=>by
 have hg:=(hx.then hy).s hs
 have au:=C3n hg
 obtain⟨X,rfl,h1⟩:=A0j.1 hg
 unfold A0c at hq
 have none_of:(∀p∈X,p.2.aD≠c)→ofS c (X.map (·.2))=none:=fun ay=>E7.2 fun s hs=>by
  obtain⟨p,hp,rfl⟩:=E3.1 hs
  simpa using ay p hp
 refine C3l h1 ht hsz tR fe (fun p hp=>hid p.2 (B4 hp)) (fun hb h' af=>?_) (fun qJ ay hl h' af=>?_) (fun qJ bg l1 p l2 he hc h' af=>?_) (fun qJ L0 hL nb h' af=>?_)
 ·rw[if_pos hb] at hq
  exact hq h' (A0j.2 ⟨X,rfl,af⟩)
 ·rw[if_neg (by simpa using qJ),none_of ay] at hq
  simp only[C0,if_pos hl] at hq
  exact hq h' (A0j.2 ⟨X,rfl,af⟩)
 ·subst he
  rw[if_neg (by simpa using qJ),B2c hn (s:=p.2) (by simp) hc] at hq
  simp only[bg,if_true] at hq
  refine hq h' (A0j.2 ⟨_,?_,af⟩)
  rw[B8,B5,B8,B5]
  rw[B8,B5] at au
  rw[A82 au]
 ·rw[if_neg (by simpa using qJ)] at hq
  rcases hL with⟨ay,hl,rfl⟩|⟨bg,l1,p,l2,rfl,hc,rfl⟩
  ·rw[none_of ay] at hq
   simp only[C0,if_neg (show ¬32≤L0.length by omega)] at hq
   exact hq h' (A0j.2 ⟨_,by simp,af⟩)
  ·rw[B2c hn (s:=p.2) (by simp) hc] at hq
   simp only[bg,if_neg (show ¬(true=false) by decide)] at hq
   refine hq h' (A0j.2 ⟨_,?_,af⟩)
   rw[B8,B5] at au
   have e0:=B6s au
   rw[←B5,←B8] at e0
   rw[e0,B8,B8]
   rfl
theorem C3s{b:Nat}{last:Int}{A:List W7}(fe:last<4611686018427387904)(hid:∀s∈A,0≤s.id∧s.id≤last)(hlen:A.length≤32)(hr:(A.map (·.id)).Pairwise (·< ·))
  (hq:∀S:Slc,At (V1 B6B 4 S (A.map x9)::A1g b last A::L1) (Q (.slice S.a S.len S.cap)))(hx:Has L (A1g b last A) L1:=by repeat first|with_reducible exact V5|apply V7):FW prog 42 #[at0 b] L Q:=fun h hs=>by
 obtain⟨X,rfl,h1⟩:=A0j.1 (hx.s hs)
 refine C5h h1 fe (fun p hp=>hid p.2 (B4 hp)) (by simpa using hlen) fun sl xs h' e1 e2 af=>?_
 have e:=C7v (by rw[F3] at hr;exact hr) e1 e2
 subst e
 have:=hq sl h'
 rw[F3] at this
 exact this ((A0j.2 ⟨X,rfl,af.p1⟩:sat h' (A1g b last (X.map (·.2))::_)).p1)
theorem C5F(hq:∀b,At (A1g b 0 []::L) (Q (at0 b))):FW prog 27 #[] L Q:=fun h hs=>C0j hs fun b h' af=>hq b h' (A0j.2 ⟨[],rfl,af⟩)
theorem C8w(hq:∀b,At (A1k b []::L) (Q (B14 b))):FW prog 29 #[.int .i64 64] L Q:=fun h hs=>C0q hs 64 fun b h' af=>hq b h' (A3V.2 ⟨[],Sto.nil (by decide),af⟩)
theorem C8v{b:Nat}{K:List l7}{m:l7}(ht:TP h0)(hsz:m.1.size≤9223372036854775807)(hq:At (A1k b (B0R 64 K m).2::old h0::L2) (Q (.int .u8 (B0R 64 K m).1)))(hx:Has L (A1k b K) L1:=by repeat first|with_reducible exact V5|apply V7)(hy:Has L1 (old h0) L2:=by repeat first|with_reducible exact V5|apply V7):
  FW prog 79 #[B14 b,vM m] L Q:=fun h hs=>by
 obtain⟨l,hl,h1⟩:=A3V.1 ((hx.then hy).s hs)
 have eZ:=hl.set m
 refine C6Y h1 ht hsz fun h' af=>?_
 rw[eZ.1]
 exact hq h' (A3V.2 ⟨_,eZ.2,af⟩)
theorem C6f{b:Nat}{K:List l7}{f:B4p}(ht:TP h0)(hsz:f.size≤9223372036854775807)(hq:∀S:Slc,At (V1 A0q 3 S (A6z K f)::A1k b K::old h0::L2) (Q (.slice S.a S.len S.cap)))(hx:Has L (A1k b K) L1:=by repeat first|with_reducible exact V5|apply V7)(hy:Has L1 (old h0) L2:=by repeat first|with_reducible exact V5|apply V7):
  FW prog 110 #[B14 b,.string f] L Q:=fun h hs=>by
 obtain⟨l,hl,h1⟩:=A3V.1 ((hx.then hy).s hs)
 refine C62 h1 ht hsz (hl.lenL (by decide)).1 hl.small fun sl h' af=>?_
 rw[hl.hit f] at af
 exact hq sl h' ((A3V.2 ⟨l,hl,af.p1⟩:sat h' (A1k b K::_)).p1)
theorem C7f(hq:∀b,At (j5 b []::L) (Q (at9 b))):FW prog 28 #[] L Q:=fun h hs=>C4b hs fun b h' af=>hq b h' af
theorem C37{t:Nat}{E:List Ent}{n:B4p}(ht:TP h0)(hsz:n.size≤9223372036854775807)(hl:E.length≤10000)(hq:∀S:Slc,At (V1 b6 3 S (E.filter fun x=>Z8 x.2.1 n)::j5 t E::old h0::L2) (Q (.slice S.a S.len S.cap)))(hx:Has L (j5 t E) L1:=by repeat first|with_reducible exact V5|apply V7)(hy:Has L1 (old h0) L2:=by repeat first|with_reducible exact V5|apply V7):
  FW prog 80 #[at9 t,.string n] L Q:=fun h hs=>C0d ht hsz hl ((hx.then hy).s hs) fun S h' af=>hq S h' af
theorem C0a{t:Nat}{E:List Ent}{id:Int}(ht:TP h0)(hl:E.length≤10000)(hq:At (j5 t (A1q id E)::old h0::L2) (Q (.int .i64 ((A6w id E).length:Nat))))(hx:Has L (j5 t E) L1:=by repeat first|with_reducible exact V5|apply V7)(hy:Has L1 (old h0) L2:=by repeat first|with_reducible exact V5|apply V7):
  FW prog 71 #[at9 t,.int .i64 id] L Q:=fun h hs=>C1Y ht hl ((hx.then hy).s hs) fun h' af=>hq h' af
theorem C1U{t:Nat}{E:List Ent}{id:Int}{f:B4p}(ht:TP h0)(hsz:f.size≤16777216)(hl:E.length≤10000)(hq:At (j5 t (A1S E id f)::old h0::L2) (Q (.bool (decide ((A1S E id f).length<E.length)))))(hx:Has L (j5 t E) L1:=by repeat first|with_reducible exact V5|apply V7)(hy:Has L1 (old h0) L2:=by repeat first|with_reducible exact V5|apply V7):
  FW prog 111 #[at9 t,.int .i64 id,.string f] L Q:=fun h hs=>B1y ht hsz (by omega) ((hx.then hy).s hs) fun h' af=>hq h' af
theorem B99{t:Nat}{E:List Ent}(hl:E.length≤10000)(hq:∀S:Slc,At (V1 eS 1 S (A0D E)::j5 t E::L1) (Q (.slice S.a S.len S.cap)))(hx:Has L (j5 t E) L1:=by repeat first|with_reducible exact V5|apply V7):
  FW prog 44 #[at9 t] L Q:=fun h hs=>B7s hl (hx.s hs) fun S h' af=>hq S h' af
theorem C6O{E:List Ent}{i:Nat}{x:Ent}{k:Int×B4p}(ha:Asc E)(hi:E[i]? =some x)(hk:j3 x=k):E.findIdx? (fun x=>decide (j3 x=k))=some i:=by
 rw[J6]
 obtain⟨ah,hx⟩:=D4.1 hi
 refine⟨ah,by simp[hx,hk],fun j hj hc=>?_⟩
 have h1:=List.pairwise_iff_getElem.1 ha j i (by omega) ah hj
 simp only[decide_eq_true_eq] at hc
 rw[hx,hk,hc] at h1
 exact absurd h1 (A99.eG _)
theorem C7g{t:Nat}{E:List Ent}{id q:Int}{f:B4p}(ht:TP h0)(hsz:f.size≤9223372036854775807)(hl:E.length≤10000)(hq:At (j5 t (A2P E id f q).2::old h0::L2) (Q (.int .u8 (A2P E id f q).1)))(hx:Has L (j5 t E) L1:=by repeat first|with_reducible exact V5|apply V7)(hy:Has L1 (old h0) L2:=by repeat first|with_reducible exact V5|apply V7):
  FW prog 109 #[at9 t,C5p id f q] L Q:=fun h hs=>by
 have h1:=(hx.then hy).s hs
 have bz:=A6L h1
 unfold A2P at hq
 refine C4d ht hsz (by omega) h1 (fun hb h' af=>?_) (fun hb dZ h' af=>?_) (fun hb q0 q1 i x hi hk h' af=>?_) (fun hb q0 q1 ay hc h' af=>?_) (fun hb q0 q1 ay hc h' af=>?_)
 ·rw[if_pos hb] at hq;exact hq h' af
 ·rw[if_neg (by simp[hb]),if_pos dZ] at hq;exact hq h' af
 ·rw[if_neg (by simp[hb]),if_neg (by omega)] at hq
  have hf:E.findIdx? (fun x=>decide (j3 x=(id,f)))=some i:=C6O bz.2 hi hk
  rw[hf] at hq
  exact hq h' af
 ·rw[if_neg (by simp[hb]),if_neg (by omega),O3.2 (fun x hx=>by simpa using ay x hx)] at hq
  simp only[if_pos hc] at hq
  exact hq h' af
 ·rw[if_neg (by simp[hb]),if_neg (by omega),O3.2 (fun x hx=>by simpa using ay x hx)] at hq
  simp only[if_neg (show ¬64≤A1i E id by omega)] at hq
  exact hq h' af
end
end Go.Proofs.YtidlldnlphdhcaaGreatDoor